/- Part of the proofs of the statements of this seat. -/
import Derived.Test.YthfdbepkalpplaaGreatFW1
import Derived.Tactics
import Derived.Tactics2
import Derived.Defers
import Derived.Recover
import Derived.OneCell
import Derived.ChangeArms
import Derived.DataReads
import Derived.Carry
import Derived.ChangeSame
import Derived.WalkKit
import Derived.ProofKit
import Derived.OpenShut
set_option maxRecDepth 10000
set_option linter.unusedVariables false
set_option linter.unusedSimpArgs false
namespace Go.Fr.T
open Go Go.RowKit Go.Fr
section
variable {P:Program}{G:Nat->Option (Nat×TypeId)}{F:aA}{L:Loc}{ρ:Env}{M:TL}{τ:aG}
def Both (G:Nat->Option (Nat×TypeId)) (K:TK):dI:=fun F L ρ=>∃M τ,TS G F L ρ M τ/\K M τ
theorem lQ {k:Nat}{a:Option Addr}{c n:Nat}{t sz:Nat}{xs:List Value}(h:L.get k=some (.row (.slice a n c) t sz n xs)):aL F L (.rw k) (.v (.slice a n c)) :=
 ⟨_,rfl,by simp only[Rel];exact⟨a,c,t,sz,n,xs,rfl,h⟩⟩
theorem Sz {g:Nat}{F':aA}{t:TypeId}{cs:List C}{a:List Value}{fr:Nat×Nat}(c:F' g=some (.cells a.toArray t fr)) (h1:eW cs=true) (b:aB F' [] cs a):aL F' L (.pt cs 0) (.v (.pointer (some ⟨g,0,none⟩))) :=
 ⟨g,0,0,a,.inl ⟨rfl,rfl⟩,⟨0,_,t,fr,c,rfl,fun i v hi=>by simpa using hi⟩,h1,b⟩
theorem jF (he:∀j,aL F L (τ j) (ρ j)) {sz:Nat}:∀{xs:List X},qz τ sz xs=true->gC L ρ sz xs=true/\aQ F sz (uZ τ xs) (cellsOf L ρ xs)/\(uZ τ xs).length=xs.length
 | [],_=>⟨rfl,by simp only[uZ,cellsOf,aQ],rfl⟩
 | x::xs,h=>by
  simp only[qz] at h;split at h
  case h_2=>cases h
  rename_i h1 h2 h3 h4;obtain⟨k1,c,d⟩:=jF he h;have a:=iK he h1;have b:(aM (val L ρ x)).length=sz:=by rw[a.len];exact bZ h2
  refine⟨by simp only[gC,jv b];exact k1,?_,by simp only[uZ,aa8,d]⟩;simp only[uZ,cellsOf,aQ];exact⟨_,_,rfl,b,ol h3,lu (jA h4 a),c⟩
theorem fu {t:Nat}(h:Ue t=true):t<1048576/\t≠0:=by
 unfold Ue at h;split at h
 ·cases h
 ·rename_i h1;have:=abb h;exact⟨by omega,fun e=>by subst e;simp at h1⟩
theorem GR {t:TypeId}{x:X}{k:Nat}{K:TK}(f:TS G F L ρ M τ) (m:M.get k=none) (l:(dm τ x).okc=true) (b:t<1048576/\t≠0) (h:K (M.set k (.box t (cP (dm τ x)))) (bq (some k) (.own k 0) τ)) (g:Nat) :
  Both G K F (L.set k (.box g t (aM (val L ρ x)))) (put (some k) (.own k 0) ρ):=by
 have d:=cj f.tl m;have a:Ext L (L.set k (.box g t (aM (val L ρ x)))):=by
  intro j p e;refine⟨p,?_,Own.aai p⟩;rw[Loc.aac,o5 (by rintro rfl;rw[d] at e;cases e)];exact e
 have h1:=f.new (aA.le_refl F) d (o:=.box g t (aM (val L ρ x))) (to:=.box t (cP (dm τ x))) ⟨⟨b.1,.inl rfl,b.2⟩,(iK f.env l).ext (aA.le_refl F) a⟩;exact⟨_,_,h1.put (c:=.own k 0) (sv:=.own k 0) ⟨rfl,g,t,_,by rw[Loc.aac,fo rfl]⟩ (some k),h⟩
theorem Bb {t:TypeId}{zs:List Value}{k:Nat}{K:TK}(d:TS G F L ρ M τ) (e:M.get k=none) (a:t<1048576/\t≠0) (h:K (M.set k (.box t (zs.map rW))) (bq (some k) (.own k 0) τ)) (g:Nat) :
  Both G K F (L.set k (.box g t zs)) (put (some k) (.own k 0) ρ):=by
 have b:=cj d.tl e;have h1:=d.new (aA.le_refl F) b (o:=.box g t zs) (to:=.box t (zs.map rW)) ⟨⟨a.1,.inl rfl,a.2⟩,lp zs⟩;exact⟨_,_,h1.put (c:=.own k 0) (sv:=.own k 0) ⟨rfl,g,t,_,by rw[Loc.aac,fo rfl]⟩ (some k),h⟩
theorem GS {e n sz:Nat}{xs:List X}{d:Option Nat}{K:TK}(a:TS G F L ρ M τ) (j:qz τ sz xs=true) (l:xs.length=n) (o:n<=maxLen) (h:K M (bq d (.slx (uZ τ xs)) τ)) {g:Nat}{F':aA}(b:F.le F')
  (m:F' g=some (.cells (cellsOf L ρ xs).toArray e (0,0))):Both G K F' L (put d (.v (.slice (some ⟨g,0,none⟩) n n)) ρ):=by
 obtain⟨k1,f,k⟩:=jF a.env j;have hf:dO F' (some ⟨g,0,none⟩) 0 (cellsOf L ρ xs):=⟨_,_,_,_,rfl,m,rfl,fun i v hi=>by simpa using hi⟩;refine⟨_,_,(a.mono b).put (c:=.slx (uZ τ xs)) ⟨_,rfl,?_⟩ d,h⟩;simp only[Rel];exact⟨⟨g,0,none⟩,by rw[k,l],by omega,sz,(f.mono b).frz hf⟩
theorem NR {e n sz:Nat}{xs:List X}{k:Nat}{K:TK}(a:TS G F L ρ M τ) (l:qz τ sz xs=true) (d:xs.length=n) (m:n<=maxLen) (j:M.get k=none) (h:K (M.set k (.row e sz (uZ τ xs))) (bq (some k) (.rw k) τ)) (g:Nat) :
  Both G K F (L.set k (.row (.slice (some ⟨g,0,none⟩) n n) e sz n (cellsOf L ρ xs))) (put (some k) (.v (.slice (some ⟨g,0,none⟩) n n)) ρ):=by
 obtain⟨k1,f,p⟩:=jF a.env l;have b:=cj a.tl j;have h1:=a.new (aA.le_refl F) b (o:=.row (.slice (some ⟨g,0,none⟩) n n) e sz n (cellsOf L ρ xs)) (to:=.row e sz (uZ τ xs)) ⟨rfl,rfl,by rw[p,d],⟨m,_,_,rfl,fun e=>(by cases e)⟩,f⟩;exact⟨_,_,h1.put (c:=.rw k) (lQ (by rw[Loc.aac,fo rfl])) (some k),h⟩
theorem sL {e sz:Nat}{k:Nat}{els b:List (List C)}{d:Option Nat}{K:TK}(n:TS G F L ρ M τ) {s:Value}{xs f:List Value}(r:L.get k=some (.row s e sz els.length xs)) (m:aQ F sz els xs) (l:aQ F sz b f)
  (p:els.length+b.length<=maxLen) (h:K ((M.aad (C.kill k)).set k (.row e sz (els++b))) (bq d (.rw k) fun j=>(τ j).kill k)) {v:Value}(q:∃a c,v=.slice a (els.length+b.length) c/\(a=none->els.length+b.length=0)) :
  Both G K F (L.set k (.row v e sz (els.length+b.length) (xs++f))) (put d (.v v) ρ):=by
 obtain⟨a,c,rfl,o⟩:=q;have h1:=n.aaz (k:=k) (o':=.row (.slice a (els.length+b.length) c) e sz (els.length+b.length) (xs++f)) (to:=.row e sz (els++b)) (fun g t cs e=>by rw[r] at e;injection e with e;cases e)
  ⟨rfl,rfl,by simp,⟨p,a,c,rfl,o⟩,m.append l⟩
 exact⟨_,_,h1.put (c:=.rw k) (lQ (by rw[Loc.aac,fo rfl])) d,h⟩
theorem qE {e sz:Nat}{k:Nat}{b:List (List C)}{d:Option Nat}{K:TK}(j:TS G F L ρ M τ) {f:List Value}(p:M.get k=none) (l:aQ F sz b f)
  (q:b.length<=maxLen) (h:K (M.set k (.row e sz b)) (bq d (.rw k) τ)) {v:Value}(n:∃a c,v=.slice a (0+b.length) c/\(a=none->0+b.length=0)) :
  Both G K F (L.set k (.row v e sz (0+b.length) ([]++f))) (put d (.v v) ρ):=by
 obtain⟨a,c,rfl,m⟩:=n;have h1:=j.new (aA.le_refl F) (cj j.tl p) (o:=.row (.slice a (0+b.length) c) e sz (0+b.length) ([]++f)) (to:=.row e sz b) ⟨rfl,rfl,by simp,⟨by omega,a,c,rfl,m⟩,l⟩;exact⟨_,_,h1.put (c:=.rw k) (lQ (by rw[Loc.aac,fo rfl])) d,h⟩
theorem tU {x:X}{k e sz:Nat}{els:List (List C)}(d:TS G F L ρ M τ) (q:dm τ x=.rw k) (j:M.get k=some (.row e sz els)) :
  ∃a c xs,ev ρ x=.v (.slice a els.length c)/\L.get k=some (.row (.slice a els.length c) e sz els.length xs)/\aQ F sz els xs/\els.length<=maxLen:=by
 obtain⟨a,c,r,o,n,p,l,f⟩:=FH d.env q;obtain⟨v,xs,b,⟨m,_⟩,h⟩:=mM d.tl j;rw[f] at b;injection b with b
 injection b with q1 q2 q3 q4 q5
 subst q2 q3 q4 q5;exact⟨a,c,_,l,f,h,m⟩
set_option maxHeartbeats 1000000 in
theorem DC {e sz b:Nat}{s x:X}{d:Option Nat}{K:TK}(l:TS G F L ρ M τ) (h:ND e sz b (dm τ s) (dm τ x) d M τ K):∃sv xv,ev ρ s=.v sv/\ev ρ x=.v xv/\Gx F L e sz b sv xv fun L1 v=>Both G K F L1 (Fr.put d (.v v) ρ):=by
 have he:=l.env;simp only[ND,gH] at h;split at h
 ·rename_i k f hs n;split at h
  case h_2=>exact h.elim
  rename_i e' bm els p;split at h
  case h_2=>exact h.elim
  rename_i h1 h2;obtain rfl:=aaR h1;obtain rfl:=aaR h2;obtain⟨g1,m,q,g4⟩:=h;obtain⟨a,c,xs,e1,e2,hr,hm⟩:=tU l hs p;obtain⟨a',r,az,y,e4,e5,e6,e7⟩:=lO he n;obtain⟨w,y1,y2,y3⟩:=jE e7 g1;exact⟨_,_,e1,y,k,els.length,xs,f.length,w,.inl e2,⟨a',r,rfl,y1,y2.imp id .inl⟩,y3.ones,m,q,fun v hv=>sL l e2 hr y3 m g4 hv⟩
 ·rename_i f k hs n;split at h
  case h_2=>exact h.elim
  rename_i p;obtain⟨g1,m,q,g4⟩:=h;obtain⟨a',r,az,y,e4,e5,e6,e7⟩:=lO he n;obtain⟨w,y1,y2,y3⟩:=jE e7 g1;simp only[abO] at m q;exact⟨_,_,tO he hs,y,k,0,[],f.length,w,.inr (.inl ⟨cj l.tl p,rfl,rfl,rfl⟩),⟨a',r,rfl,y1,y2.imp id .inl⟩,y3.ones,m,q,fun v hv=>qE l p y3 (by omega) g4 hv⟩
 ·rename_i els f k hs n;split at h
  case h_2=>exact h.elim
  rename_i p;obtain⟨g0,bb,g1,m,q,g4⟩:=h;obtain⟨a,bv,e1,hm,e2⟩:=Cj he hs;obtain⟨a',r,az,y,e4,e5,e6,e7⟩:=lO he n;obtain⟨w,y1,y2,y3⟩:=jE e7 g1;obtain⟨xs,x1,x2,x3⟩:=jE e2 bb;refine⟨_,_,e1,y,k,els.length,xs,f.length,w,.inr (.inr ⟨cj l.tl p,a,rfl,g0,x1,x2⟩),⟨a',r,rfl,y1,y2.imp id .inl⟩,y3.ones,m,q,fun v hv=>?_⟩;obtain⟨av,cv,rfl,hn⟩:=hv;have h1:=l.new (aA.le_refl F) (cj l.tl p) (o:=.row (.slice av (els.length+f.length) cv) e sz (els.length+f.length) (xs++w)) (to:=.row e sz (els++f)) ⟨rfl,rfl,by simp,⟨m,av,cv,rfl,hn⟩,x3.append y3⟩;exact⟨_,_,h1.put (c:=.rw k) (lQ (by rw[Loc.aac,fo rfl])) _,g4⟩
 ·rename_i k k' hs n;have n:=Ci n;split at h
  case h_2=>exact h.elim
  rename_i e' bm els ba an f p t;split at h
  case h_2=>exact h.elim
  rename_i h1 h2 h3;obtain rfl:=aaR h1;obtain rfl:=aaR h2;obtain rfl:=aaR h3;obtain⟨g1,m,q,g4⟩:=h;obtain⟨a,c,xs,e1,e2,hr,hm⟩:=tU l hs p;obtain⟨a',r,w,y,e4,j,bj⟩:=tU l n t;refine⟨_,_,e1,y,k,els.length,xs,f.length,w,.inl e2,⟨a',r,rfl,iJ j,?_⟩,j.ones,m,q,fun v hv=>sL l e2 hr j m g4 hv⟩;cases a' with
  | some ad=>exact .inr (.inr ⟨k',_,_,_,_,_,ad,r,e4,rfl,rfl,fun i u hu=>hu⟩)
  | none =>
   obtain⟨v,bc,z,⟨_,a2,c2,q2,q3⟩,q4⟩:=mM l.tl t;rw[e4] at z;injection z with z
   injection z with r1 r2 r3 r4 r5
   rw[<-r1] at q2;injection q2 with q2
   have hz:=q3 q2.symm;have hl:=iJ j;refine .inr (.inl ⟨hz,List.length_eq_zero_iff.1 (by rw[hl,hz];simp)⟩)
 ·rename_i k' k hs n;have n:=Ci n;split at h
  case h_2=>exact h.elim
  rename_i ba an f p t;split at h
  case h_2=>exact h.elim
  rename_i h3;obtain rfl:=aaR h3;obtain⟨g1,m,q,g4⟩:=h;obtain⟨a',r,w,y,e4,j,bj⟩:=tU l n t;simp only[abO] at m q;refine⟨_,_,tO he hs,y,k,0,[],f.length,w,.inr (.inl ⟨cj l.tl p,rfl,rfl,rfl⟩),⟨a',r,rfl,iJ j,?_⟩,j.ones,m,q,fun v hv=>qE l p j (by omega) g4 hv⟩;cases a' with
  | some ad=>exact .inr (.inr ⟨k',_,_,_,_,_,ad,r,e4,rfl,rfl,fun i u hu=>hu⟩)
  | none =>
   obtain⟨v,bc,z,⟨_,a2,c2,q2,q3⟩,q4⟩:=mM l.tl t;rw[e4] at z;injection z with z
   injection z with r1 r2 r3 r4 r5
   rw[<-r1] at q2;injection q2 with q2
   have hz:=q3 q2.symm;have hl:=iJ j;refine .inr (.inl ⟨hz,List.length_eq_zero_iff.1 (by rw[hl,hz];simp)⟩)
 ·exact h.elim
theorem NS {e sz b:Nat}{zs:List Value}{s x:X}{d:Option Nat}{K:TK}(c:TS G F L ρ M τ) (h:bS P (.app e sz b zs s x) d M τ K):evalOp P (.app e sz b zs s x) d F L ρ (Both G K):=by
 obtain⟨sv,j,a,f,h3⟩:=DC c h;simp only[evalOp,a,f];exact h3
theorem KE {e sz b:Nat}{zs:List Value}{s x:X}{d:Option Nat}{K:TK}(c:TS G F L ρ M τ) (h:bS P (.appX e sz b zs s x) d M τ K):evalOp P (.appX e sz b zs s x) d F L ρ (Both G K):=by
 obtain⟨sv,o,f,l,⟨j,n,xs,m,a,h1,h2,h3,h4,h5,h6⟩⟩:=DC c h;simp only[evalOp,f,l];exact⟨j,n,xs,m,a,h1,h2,h3,h4,h5,fun v k _=>h6 v k⟩
set_option maxHeartbeats 1000000 in
theorem KF {e sz b:Nat}{zs:List Value}{s x:X}{d:Option Nat}{K:TK}(j:TS G F L ρ M τ) (h:bS P (.appD e sz b zs s x) d M τ K):evalOp P (.appD e sz b zs s x) d F L ρ (Both G K):=by
 have he:=j.env;simp only[bS,gH,fH,fq] at h;simp only[evalOp];split at h
 ·rename_i k f hs y;split at h
  case h_2=>exact h.elim
  rename_i e' aE els m;split at h
  case h_2=>exact h.elim
  rename_i h1 h2;obtain rfl:=aaR h1;obtain rfl:=aaR h2;obtain⟨q,l,p,r⟩:=h;obtain⟨a,c,xs,e1,e2,hr,hm⟩:=tU j hs m;obtain⟨a',w,aa,t,e4,e5,e6,u⟩:=lO he y;obtain⟨n,y1,y2,y3⟩:=jE u q;rw[e1,t];exact⟨k,els.length,xs,f.length,n,.inl e2,⟨a',w,rfl,y1,y2⟩,y3.ones,l,p,fun v z _=>sL j e2 hr y3 l r z⟩
 ·rename_i f k hs y;split at h
  case h_2=>exact h.elim
  rename_i m;obtain⟨q,l,p,r⟩:=h;obtain⟨a',w,aa,t,e4,e5,e6,u⟩:=lO he y;obtain⟨n,y1,y2,y3⟩:=jE u q;simp only[abO] at l p;rw[tO he hs,t];exact⟨k,0,[],f.length,n,.inr (.inl ⟨rfl,cj j.tl m,rfl,rfl,rfl⟩),⟨a',w,rfl,y1,y2⟩,y3.ones,l,p,fun v z _=>qE j m y3 (by omega) r z⟩
 ·rename_i els f k hs y;split at h
  case h_2=>exact h.elim
  rename_i m;obtain⟨g0,ae,q,l,p,r⟩:=h;obtain⟨a,ao,e1,hm,e2⟩:=Cj he hs;obtain⟨a',w,aa,t,e4,e5,e6,u⟩:=lO he y;obtain⟨n,y1,y2,y3⟩:=jE u q;obtain⟨xs,x1,x2,x3⟩:=jE e2 ae;rw[e1,t];refine⟨k,els.length,xs,f.length,n,.inr (.inr ⟨rfl,cj j.tl m,a,rfl,g0,x1,x2⟩),⟨a',w,rfl,y1,y2⟩,y3.ones,l,p,fun v z _=>?_⟩;obtain⟨av,cv,rfl,hn⟩:=z;have h1:=j.new (aA.le_refl F) (cj j.tl m) (o:=.row (.slice av (els.length+f.length) cv) e sz (els.length+f.length) (xs++n)) (to:=.row e sz (els++f)) ⟨rfl,rfl,by simp,⟨l,av,cv,rfl,hn⟩,x3.append y3⟩;exact⟨_,_,h1.put (c:=.rw k) (lQ (by rw[Loc.aac,fo rfl])) _,r⟩
 ·exact h.elim
theorem Bc {n:Nat}{y x:X}{d:Option Nat}{K:TK}(u:TS G F L ρ M τ) (h:storeT false n y x d M τ K):evalOp P (.store n y x) d F L ρ (Both G K):=by
 have he:=u.env;simp only[storeT,gH,fH,fq] at h;simp only[evalOp];split at h
 ·rename_i k off h1 h2 h3 hy;split at h
  case h_2=>exact h.elim
  rename_i t cs hk;split at h
  case h_2=>exact h.elim
  rename_i hl;obtain⟨g,ty,vs,hL,q,s⟩:=lH u.tl hk;have l:=iK he h1;have o:iz (aM (val L ρ x)) n=true:=jv (by rw[l.len];exact bZ h2);have ho:=w9 (om l h3);rw[o,ho,(js he hy).1];simp only[hL];have ag:=(q.drop off).take n;rw[oU s.2.2 (jv (by rw[ag.len];exact bZ hl))];have h4:=u.turn (o':=.box g ty (bV vs off (aM (val L ρ x)))) (to:=.box t (jr cs off (cP (dm τ x)))) hL ⟨rfl,rfl⟩ (fun g' t' cs' e=>by injection e with a b c;subst a b;exact⟨_,rfl⟩)
   (fun L' hx=>⟨s,(nC q l).ext (aA.le_refl F) hx⟩)
  exact⟨_,_,h4.put (c:=.und) (sv:=.v undef) ⟨_,rfl,by simp only[Rel]⟩ d,h⟩
 ·rename_i k j off h1 h2 h3 hy;split at h
  case h_2=>exact h.elim
  rename_i t sz els h0 hk hp;obtain⟨r0,es,r1,r2,r3⟩:=h;obtain⟨ad,t',f,m,c,al,e1,e2⟩:=wZ he hy;obtain⟨v,xs,z,⟨hm,q6⟩,q⟩:=mM u.tl hk;rw[e2] at z;injection z with z
  injection z with q1 q2 q3 q4 q5
  subst q1 q2 q3 q4 q5;have l:=iK he h1;have p:(aM (val L ρ x)).length=n:=by rw[l.len];exact bZ h2
  have o:iz (aM (val L ρ x)) n=true:=jv p;have ho:=w9 (om l h3);rw[o,ho,e1];have bk:es.length=f:=by
   obtain⟨us,u1,_,u3,_⟩:=q.at r1;rw[<-u1,u3.len]
  have hn:off+n<=f:=abb r0;have w:=q.set (ds:=(cP (dm τ x)).map C.can) (us:=aM (val L ρ x)) (off:=off) r1 (by rw[p];exact hn) (lu (jA hp l)) (ol h3);have r:j<els.length:=(aaT.1 r1).1;have ab:=iJ q;have h4:=u.turn (o':=.row (.slice (some ad) els.length c) t' f els.length (bV al (j*f+off) (aM (val L ρ x)))) (to:=.row t' f (els.set j (jr es off ((cP (dm τ x)).map C.can)))) e2 ⟨rfl,rfl,rfl⟩
   (fun g' bl cs' e=>by cases e) (fun L' hx=>⟨rfl,rfl,by simp,⟨hm,_,_,rfl,fun e=>(by cases e)⟩,w⟩)
  refine⟨k,_,_,_,_,_,ad,c,e2,rfl,rfl,?_,om l h3,_,_,h4.put (c:=.und) (sv:=.v undef) ⟨_,rfl,by simp only[Rel]⟩ d,r3 es r1⟩;rw[ab,p];have:(j+1)*f<=els.length*f:=Nat.mul_le_mul_right _ r;rw[Nat.add_mul] at this;omega
 ·exact h.elim
theorem yD {n:Nat}{y x:X}{d:Option Nat}{K:TK}(j:TS G F L ρ M τ) (h:storeT true n y x d M τ K):evalOp P (.storeD n y x) d F L ρ (Both G K):=by
 have he:=j.env;simp only[storeT,gH,fH,fq] at h;simp only[evalOp];split at h
 ·rename_i k off h1 h2 h3 s;split at h
  case h_2=>exact h.elim
  rename_i t cs w;split at h
  case h_2=>exact h.elim
  rename_i u;obtain⟨g,ty,r,q,p,f⟩:=lH j.tl w;have m:=iK he h1;have o:iz (aM (val L ρ x)) n=true:=jv (by rw[m.len];exact bZ h2);have ho:=w9 (om m h3);rw[o,ho,(js he s).1];simp only[q];have l:=(p.drop off).take n;rw[oU f.2.2 (jv (by rw[l.len];exact bZ u))];have h4:=j.turn (o':=.box g ty (bV r off (aM (val L ρ x)))) (to:=.box t (jr cs off (cP (dm τ x)))) q ⟨rfl,rfl⟩ (fun g' t' cs' e=>by injection e with a b c;subst a b;exact⟨_,rfl⟩)
   (fun L' z=>⟨f,(nC p m).ext (aA.le_refl F) z⟩)
  exact⟨_,_,h4.put (c:=.und) (sv:=.v undef) ⟨_,rfl,by simp only[Rel]⟩ d,h⟩
 ·exact h.elim
 ·exact h.elim
theorem IK {e sz b:Nat}{zs:List Value}{l c:X}{d:Option Nat}{K:TK}(j:TS G F L ρ M τ) (h:bS P (.makeS e sz b zs l c) d M τ K):evalOp P (.makeS e sz b zs l c) d F L ρ (Both G K):=by
 have he:=j.env;simp only[bS,gH,fH,fq] at h;simp only[evalOp];split at h
 case h_2=>exact h.elim
 rename_i k1 n z m k s w;split at h
 case h_2=>exact h.elim
 rename_i u h1 h2;rw[(gR he s).1,(gR he w).1];have a:=cj j.tl u;simp only[a];obtain⟨r,q,v,p,y⟩:=h;refine⟨r,q,v,p,fun g=>?_⟩;have t:aB F [] ((zs.map rW).map C.can) zs:=lu (lp zs);have f:∀i:Nat,aQ F sz (List.replicate i ((zs.map rW).map C.can)) (List.replicate i zs).flatten:=by
  intro i
  induction i with
  | zero=>simp only[List.replicate_zero,List.flatten_nil,aQ]
  | succ i x =>
   simp only[ab4,List.flatten_cons,aQ];exact⟨zs,_,rfl,by have:=bZ h1;simpa using this,ol h2,t,x⟩
 have h3:=j.new (aA.le_refl F) a (o:=.row (.slice (some ⟨g,0,none⟩) n.toNat m.toNat) e sz n.toNat (List.replicate n.toNat zs).flatten) (to:=.row e sz (List.replicate n.toNat ((zs.map rW).map C.can)))
  ⟨rfl,rfl,by simp,⟨abw (Int.toNat_le_toNat q) p,_,_,rfl,fun e=>(by cases e)⟩,f _⟩
 exact⟨_,_,h3.put (c:=.rw k) (lQ (by rw[Loc.aac,fo rfl])) (some k),y⟩
end
section
variable {P:Program}{G:Nat->Option (Nat×TypeId)}{F:aA}{L:Loc}{ρ:Env}{M:TL}{τ:aG}
theorem Cl:∀{ks:List Nat}{i j m:Nat},bh ks i j=some m->∃n,ks[n]?=some j/\m=i+n
 | [],_,_,_,h=>by simp[bh] at h
 | k::ks,i,j,m,h=>by
  simp only[bh] at h;cases a:Nat.beq j k with
  | true =>
   have:=aaR a;subst this;rw[a] at h;injection h with h
   exact⟨0,by simp,by omega⟩
  | false =>
   rw[a] at h;obtain⟨n,h1,h2⟩:=Cl h;exact⟨n+1,by simpa using h1,by omega⟩
theorem oC {ko:List Nat}{j m:Nat}(h:aN ko j=some m):1000<=j/\ko[j-1000]?=some m:=by
 simp only[aN] at h;split at h
 ·rename_i h1;exact⟨abb h1,h⟩
 ·cases h
theorem cW:∀{l:List Nat},aU l=true->l.Nodup
 | [],_=>List.nodup_nil
 | k::l,h=>by
  simp only[aU] at h;split at h
  ·cases h
  ·rename_i h1;exact List.nodup_cons.2 ⟨fun a=>(by rw[cS.2 a] at h1;cases h1),cW h⟩
theorem KG {L':Loc}{f:Nat->Option Nat}(hf:∀j m,f j=some m->∀o,L.get j=some o->L'.get m=some o) (c:C) (v:Value) (d:c.leaf=true) (h:Rel F L c v):Rel F L' (wW f c) v:=by
 cases c<;>simp only[C.leaf,aa5] at d<;>simp only[wW]
 case rw j =>
  simp only[Rel] at h;obtain⟨a,c,t,sz,n,xs,rfl,h⟩:=h;cases b:f j with
  | none=>simp only[Rel]
  | some m=>simp only[Rel];exact⟨a,c,t,sz,n,xs,rfl,hf j m b _ h⟩
 case own j off =>
  simp only[Rel] at h;obtain⟨g,t,cs,h,rfl⟩:=h;cases b:f j with
  | none=>simp only[Rel]
  | some m=>simp only[Rel];exact⟨g,t,cs,hf j m b _ h,rfl⟩
 case mpr j =>
  simp only[Rel] at h;obtain⟨g,cs,h,rfl⟩:=h;cases b:f j with
  | none=>simp only[Rel]
  | some m=>simp only[Rel];exact⟨g,cs,hf j m b _ h,rfl⟩
 case ownv=>exact h.elim
 case elr=>exact h.elim
 all_goals
  exact bJ (aA.le_refl F) (fun k e=>by rcases e with⟨off,e⟩ | e | e<;>cases e) rfl h
theorem Rel.ren {L':Loc}{f:Nat->Option Nat}(hf:∀j m,f j=some m->∀o,L.get j=some o->L'.get m=some o) {c:C}{v:Value}(h:Rel F L c v):Rel F L' (c.ren f) v:=Rel.mp (KG hf) 3 h
theorem cN.ren {L':Loc}{f:Nat->Option Nat}(hf:∀j m,f j=some m->∀o,L.get j=some o->L'.get m=some o):∀{o:TO}{p:Own},cN F L o p->cN F L' (o.aad (C.ren f)) p
 | .box t cs,.box g a b,r=>⟨r.1,r.2.map fun c _ v h=>h.ren hf⟩
 | .row t sz els,.row v a d n xs,r=>r
 | .box _ _,.row ..,r=>r.elim
 | .row ..,.box ..,r=>r.elim
 | .map _,.row ..,r=>r.elim
 | .map es,.box g a b,r=>r
theorem kH (e:bT F L M):∀{ks:List Nat}{Lin:List TO},M.sub ks=some Lin->∃Li,L.sub ks=some Li/\Li.length=Lin.length/\∀(i:Nat) o p,Lin[i]?=some o->Li[i]?=some p->cN F L o p
 | [],Lin,h=>by simp only[TL.sub,aaO] at h;subst h;exact⟨[],rfl,rfl,by simp⟩
 | k::ks,Lin,h=>by
  simp only[TL.sub] at h;split at h
  case h_2=>cases h
  rename_i o l h1 h2;injection h with h
  subst h;obtain⟨Li,n,q,m⟩:=kH e h2;rcases eD (e k) with⟨a,f⟩ | ⟨o',p,a,f,j⟩
  ·rw[h1] at a;cases a
  ·rw[h1] at a;injection a with a
   subst a;refine⟨p::Li,by simp only[Loc.sub,f,n],by simp[q],fun i c d hi b=>?_⟩;cases i with
   | zero=>simp only[aa4,aaO] at hi b;subst hi;subst b;exact j
   | succ i=>exact m i c d (by simpa using hi) (by simpa using b)
theorem lR {ks:List Nat}{Li:List Own}(a:L.sub ks=some Li):∀j m,bh ks 1000 j=some m->∀o,L.get j=some o->(inp Li).get m=some o:=by
 intro j m h o b;obtain⟨n,h1,rfl⟩:=Cl h;obtain⟨_,c⟩:=cE a;rw[aI,fo (by omega),show 1000+n-1000=n by omega,<-c n j h1];exact b
theorem lI (e:bT F L M) {ks:List Nat}{Lin:List TO}{Li:List Own}(f:Li.length=Lin.length) (d:L.sub ks=some Li) (c:∀(i:Nat) o p,Lin[i]?=some o->Li[i]?=some p->cN F L o p) :
  bT F (inp Li) (cO (Lin.map (TO.aad (C.ren (bh ks 1000))))):=by
 intro k;rw[cu,aI];split
 ·rw[aa6];cases b:Lin[k-1000]? with
  | none =>
   have:Li[k-1000]?=none:=by rw[abC] at b ⊢;omega
   rw[this];trivial
  | some o =>
   have a:k-1000<Li.length:=by have:=(aaT.1 b).1;omega
   rw[aaQ a];exact(c _ _ _ b (aaQ a)).ren (lR d)
 ·trivial
def lS (L:Loc) (k:Nat):Loc:=match L.get k with | some (.row ..)=>L.del k | _=>L
def mP:List Nat->Loc->Loc
 | [],L=>L
 | k::ks,L=>mP ks (lS L k)
theorem vg (k:Nat):(∀c v,c.leaf=true->Rel F L c v->Rel F (lS L k) (gG k c) v)/\(∀c sv,c.leaf=true->aL F L c sv->aL F (lS L k) (gG k c) sv):=by
 by_cases a:∃v t sz n xs,L.get k=some (.row v t sz n xs)
 ·obtain⟨v,t,sz,n,xs,a⟩:=a;have e:lS L k=L.del k:=by simp only[lS,a]
  rw[e];have h1:∀g t cs,L.get k≠some (.box g t cs):=fun g t cs h=>by rw[a] at h;injection h with h;cases h
  have h2:∀j,j≠k->∀o,L.get j=some o->∃o',(L.del k).get j=some o'/\Own.like o o':=fun j b o f=>⟨o,by rw[Loc.aah,o5 b];exact f,Own.aai o⟩;exact⟨ou h1 h2 (aA.le_refl F),pB h1 h2 (aA.le_refl F)⟩
 ·have e:lS L k=L:=by
   simp only[lS];split
   ·rename_i h;exact vv ⟨_,_,_,_,_,h⟩ a
   ·rfl
  rw[e];refine⟨fun c v d h=>?_,fun c sv d h=>?_⟩
  ·cases c<;>simp only[gG]<;>first
    | exact h
    | exact h.elim
    | (split<;>first | exact h | (simp only[Rel];done))
  ·cases c<;>simp only[gG]<;>first
    | exact h
    | (split<;>first | exact h | trivial)
theorem Rel.kills:∀(ks:List Nat) {L:Loc}{c:C}{v:Value},Rel F L c v->Rel F (mP ks L) (C.kills ks c) v
 | [],L,c,v,h=>h
 | k::ks,L,c,v,h=>Rel.kills ks (Rel.mp (vg k).1 3 h)
theorem aL.kills:∀(ks:List Nat) {L:Loc}{c:C}{sv:SV},aL F L c sv->aL F (mP ks L) (C.kills ks c) sv
 | [],L,c,sv,h=>h
 | k::ks,L,c,sv,h=>aL.kills ks (aL.mp (vg k).1 (vg k).2 3 h)
theorem cN.kills (ks:List Nat) {L:Loc}:∀{o:TO}{p:Own},cN F L o p->cN F (mP ks L) (o.aad (C.kills ks)) p
 | .box t cs,.box g a b,r=>⟨r.1,r.2.map fun c _ v h=>h.kills ks⟩
 | .row t sz els,.row v a d n xs,r=>r
 | .box _ _,.row ..,r=>r.elim
 | .row ..,.box ..,r=>r.elim
 | .map _,.row ..,r=>r.elim
 | .map es,.box g a b,r=>r
theorem DE {k j:Nat}{o:Own}(h:(lS L k).get j=some o):L.get j=some o/\(j=k->∃g t cs,o=.box g t cs):=by
 unfold lS at h;split at h
 ·rw[Loc.aah] at h;split at h
  ·cases h
  ·rename_i a;exact⟨h,fun e=>vv e a⟩
 ·rename_i b;refine⟨h,fun e=>?_⟩;subst e;cases o with
  | box g t cs=>exact⟨g,t,cs,rfl⟩
  | row v t sz n xs=>exact vv h (b v t sz n xs)
theorem pD:∀{ks:List Nat}{L:Loc}{j:Nat}{o:Own},(mP ks L).get j=some o->L.get j=some o/\(j∈ks->∃g t cs,o=.box g t cs)
 | [],L,j,o,h=>⟨h,by simp⟩
 | k::ks,L,j,o,h=>by
  obtain⟨h1,h2⟩:=pD (ks:=ks) h;obtain⟨h3,h4⟩:=DE h1;exact⟨h3,fun a=>by
   rcases aaX.1 a with e | e
   ·exact h4 e
   ·exact h2 e⟩
theorem yE (ks:List Nat) (M:TL) (k:Nat):(TL.kills ks M).get k=(M.get k).map (TO.aad (C.kills ks)):=by
 cases ks with
 | nil =>
  simp only[TL.kills];cases M.get k with
  | none=>rfl
  | some o =>
   cases o with
   | box t cs =>
    have e:(C.kills []:C->C)=id:=rfl;simp[TO.aad,e]
   | row t sz els=>rfl
   | map es=>rfl
 | cons a ks=>exact qD _ _ _
theorem yF (ks:List Nat) (τ:aG) (j:Nat):ef ks τ j=(τ j).kills ks:=by cases ks<;>rfl
def Cm:TO->Bool
 | .row _ _ _=>true
 | _=>false
theorem gM:∀{Lin:List TO}{ks ko:List Nat},aJ Lin ks ko=true->∀(i:Nat) o,Lin[i]?=some o->Cm o=false->∃k,ks[i]?=some k/\ko[i]?=some k
 | [],_,_,_,i,o,e,_=>by simp at e
 | .box d f::l,[],ko,h,i,o,e,_=>by cases ko<;>simp[aJ] at h
 | .box d f::l,k::ks,[],h,i,o,e,_=>by simp[aJ] at h
 | .box d f::l,k::ks,b::ko,h,i,o,e,a=>by
  simp only[aJ] at h;split at h
  case h_2=>cases h
  rename_i c;have:=aaR c;subst this;cases i with
  | zero=>exact⟨k,by simp,by simp⟩
  | succ i=>simpa using gM h i o (by simpa using e) a
 | .map es::l,[],ko,h,i,o,e,_=>by cases ko<;>simp[aJ] at h
 | .map es::l,k::ks,[],h,i,o,e,_=>by simp[aJ] at h
 | .map es::l,k::ks,b::ko,h,i,o,e,a=>by
  simp only[aJ] at h;split at h
  case h_2=>cases h
  rename_i c;have:=aaR c;subst this;cases i with
  | zero=>exact⟨k,by simp,by simp⟩
  | succ i=>simpa using gM h i o (by simpa using e) a
 | .row ..::l,k::ks,b::ko,h,i,o,e,a=>by
  simp only[aJ] at h;cases i with
  | zero =>
   simp only[aa4,aaO] at e;subst e;cases a
  | succ i=>simpa using gM h i o (by simpa using e) a
 | .row ..::l,k::ks,[],h,i,o,e,a=>by
  simp only[aJ] at h;cases i with
  | zero =>
   simp only[aa4,aaO] at e;subst e;cases a
  | succ i =>
   obtain⟨b,h1,h2⟩:=gM h i o (by simpa using e) a;simp at h2
 | .row ..::l,[],ko,h,i,o,e,_=>by simp[aJ] at h
theorem yG {Lin:List TO}{ks ko:List Nat}(h:aJ Lin ks ko=true) (i:Nat) (t:TypeId) (cs:List C) (e:Lin[i]?=some (.box t cs)):∃k,ks[i]?=some k/\ko[i]?=some k:=gM h i _ e rfl
theorem ru {M:TL}{ks:List Nat}:∀{ko:List Nat},kE M ks ko=true->∀k∈ko,k∈ks\/M.get k=none
 | [],_,k,a=>by simp at a
 | k0::ko,h,k,a=>by
  simp only[kE] at h;rcases aaX.1 a with e | e
  ·subst e;split at h
   ·rename_i h1;exact .inl (cS.1 h1)
   ·rename_i h1 h2;exact .inr h2
   ·cases h
  ·split at h
   ·exact ru h k e
   ·exact ru h k e
   ·cases h
theorem eG {ko:List Nat}{Lo:List Own}{L:Loc}(a:ko.Nodup) (d:ko.length=Lo.length) {i k:Nat}{o:Own}(b:ko[i]?=some k) (c:Lo[i]?=some o):(L.puts ko Lo).get k=some o:=by
 rcases cZ ko Lo L k a d with⟨_,h2⟩ | ⟨e,h1,h2,_⟩
 ·exact vv (aaU b) h2
 ·have:=AH a h1 b;subst this;rw[h2,c]
theorem sM {k:Nat}{t sz:Nat}{els:List (List C)}(h:M.get k=some (.row t sz els)):∀{ks:List Nat},k∈ks->k∈rowsOf M ks
 | [],a=>by cases a
 | j::ks,a=>by
  simp only[rowsOf];rcases aaX.1 a with rfl | a
  ·rw[h];simp
  ·split
   ·exact abk _ (sM h a)
   ·exact sM h a
theorem yH {ks:List Nat}{k:Nat}{o:Own}(e:bT F L M) (f:k∈ks) (h:L.get k=some o) (hb:k∈rowsOf M ks->∃g t cs,o=.box g t cs):∃g t cs,o=.box g t cs:=by
 rcases eD (e k) with⟨d,a⟩ | ⟨q,p,d,a,c⟩
 ·rw[h] at a;cases a
 ·rw[h] at a;injection a with a
  subst a;cases q with
  | row t sz els=>exact hb (sM d f)
  | box t cs =>
   cases o with
   | row=>exact c.elim
   | box g b cs'=>exact⟨g,b,cs',rfl⟩
  | map es =>
   cases o with
   | row=>exact c.elim
   | box g b cs'=>exact⟨g,b,cs',rfl⟩
theorem rz {f:Nat}{args:List C}{vs:List Value}{ks ko:List Nat}{Lin:List TO}{R:List TO->C->Prop}{K:TL->aG->C->Prop}(z:TS G F L ρ M τ) (ha:aB F L args vs)
  (h1:M.sub ks=some Lin) (h2:aU ks=true) (h3:aU ko=true) (h4:kE M ks ko=true) (h5:aJ Lin ks ko=true)
  (h6:CallsT P f (args.map fun c=>c.aaj.ren (bh ks 1000)) (Lin.map (TO.aad (C.ren (bh ks 1000)))) R)
  (h7:∀v Mo,R Mo v->Wf v->(∀o∈Mo,o.Wf)->ko.length=Mo.length/\K (((M.aaf ks).kills (rowsOf M ks)).puts ko (Mo.map (TO.aad (C.ren (aN ko))))) (ef (rowsOf M ks) τ) (v.ren (aN ko)).slt) :
  d9 P f vs F L (fun F' L' v=>∃M' al c,TS G F' L' ρ M' al/\aL F' L' c (.v v)/\K M' al c):=by
 obtain⟨Li,e1,e2,e3⟩:=kH z.tl h1;have hn:=cW h2;have d:=cW h3;have am:∀k,k∈ko->k∈ks\/L.get k=none:=fun k q=>(ru h4 k q).imp id fun e=>cj z.tl e;have aw:=cE e1;refine⟨ks,ko,Li,gQ Li R,e1,hn,d,am,h6.out F Li vs (by simp[e2]) (lI z.tl e2 e1 e3) ?_,?_⟩
 ·exact ha.map fun c _ v hc=>(jn hc).ren (lR e1)
 ·rintro v F' Lo hF ⟨Mo,c,q1,q2,q3,q4,q5⟩;have az:∀o∈Mo,o.Wf:=by
   intro o w;obtain⟨i,hi⟩:=abh.1 w;have l:i<Lo.length:=by rw[<-q1];exact(aaT.1 hi).1
   have:=q2 (1000+i);rw[cu,aI,fo (by omega),fo (by omega),show 1000+i-1000=i by omega,hi,aaQ l] at this;exact cN.wf this
  obtain⟨k1,k2⟩:=h7 c Mo q5 q3.wf az;have b:ko.length=Lo.length:=by rw[k1,q1]
  have a:∀k g t cs,k∈ks->L.get k=some (.box g t cs)->∃cs',Loc.get ((L.aaf ks).puts ko Lo) k=some (.box g t cs'):=by
   intro k g t cs q hg;obtain⟨i,hi⟩:=abh.1 q;have x:Li[i]?=some (.box g t cs):=by rw[<-aw.2 i k hi];exact hg
   have l:i<Lin.length:=by rw[<-e2];exact(aaT.1 x).1
   have hr:=e3 i _ _ (aaQ l) x;cases hL:Lin[i] with
   | row=>rw[hL] at hr;exact hr.elim
   | box t' cs' =>
    obtain⟨k',n,b2⟩:=yG h5 i t' cs' (by rw[aaQ l,hL]);rw[hi] at n;injection n with n
    subst n;obtain⟨ae,ad⟩:=q4 i g t cs x;exact⟨ae,eG d b b2 ad⟩
   | map es =>
    obtain⟨k',n,b2⟩:=gM h5 i (.map es) (by rw[aaQ l,hL]) rfl;rw[hi] at n;injection n with n
    subst n;obtain⟨ae,ad⟩:=q4 i g t cs x;exact⟨ae,eG d b b2 ad⟩
  refine⟨b,a,?_⟩;generalize s:(L.aaf ks).puts ko Lo=L' at a
  -- what was there before
  have y:∀k,k∉ks->∀o,L.get k=some o->L'.get k=some o:=by
   intro k q o w;rw[<-s];rcases cZ ko Lo (L.aaf ks) k d b with⟨u,a2⟩ | ⟨i,u,a2,a3⟩
   ·rw[u,fk,o5 q];exact w
   ·rcases am k (aaU u) with e | e
    ·exact vv e q
    ·rw[w] at e;cases e
  have ab:Ext (mP (rowsOf M ks) L) L':=by
   intro k o w;obtain⟨g1,g2⟩:=pD w
   by_cases q:k∈ks
   ·obtain⟨g,t,cs,rfl⟩:=yH z.tl q g1 g2;obtain⟨cs',h⟩:=a k g t cs q g1;exact⟨_,h,rfl,rfl⟩
   ·exact⟨o,y k q o g1,Own.aai o⟩
  have r:∀j m,aN ko j=some m->∀o,(inp Lo).get j=some o->L'.get m=some o:=by
   intro j m hj o w;obtain⟨u,a2⟩:=oC hj;rw[aI,fo u] at w;rw[<-s];exact eG d b a2 w
  refine⟨_,_,_,⟨fun k=>?_,fun j=>?_,fun k g t e=>?_,z.glob.mono hF⟩,kR (q3.ren r),k2⟩
  ·rcases oq ko (Mo.map (TO.aad (C.ren (aN ko)))) ((M.aaf ks).kills (rowsOf M ks)) k d (by simp[k1]) with⟨u,a2⟩ | ⟨i,u,a2,a3⟩
   ·have ag:L'.get k=(L.aaf ks).get k:=by
     rw[<-s];rcases cZ ko Lo (L.aaf ks) k d b with⟨n,_⟩ | ⟨i,n,_,_⟩
     ·exact n
     ·exact vv (aaU n) a2
    rw[u,ag,yE,rq,fk];split
    ·trivial
    ·rcases eD (z.tl k) with⟨c1,c2⟩ | ⟨o,p,c1,c2,hr⟩
     ·rw[c1,c2];trivial
     ·rw[c1,c2];exact(hr.kills (rowsOf M ks)).ext hF ab
   ·rw[a2,aa6];have l:i<Mo.length:=by simpa using a3
    have aa:i<Lo.length:=by omega
    have ag:L'.get k=some (Lo[i]):=by rw[<-s];exact eG d b u (aaQ aa)
    rw[ag,aaQ l];have:=q2 (1000+i);rw[cu,aI,fo (by omega),fo (by omega),show 1000+i-1000=i by omega,aaQ l,aaQ aa] at this;exact cN.ren r this
  ·rw[yF];exact((z.env j).kills (rowsOf M ks)).ext hF ab
  ·obtain⟨cs,h⟩:=z.kp k g t e
   by_cases q:k∈ks
   ·exact a k g t cs q h
   ·exact⟨cs,y k q _ h⟩
theorem vh {f:Nat}{args:List C}{vs:List Value}{ks:List Nat}{Lin:List TO}{R:List TO->C->Prop}{K:TL->aG->C->Prop}(ht:TS G F L ρ M τ) (ha:aB F L args vs)
  (h1:M.sub ks=some Lin) (h2:aU ks=true) (h6:iw P f (args.map fun c=>c.aaj.ren (bh ks 1000)) (Lin.map (TO.aad (C.ren (bh ks 1000)))) R)
  (h7:∀v Mo,R Mo v->Wf v->(∀o∈Mo,o.Wf)->ks.length=Mo.length/\K ((M.aaf ks).puts ks (Mo.map (TO.aad (C.ren (aN ks))))) τ (v.ren (aN ks)).slt) :
  d9 P f vs F L (fun F' L' v=>∃M' ad c,TS G F' L' ρ M' ad/\aL F' L' c (.v v)/\K M' ad c):=by
 obtain⟨Li,e1,e2,e3⟩:=kH ht.tl h1;have s:=cW h2;have ae:=cE e1;refine⟨ks,ks,Li,_,e1,s,s,fun k d=>.inl d,h6.out F Li vs (by simp[e2]) (lI ht.tl e2 e1 e3) ?_,?_⟩
 ·exact ha.map fun c _ v hc=>(jn hc).ren (lR e1)
 ·rintro v F' Lo hF ⟨⟨Mo,c,q1,q2,q3,q4,q5⟩,bu,al⟩;have am:∀o∈Mo,o.Wf:=by
   intro o u;obtain⟨i,hi⟩:=abh.1 u;have r:i<Lo.length:=by rw[<-q1];exact(aaT.1 hi).1
   have:=q2 (1000+i);rw[cu,aI,fo (by omega),fo (by omega),show 1000+i-1000=i by omega,hi,aaQ r] at this;exact cN.wf this
  obtain⟨k1,k2⟩:=h7 c Mo q5 q3.wf am;have a:ks.length=Lo.length:=by rw[k1,q1]
  have b:∀k g t cs,k∈ks->L.get k=some (.box g t cs)->∃cs',Loc.get ((L.aaf ks).puts ks Lo) k=some (.box g t cs'):=by
   intro k g t cs d hg;obtain⟨i,hi⟩:=abh.1 d;have ab:Li[i]?=some (.box g t cs):=by rw[<-ae.2 i k hi];exact hg
   obtain⟨av,ar⟩:=q4 i g t cs ab;exact⟨av,eG s a hi ar⟩
  refine⟨a,b,?_⟩;generalize l:(L.aaf ks).puts ks Lo=L' at b;have w:∀k,k∉ks->∀o,L.get k=some o->L'.get k=some o:=by
   intro k d o u;rw[<-l];rcases cZ ks Lo (L.aaf ks) k s a with⟨q,z⟩ | ⟨i,q,z,a3⟩
   ·rw[q,fk,o5 d];exact u
   ·exact vv (aaU q) d
  have y:Ext L L':=by
   intro k o u
   by_cases d:k∈ks
   ·obtain⟨i,hi⟩:=abh.1 d;have ab:Li[i]?=some o:=by rw[<-ae.2 i k hi];exact u
    obtain⟨o',h1,h2⟩:=al i o ab;exact⟨o',by rw[<-l];exact eG s a hi h1,h2⟩
   ·exact⟨o,w k d o u,Own.aai o⟩
  have n:∀j m,aN ks j=some m->∀o,(inp Lo).get j=some o->L'.get m=some o:=by
   intro j m hj o u;obtain⟨q,z⟩:=oC hj;rw[aI,fo q] at u;rw[<-l];exact eG s a z u
  refine⟨_,_,_,⟨fun k=>?_,fun j=>(ht.env j).ext hF y,fun k g t e=>?_,ht.glob.mono hF⟩,kR (q3.ren n),k2⟩
  ·rcases oq ks (Mo.map (TO.aad (C.ren (aN ks)))) (M.aaf ks) k s (by simp[k1]) with⟨q,z⟩ | ⟨i,q,z,a3⟩
   ·have aa:L'.get k=(L.aaf ks).get k:=by
     rw[<-l];rcases cZ ks Lo (L.aaf ks) k s a with⟨b1,_⟩ | ⟨i,b1,_,_⟩
     ·exact b1
     ·exact vv (aaU b1) z
    rw[q,aa,rq,fk];split
    ·trivial
    ·rcases eD (ht.tl k) with⟨c1,c2⟩ | ⟨o,p,c1,c2,hr⟩
     ·rw[c1,c2];trivial
     ·rw[c1,c2];exact hr.ext hF y
   ·rw[z,aa6];have r:i<Mo.length:=by simpa using a3
    have x:i<Lo.length:=by omega
    have aa:L'.get k=some (Lo[i]):=by rw[<-l];exact eG s a q (aaQ x)
    rw[aa,aaQ r];have:=q2 (1000+i);rw[cu,aI,fo (by omega),fo (by omega),show 1000+i-1000=i by omega,aaQ r,aaQ x] at this;exact cN.ren n this
  ·obtain⟨cs,h⟩:=ht.kp k g t e
   by_cases d:k∈ks
   ·exact b k g t cs d h
   ·exact⟨cs,w k d _ h⟩
theorem rA {ks:List Nat}:∀{ko:List Nat},(∀k∈ko,k∈ks)->kE M ks ko=true
 | [],_=>rfl
 | k::ko,h=>by
  simp only[kE,cS.2 (h k (by simp))];exact rA fun j a=>h j (by simp[a])
def WE (hb:List (Nat×Nat)) (L:Loc):Prop:=∀k n,(k,n)∈hb->∃g t cs,L.get k=some (.box g t cs)/\cs.length=n
def FJ (F':aA) (L':Loc) (M':TL):Prop:=∀k o,M'.get k=some o->∃p,L'.get k=some p/\cN F' L' o p
theorem Bd {F':aA}{L':Loc}{M':TL}(h:bT F' L' M'):FJ F' L' M':=fun k o e=>by
 rcases eD (h k) with⟨a,b⟩ | ⟨o',p,a,b,c⟩
 ·rw[e] at a;cases a
 ·rw[e] at a;injection a with a
  subst a;exact⟨p,b,c⟩
def NT (PS:qa) (F':aA) (L':Loc) (v:Value):Prop:=∀s,PS.st=some s->∃M',FJ F' L' M'/\s M' v
theorem NT.no {PS:qa}(h:PS.st=none) {F':aA}{L':Loc}{v:Value}:NT PS F' L' v:=fun s e=>by rw[h] at e;cases e
def zX (G:Nat->Option (Nat×TypeId)) (PS:qa) (F':aA) (L':Loc) (v:Value):Prop:=Kp G L'/\PS.ps v/\WE PS.hb L'/\NT PS F' L' v
theorem DF:∀{hb:List (Nat×Nat)}{ks:List Nat},kY M ks hb=true->∀k n,(k,n)∈hb->k∉ks/\∃t cs,M.get k=some (.box t cs)/\cs.length=n
 | [],ks,_,k,n,h=>by cases h
 | (j,m)::l,ks,h,k,n,a=>by
  simp only[kY] at h;split at h
  case h_2=>cases h
  rename_i t cs h1 h2;split at h
  case h_2=>cases h
  rename_i h3;rcases aaX.1 a with e | a
  ·simp only[Prod.mk.injEq] at e;obtain⟨rfl,rfl⟩:=e;exact⟨fun b=>(by rw[cS.2 b] at h1;cases h1),t,cs,h2,bZ h3⟩
  ·exact DF h k n a
theorem NU {hb:List (Nat×Nat)}{ks:List Nat}{L':Loc}(c:bT F L M) (h:kY M ks hb=true) (f:∀k g t cs,k∉ks->L.get k=some (.box g t cs)->L'.get k=some (.box g t cs)):WE hb L':=by
 intro k n d;obtain⟨h1,t,cs,h2,h3⟩:=DF h k n d;obtain⟨g,ty,a,e,b,_⟩:=lH c h2;exact⟨g,ty,a,f k g ty a h1 e,by rw[b.len,h3]⟩
theorem rB {ks ko:List Nat}{Lin:List TO}{Li:List Own}{R:List TO->C->Prop}{K:TL->aG->C->Prop}(ht:TS G F L ρ M τ)
  (h2:aU ks=true) (h3:aU ko=true) (h4:kE M ks ko=true) (h5:aJ Lin ks ko=true) (e1:L.sub ks=some Li) (e2:Li.length=Lin.length) (e3:∀(i:Nat) o p,Lin[i]?=some o->Li[i]?=some p->cN F L o p)
  (h7:∀v Mo,R Mo v->Wf v->(∀o∈Mo,o.Wf)->ko.length=Mo.length/\K (((M.aaf ks).kills (rowsOf M ks)).puts ko (Mo.map (TO.aad (C.ren (aN ko))))) (ef (rowsOf M ks) τ) (v.ren (aN ko)).slt) :
  ∀v F' Lo,F.le F'->gQ Li R F' Lo v->ko.length=Lo.length/\(∀k g t cs,k∈ks->L.get k=some (.box g t cs)->∃cs',Loc.get ((L.aaf ks).puts ko Lo) k=some (.box g t cs')) /\
   ∃M' ag c,TS G F' ((L.aaf ks).puts ko Lo) ρ M' ag/\aL F' ((L.aaf ks).puts ko Lo) c (.v v)/\K M' ag c:=by
 have hn:=cW h2;have f:=cW h3;have ba:∀k,k∈ko->k∈ks\/L.get k=none:=fun k n=>(ru h4 k n).imp id fun e=>cj ht.tl e;have ao:=cE e1;rintro v F' Lo hF ⟨Mo,c,q1,q2,q3,q4,q5⟩;have ar:∀o∈Mo,o.Wf:=by
  intro o u;obtain⟨i,hi⟩:=abh.1 u;have d:i<Lo.length:=by rw[<-q1];exact(aaT.1 hi).1
  have:=q2 (1000+i);rw[cu,aI,fo (by omega),fo (by omega),show 1000+i-1000=i by omega,hi,aaQ d] at this;exact cN.wf this
 obtain⟨k1,k2⟩:=h7 c Mo q5 q3.wf ar;have b:ko.length=Lo.length:=by rw[k1,q1]
 have a:∀k g t cs,k∈ks->L.get k=some (.box g t cs)->∃cs',Loc.get ((L.aaf ks).puts ko Lo) k=some (.box g t cs'):=by
  intro k g t cs n hg;obtain⟨i,hi⟩:=abh.1 n;have w:Li[i]?=some (.box g t cs):=by rw[<-ao.2 i k hi];exact hg
  have d:i<Lin.length:=by rw[<-e2];exact(aaT.1 w).1
  have hr:=e3 i _ _ (aaQ d) w;cases hL:Lin[i] with
  | row=>rw[hL] at hr;exact hr.elim
  | box t' cs' =>
   obtain⟨k',l,b2⟩:=yG h5 i t' cs' (by rw[aaQ d,hL]);rw[hi] at l;injection l with l
   subst l;obtain⟨ac,ab⟩:=q4 i g t cs w;exact⟨ac,eG f b b2 ab⟩
  | map es =>
   obtain⟨k',l,b2⟩:=gM h5 i (.map es) (by rw[aaQ d,hL]) rfl;rw[hi] at l;injection l with l
   subst l;obtain⟨ac,ab⟩:=q4 i g t cs w;exact⟨ac,eG f b b2 ab⟩
 refine⟨b,a,?_⟩;generalize r:(L.aaf ks).puts ko Lo=L' at a
 -- what was there before
 have x:∀k,k∉ks->∀o,L.get k=some o->L'.get k=some o:=by
  intro k n o u;rw[<-r];rcases cZ ko Lo (L.aaf ks) k f b with⟨s,a2⟩ | ⟨i,s,a2,a3⟩
  ·rw[s,fk,o5 n];exact u
  ·rcases ba k (aaU s) with e | e
   ·exact vv e n
   ·rw[u] at e;cases e
 have z:Ext (mP (rowsOf M ks) L) L':=by
  intro k o u;obtain⟨g1,g2⟩:=pD u
  by_cases n:k∈ks
  ·obtain⟨g,t,cs,rfl⟩:=yH ht.tl n g1 g2;obtain⟨cs',h⟩:=a k g t cs n g1;exact⟨_,h,rfl,rfl⟩
  ·exact⟨o,x k n o g1,Own.aai o⟩
 have q:∀j m,aN ko j=some m->∀o,(inp Lo).get j=some o->L'.get m=some o:=by
  intro j m hj o u;obtain⟨s,a2⟩:=oC hj;rw[aI,fo s] at u;rw[<-r];exact eG f b a2 u
 refine⟨_,_,_,⟨fun k=>?_,fun j=>?_,fun k g t e=>?_,ht.glob.mono hF⟩,kR (q3.ren q),k2⟩
 ·rcases oq ko (Mo.map (TO.aad (C.ren (aN ko)))) ((M.aaf ks).kills (rowsOf M ks)) k f (by simp[k1]) with⟨s,a2⟩ | ⟨i,s,a2,a3⟩
  ·have ad:L'.get k=(L.aaf ks).get k:=by
    rw[<-r];rcases cZ ko Lo (L.aaf ks) k f b with⟨l,_⟩ | ⟨i,l,_,_⟩
    ·exact l
    ·exact vv (aaU l) a2
   rw[s,ad,yE,rq,fk];split
   ·trivial
   ·rcases eD (ht.tl k) with⟨c1,c2⟩ | ⟨o,p,c1,c2,hr⟩
    ·rw[c1,c2];trivial
    ·rw[c1,c2];exact(hr.kills (rowsOf M ks)).ext hF z
  ·rw[a2,aa6];have d:i<Mo.length:=by simpa using a3
   have y:i<Lo.length:=by omega
   have ad:L'.get k=some (Lo[i]):=by rw[<-r];exact eG f b s (aaQ y)
   rw[ad,aaQ d];have:=q2 (1000+i);rw[cu,aI,fo (by omega),fo (by omega),show 1000+i-1000=i by omega,aaQ d,aaQ y] at this;exact cN.ren q this
 ·rw[yF];exact((ht.env j).kills (rowsOf M ks)).ext hF z
 ·obtain⟨cs,h⟩:=ht.kp k g t e
  by_cases n:k∈ks
  ·exact a k g t cs n h
  ·exact⟨cs,x k n _ h⟩
theorem yI {PS:qa}{Pp:Value->Prop}{f:Nat}{args:List C}{l:List Value}{ks ko:List Nat}{Lin:List TO}{R:List TO->C->Prop}{K:TL->aG->C->Prop}(a:TS G F L ρ M τ) (z:aB F L args l)
  (h1:M.sub ks=some Lin) (h2:aU ks=true) (h3:aU ko=true) (h4:kE M ks ko=true) (h5:aJ Lin ks ko=true) (p:kY M ks PS.hb=true)
  (h6:CallsTX P f (args.map fun c=>c.aaj.ren (bh ks 1000)) (Lin.map (TO.aad (C.ren (bh ks 1000)))) R Pp) (m:∀v,Pp v->PS.ps v) (s:PS.st=none)
  (h7:∀v Mo,R Mo v->Wf v->(∀o∈Mo,o.Wf)->ko.length=Mo.length/\K (((M.aaf ks).kills (rowsOf M ks)).puts ko (Mo.map (TO.aad (C.ren (aN ko))))) (ef (rowsOf M ks) τ) (v.ren (aN ko)).slt) :
  ∃Li,L.sub ks=some Li/\ks.Nodup/\ko.Nodup/\(∀k,k∈ko->k∈ks\/L.get k=none)/\oP P f l.toArray F Li (gQ Li R) Pp/\(∀v F' L',x7 ks L L'->Pp v->zX G PS F' L' v) /\
  ∀v F' Lo,F.le F'->gQ Li R F' Lo v->ko.length=Lo.length/\(∀k g t cs,k∈ks->L.get k=some (.box g t cs)->∃cs',Loc.get ((L.aaf ks).puts ko Lo) k=some (.box g t cs')) /\
   ∃M' b c,TS G F' ((L.aaf ks).puts ko Lo) ρ M' b/\aL F' ((L.aaf ks).puts ko Lo) c (.v v)/\K M' b c:=by
 obtain⟨Li,d,r,x⟩:=kH a.tl h1;have y:=cW h2;have n:=cW h3;have w:∀k,k∈ko->k∈ks\/L.get k=none:=fun k u=>(ru h4 k u).imp id fun e=>cj a.tl e;have ac:=cE d;refine⟨Li,d,y,n,w,h6.out F Li l (by simp[r]) (lI a.tl r d x) ?_,fun v F' L' j hv=>⟨fun k g t e=>let⟨cs,h⟩:=a.kp k g t e;let⟨cs',h',_⟩:=j k g t cs h;⟨cs',h'⟩,m v hv,NU a.tl p fun k g t cs u e=>let⟨cs',h',q⟩:=j k g t cs e;by rw[h',q u],NT.no s⟩,?_⟩
 ·exact z.map fun c _ v hc=>(jn hc).ren (lR d)
 ·exact rB a h2 h3 h4 h5 d r x h7
theorem Be {PS:qa}{Pp:Value->Prop}{f:Nat}{args:List C}{h:List Value}{ks ko:List Nat}{Lin:List TO}{R:List TO->C->Prop}{K:TL->aG->C->Prop}(j:TS G F L ρ M τ) (p:aB F L args h)
  (h1:M.sub ks=some Lin) (h2:aU ks=true) (h3:aU ko=true) (h4:kE M ks ko=true) (h5:aJ Lin ks ko=true) (d:kY M ks PS.hb=true)
  (h6:CallsTX P f (args.map fun c=>c.aaj.ren (bh ks 1000)) (Lin.map (TO.aad (C.ren (bh ks 1000)))) R Pp) (b:∀v,Pp v->PS.ps v) (e:PS.st=none)
  (h7:∀v Mo,R Mo v->Wf v->(∀o∈Mo,o.Wf)->ko.length=Mo.length/\K (((M.aaf ks).kills (rowsOf M ks)).puts ko (Mo.map (TO.aad (C.ren (aN ko))))) (ef (rowsOf M ks) τ) (v.ren (aN ko)).slt) :
  gu P (zX G PS) f h F L (fun F' L' v=>∃M' a c,TS G F' L' ρ M' a/\aL F' L' c (.v v)/\K M' a c):=by
 obtain⟨Li,r,n,l,q,m,s,t⟩:=yI j p h1 h2 h3 h4 h5 d h6 b e h7;exact⟨ks,ko,Li,gQ Li R,fun _ _=>Pp,r,n,l,q,m.toS,fun v F' Lo _ _ hb k=>s v F' _ hb k,t⟩
theorem jV:∀{Lin:List TO}{ks ko:List Nat},aJ Lin ks ko=true->aJ Lin ks ks=true
 | [],ks,ko,h=>by simp only[aJ]
 | .box t cs::l,[],ko,h=>by simp only[aJ] at h;cases h
 | .map es::l,[],ko,h=>by simp only[aJ] at h;cases h
 | .row t sz els::l,[],ko,h=>by simp only[aJ] at h;cases h
 | .box t cs::l,k::ks,[],h=>by simp only[aJ] at h;cases h
 | .map es::l,k::ks,[],h=>by simp only[aJ] at h;cases h
 | .box t cs::l,k::ks,a::ko,h=>by
  have e:Nat.beq k k=true:=by simp
  simp only[aJ] at h ⊢;split at h
  ·rw[e];exact jV h
  ·cases h
 | .map es::l,k::ks,a::ko,h=>by
  have e:Nat.beq k k=true:=by simp
  simp only[aJ] at h ⊢;split at h
  ·rw[e];exact jV h
  ·cases h
 | .row t sz els::l,k::ks,[],h=>by
  simp only[aJ] at h ⊢;exact jV h
 | .row t sz els::l,k::ks,a::ko,h=>by
  simp only[aJ] at h ⊢;exact jV h
theorem Bf {ps:Value->Prop}{hb:List (Nat×Nat)}{st:TL->Value->Prop}{PS:qa}{Pp:List TO->Value->Prop}{f:Nat}{args:List C}{x:List Value}{ks ko:List Nat}{Lin:List TO}{R:List TO->C->Prop}{K:TL->aG->C->Prop}(j:TS G F L ρ M τ) (ha:aB F L args x)
  (ac:PS=⟨ps,hb,some st⟩) (h1:M.sub ks=some Lin) (h2:aU ks=true) (h3:aU ko=true) (h4:kE M ks ko=true) (h5:aJ Lin ks ko=true) (ae:kY M ks hb=true)
  (h6:CallsTS P f (args.map fun c=>c.aaj.ren (bh ks 1000)) (Lin.map (TO.aad (C.ren (bh ks 1000)))) R Pp)
  (y:∀v Mo,Pp Mo v->(∀o∈Mo,o.Wf)->ks.length=Mo.length->ps v/\st (((M.aaf ks).kills (rowsOf M ks)).puts ks (Mo.map (TO.aad (C.ren (aN ks))))) v)
  (h7:∀v Mo,R Mo v->Wf v->(∀o∈Mo,o.Wf)->ko.length=Mo.length/\K (((M.aaf ks).kills (rowsOf M ks)).puts ko (Mo.map (TO.aad (C.ren (aN ko))))) (ef (rowsOf M ks) τ) (v.ren (aN ko)).slt) :
  gu P (zX G PS) f x F L (fun F' L' v=>∃M' d c,TS G F' L' ρ M' d/\aL F' L' c (.v v)/\K M' d c):=by
 subst ac;obtain⟨Li,l,w,z⟩:=kH j.tl h1;have hn:=cW h2;have ab:=cW h3;have am:∀k,k∈ko->k∈ks\/L.get k=none:=fun k u=>(ru h4 k u).imp id fun e=>cj j.tl e;obtain⟨ag,al⟩:=cE l;refine⟨ks,ko,Li,gQ Li R,_,l,hn,ab,am,h6.out F Li x (by simp[w]) (lI j.tl w l z) (ha.map fun c _ v hc=>(jn hc).ren (lR l)),?_,rB j h2 h3 h4 h5 l w z h7⟩;rintro v F' Lo hF m p ⟨Mo,q1,q2,q3⟩;have aa:∀o∈Mo,o.Wf:=by
  intro o ho;obtain⟨i,hi⟩:=abh.1 ho;have a:i<Lo.length:=by rw[<-q1];exact(aaT.1 hi).1
  have:=q2 (1000+i);rw[cu,aI,fo (by omega),fo (by omega),show 1000+i-1000=i by omega,hi,aaQ a] at this;exact cN.wf this
 obtain⟨p1,p2⟩:=y v Mo q3 aa (by omega);have r:gQ Li (fun Mo' _=>Mo'=Mo) F' Lo undef:=by
  refine⟨Mo,.any,q1,q2,by simp only[Rel],fun i g t cs e=>?_,rfl⟩;have a:i<ks.length:=by rw[<-ag];exact(aaT.1 e).1
  have n:=al i _ (aaQ a);rw[e] at n;obtain⟨cs',h,_⟩:=p _ g t cs n;have h2:Loc.get ((L.aaf ks).puts ks Lo) ks[i]=Lo[i]?:=by
   have b:i<Lo.length:=by omega
   rw[aaQ b];exact eG hn m (aaQ a) (aaQ b)
  exact⟨cs',by rw[<-h2];exact h⟩
 have ad:aJ Lin ks ks=true:=jV h5;obtain⟨_,_,M',d,c,t1,_,rfl⟩:=rB (K:=fun M' _ _=>M'=((M.aaf ks).kills (rowsOf M ks)).puts ks (Mo.map (TO.aad (C.ren (aN ks))))) j h2 h2 (rA fun k u=>u) ad l w z
  (fun v' Mo' e _ _=>by subst e;exact⟨by omega,rfl⟩) undef F' Lo hF r
 exact⟨t1.kp,p1,NU j.tl ae fun k g t cs u e=>(let⟨cs',h',q⟩:=p k g t cs e;by rw[h',q u]),fun s e=>by injection e with e;subst e;exact⟨_,Bd t1.tl,p2⟩⟩
theorem TS.same {L2:Loc}(b:TS G F L ρ M τ) (a:L.sameAs L2):TS G F L2 ρ M τ:=by
 have he:Ext L L2:=fun k o e=>⟨o,by rw[a k];exact e,Own.aai o⟩;refine⟨fun k=>?_,fun j=>(b.env j).ext (aA.le_refl F) he,fun k g t e=>?_,b.glob⟩
 ·rcases eD (b.tl k) with⟨c,d⟩ | ⟨o,p,c,d,f⟩
  ·rw[a k,c,d];trivial
  ·rw[a k,c,d];exact f.ext (aA.le_refl F) he
 ·obtain⟨cs,h⟩:=b.kp k g t e;exact⟨cs,by rw[a k];exact h⟩
theorem yJ:∀{ks fb:List Nat},rX ks fb=true->∀k∈ks,k∉fb
 | [],fb,_,k,h=>by cases h
 | j::ks,fb,h,k,a=>by
  simp only[rX] at h;split at h
  ·cases h
  ·rename_i b;rcases aaX.1 a with rfl | a
   ·intro c;rw[cS.2 c] at b;cases b
   ·exact yJ h k a
theorem yK {PS:qa}{fb:List Nat}{f:Nat}{args:List C}{n:List Value}{K:TL->aG->C->Prop}(u:TS G F L ρ M τ) (ha:aB F L args n) (h:rp P PS fb f args M τ K) (m:PS.st=none) :
  kW P (zX G PS) fb f n F L (fun F' L' v=>∃M' b c,TS G F' L' ρ M' b/\aL F' L' c (.v v)/\K M' b c):=by
 obtain⟨ks,Lin,R,Pp,h1,h2,h0,h5,j,h6,d,h7⟩:=h;have h4:kE M ks ks=true:=rA (fun k hk=>hk);obtain⟨Li,q1,p,q3,q4,x,q6,q7⟩:=yI u ha h1 h2 h2 h4 h5 j h6 d m h7;refine⟨ks,Li,gQ Li R,fun _ _=>Pp,q1,p,yJ h0,x.toS,fun v F' L' Lo _ _ l w=>q6 v F' L' l w,fun v F' Lo hF r=>?_⟩;obtain⟨q,a2,M',b,c,a3,s,z⟩:=q7 v F' Lo hF r;have a:=ri (L:=L) p q;refine⟨q,fun i g t cs e=>?_,fun _=>⟨M',b,c,a3.same a,s.ext (aA.le_refl F') fun k o e=>⟨o,by rw[a k];exact e,Own.aai o⟩,z⟩⟩;obtain⟨Mo,c',_,_,_,y,_⟩:=r;exact y i g t cs e
theorem vZ {ps:Value->Prop}{hb:List (Nat×Nat)}{st:TL->Value->Prop}{PS:qa}{fb:List Nat}{f:Nat}{args:List C}{vs:List Value}{K:TL->aG->C->Prop}(w:TS G F L ρ M τ) (ha:aB F L args vs) (al:PS=⟨ps,hb,some st⟩) (h:tM P ps hb st fb f args M τ K) :
  kW P (zX G PS) fb f vs F L (fun F' L' v=>∃M' d c,TS G F' L' ρ M' d/\aL F' L' c (.v v)/\K M' d c):=by
 subst al;obtain⟨ks,Lin,R,Pp,h1,h2,h0,h5,ac,h6,ae,h7⟩:=h;have h4:kE M ks ks=true:=rA (fun k a=>a);obtain⟨Li,y,e2,e3⟩:=kH w.tl h1;have hn:=cW h2;obtain⟨aE,ba⟩:=cE y;refine⟨ks,Li,gQ Li R,_,y,hn,yJ h0,h6.out F Li vs (by simp[e2]) (lI w.tl e2 y e3) (ha.map fun c _ v hc=>(jn hc).ren (lR y)),?_,fun v F' Lo hF hR=>?_⟩
 ·rintro v F' L' Lo hF am x ⟨Mo,q1,q2,q3⟩;have aa:∀o∈Mo,o.Wf:=by
   intro o z;obtain⟨i,hi⟩:=abh.1 z;have l:i<Lo.length:=by rw[<-q1];exact(aaT.1 hi).1
   have:=q2 (1000+i);rw[cu,aI,fo (by omega),fo (by omega),show 1000+i-1000=i by omega,hi,aaQ l] at this;exact cN.wf this
  obtain⟨y1,y2⟩:=cE am;obtain⟨p1,p2⟩:=ae v Mo q3 aa (by omega);have r:∀j m,aN ks j=some m->∀o,(inp Lo).get j=some o->L'.get m=some o:=by
   intro j m hj o z;obtain⟨p,u⟩:=oC hj;rw[aI,fo p] at z;rw[y2 _ _ u];exact z
  refine⟨fun k g t e=>let⟨cs,h⟩:=w.kp k g t e;let⟨cs',h',_⟩:=x k g t cs h;⟨cs',h'⟩,p1,NU w.tl ac fun k g t cs a e=>(let⟨cs',h',q⟩:=x k g t cs e;by rw[h',q a]),fun s e=>?_⟩;injection e with e
  subst e;refine⟨_,fun k o a=>?_,p2⟩;rcases oq ks (Mo.map (TO.aad (C.ren (aN ks)))) [] k hn (by simp;omega) with⟨p,u⟩ | ⟨i,p,u,a3⟩
  ·rw[p] at a;cases a
  ·rw[u,aa6] at a;have l:i<Mo.length:=by simpa using a3
   have n:i<Lo.length:=by omega
   rw[aaQ l] at a;injection a with a
   subst a;refine⟨Lo[i],by rw[y2 _ _ p];exact aaQ n,?_⟩;have:=q2 (1000+i);rw[cu,aI,fo (by omega),fo (by omega),show 1000+i-1000=i by omega,aaQ l,aaQ n] at this;exact cN.ren r this
 ·obtain⟨p,u,M',d,c,a3,a4,a5⟩:=rB w h2 h2 h4 h5 y e2 e3 h7 v F' Lo hF hR;have b:=ri (L:=L) hn p;refine⟨p,fun i g t cs e=>?_,fun _=>⟨M',d,c,a3.same b,a4.ext (aA.le_refl F') fun k o e=>⟨o,by rw[b k];exact e,Own.aai o⟩,a5⟩⟩;obtain⟨Mo,c',_,_,_,b4,_⟩:=hR;exact b4 i g t cs e
end
section
variable {P:Program}{G:Nat->Option (Nat×TypeId)}{F:aA}{L:Loc}{ρ:Env}{M:TL}{τ:aG}{a:Act}{w:World}
theorem DG {F':aA}(l:F.le F') {k:Nat}{a:Option Addr}{c:Nat}{t sz:Nat}{els:List (List C)}{xs:List Value}(m:L.get k=some (.row (.slice a els.length c) t sz els.length xs))
  (r:Rel F' (L.del k) (.sl els) (.slice a els.length c)):(∀d v,C.leaf d=true->Rel F L d v->Rel F' (L.del k) (nB k els d) v)/\(∀d sv,C.leaf d=true->aL F L d sv->aL F' (L.del k) (nB k els d) sv):=by
 have h2:∀j,j≠k->∀o,L.get j=some o->∃o',(L.del k).get j=some o'/\Own.like o o':=fun j f o y=>⟨o,by rw[Loc.aah,o5 f];exact y,Own.aai o⟩;have b:∀g t cs,L.get k≠some (.box g t cs):=fun g t cs h=>by rw[m] at h;injection h with h;cases h
 constructor
 ·intro d v q h;cases d<;>simp only[C.leaf,aa5] at q
  case rw j =>
   simp only[nB];cases f:Nat.beq j k with
   | true =>
    have:=aaR f;subst this;simp only[Rel] at h;obtain⟨a',u,x,n,s,p,rfl,h⟩:=h;rw[m] at h;injection h with h
    injection h with q1 q2 q3 q4 q5
    rw[<-q1];exact r
   | false =>
    have:=ou b h2 l (.rw j) v rfl h;simpa only[gG,f] using this
  all_goals
   have:=ou b h2 l _ v rfl h;simpa only[gG,nB] using this
 ·intro d sv q h;cases d<;>simp only[C.leaf,aa5] at q
  case rw j =>
   simp only[nB];cases f:Nat.beq j k with
   | true =>
    have:=aaR f;subst this;simp only[aL,Rel] at h;obtain⟨v,e,a',u,x,n,s,p,rfl,h⟩:=h;rw[m] at h;injection h with h
    injection h with q1 q2 q3 q4 q5
    rw[<-q1] at e;exact⟨_,e,r⟩
   | false =>
    have:=pB b h2 l (.rw j) sv rfl h;simpa only[gG,f] using this
  all_goals
   have:=pB b h2 l _ sv rfl h;simpa only[gG,nB] using this
theorem cN.frz {F':aA}(b:F.le F') {k:Nat}{els:List (List C)}(j:∀d v,C.leaf d=true->Rel F L d v->Rel F' (L.del k) (nB k els d) v):∀{o:TO}{p:Own},cN F L o p->cN F' (L.del k) (o.aad (C.frz k els)) p
 | .box t cs,.box g e f,r=>⟨r.1,r.2.map fun c _ v h=>Rel.mp j 3 h⟩
 | .row t sz els,.row v e l n xs,r=>⟨r.1,r.2.1,r.2.2.1,r.2.2.2.1,r.2.2.2.2.mono b⟩
 | .box _ _,.row ..,r=>r.elim
 | .row ..,.box ..,r=>r.elim
 | .map _,.row ..,r=>r.elim
 | .map es,.box g e f,r=>⟨r.1,r.2.mono b⟩
theorem pE {k:Nat}{t sz:Nat}{els:List (List C)}(hs:St F L w) (he:aC L ρ a) (m:TS G F L ρ M τ) (hk:M.get k=some (.row t sz els)) :
  ∃F' L',St F' L' w/\aC L' ρ a/\Step F L w F' L' w/\TS G F' L' ρ ((M.del k).aad (C.frz k els)) (fun j=>(τ j).frz k els)/\(∀{c v},Rel F L c v->Rel F' L' (c.frz k els) v):=by
 obtain⟨v,xs,s,⟨hm,q,cv,rfl,y⟩,hr⟩:=mM m.tl hk;obtain⟨F',L',z,g2,g3,f,b,rfl⟩:=qY (KK:=fun F' L'=>F.le F'/\R4 F' (.slice q els.length cv) sz els.length xs/\L'=L.del k) hs he ⟨_,_,_,_,_,s,fun F' f b=>⟨f,b,rfl⟩⟩;have n:Rel F' (L.del k) (.sl els) (.slice q els.length cv):=by
  simp only[Rel];rcases b with⟨d,l,x⟩ | ⟨ad,c2,d,l,x⟩
  ·injection d with q1 q2 q3
   have:els=[]:=List.length_eq_zero_iff.1 q2;subst this;exact⟨q,cv,rfl,by simp,by simp,fun _=>⟨rfl,q3⟩,sz,by simp only[gP]⟩
  ·injection d with q1 q2 q3
   subst q1 q3;exact⟨some ad,cv,rfl,x,hm,fun e=>(by cases e),sz,(hr.mono f).frz l⟩
 obtain⟨r,l2⟩:=DG f s n;refine⟨F',L.del k,z,g2,g3,⟨fun j=>?_,fun j=>aL.mp r l2 3 (m.env j),fun j g t e=>?_,m.glob.mono f⟩,fun h=>Rel.mp r 3 h⟩
 ·rw[qD,TL.aah,Loc.aah];split
  ·trivial
  ·rcases eD (m.tl j) with⟨d,l⟩ | ⟨o,p,d,l,u⟩
   ·rw[d,l];trivial
   ·rw[d,l];exact u.frz f r
 ·obtain⟨cs,h⟩:=m.kp j g t e;exact⟨cs,by rw[Loc.aah,o5 (by rintro rfl;rw[s] at h;injection h with h;cases h)];exact h⟩
def yL (k g:Nat):SV->SV
 | .own b off=>match Nat.beq b k with | true=>.v (.pointer (some ⟨g,off,none⟩)) | false=>.own b off
 | .v x=>.v x
 | .el a i=>.el a i
theorem KH {F':aA}(m:F.le F') {k g:Nat}{t:TypeId}{q:List Value}{es:List C}(s:L.get k=some (.box g t q)) (hg:F' g=some (.cells q.toArray t (0,0))) (h1:eW es=true) (u:aB F' [] es q) :
  (∀d v,C.leaf d=true->Rel F L d v->Rel F' (L.del k) (rj k es d) v)/\(∀d sv,C.leaf d=true->aL F L d sv->aL F' (L.del k) (rj k es d) (yL k g sv)):=by
 have h2:∀j,j≠k->∀o,L.get j=some o->∃o',(L.del k).get j=some o'/\Own.like o o':=fun j f o ho=>⟨o,by rw[Loc.aah,o5 f];exact ho,Own.aai o⟩;have p:∀o,NC F' g o o q:=fun o=>⟨0,_,t,(0,0),hg,by omega,fun i v hi=>by simpa using hi⟩;constructor
 ·intro d v hc h;cases d<;>simp only[C.leaf,aa5] at hc<;>simp only[rj]
  case own j off =>
   cases f:Nat.beq j k with
   | true =>
    have:=aaR f;subst this;simp only[Rel] at h ⊢;obtain⟨g',z,cs,e,rfl⟩:=h;rw[s] at e;injection e with e
    injection e with e1 e2 e3
    subst e1;exact⟨_,_,q,rfl,p off,h1,u⟩
   | false=>exact bJ m (fun r e=>by
     rcases e with⟨off,e⟩ | e | e
     ·injection e with e;subst e;exact h2 j (gK f)
     ·cases e
     ·cases e) rfl h
  case rw j =>
   refine bJ m (fun r e=>?_) rfl h;rcases e with⟨off,e⟩ | e | e
   ·cases e
   ·injection e with e
    subst e;refine h2 j ?_;rintro rfl;simp only[Rel] at h;obtain⟨a',c',z,ag,n',al,rfl,h⟩:=h;rw[s] at h;injection h with h
    cases h
   ·cases e
  case mpr j =>
   cases f:Nat.beq j k with
   | true=>simp only[Rel]
   | false=>exact bJ m (fun r e=>by
     rcases e with⟨off,e⟩ | e | e
     ·cases e
     ·cases e
     ·injection e with e;subst e;exact h2 j (gK f)) rfl h
  case ownv=>exact h.elim
  case elr=>exact h.elim
  all_goals
   exact bJ m (fun r e=>by rcases e with⟨off,e⟩ | e | e<;>cases e) rfl h
 ·intro d sv hc h;have keep:∀{c:C},(∀j off,c≠.own j off)->c.leaf=true->c≠.any->aL F L c sv->yL k g sv=sv:=by
   intro c ab hl ae y;cases sv with
   | v x=>rfl
   | el a i=>rfl
   | own k' off =>
    exfalso;cases c<;>simp only[C.leaf,aa5] at hl<;>first
     | exact ab _ _ rfl
     | exact ae rfl
     | (obtain⟨v,e,_⟩:=y;cases e;done)
     | (obtain⟨b,o,j,us,e | e,_⟩:=y
        ·cases e.1
        ·cases e)
     | (obtain⟨ad,t,sz,n,c,xs,e,_⟩:=y;cases e;done)
     | (obtain⟨v,e | ⟨b,o,j,e,_⟩,_⟩:=y
        ·cases e
        ·cases e)
  cases d<;>simp only[C.leaf,aa5] at hc<;>simp only[rj]
  case any=>trivial
  case own j off =>
   obtain⟨rfl,g',z,cs,e⟩:=h;simp only[yL];cases f:Nat.beq j k with
   | true =>
    have:=aaR f;subst this;exact⟨g,off,0,q,.inl ⟨rfl,rfl⟩,p off,h1,u⟩
   | false =>
    obtain⟨o',q1,q2⟩:=h2 j (gK f) _ e;cases o' with
    | row=>exact q2.elim
    | box g2 t2 aa=>exact⟨rfl,g2,t2,aa,q1⟩
  case ownv j off =>
   rw[keep (c:=.ownv j off) (fun _ _ e=>by cases e) rfl (fun e=>by cases e) h];cases f:Nat.beq j k with
   | true =>
    have:=aaR f;subst this;obtain⟨v,ao,l⟩:=h;simp only[Rel] at l;obtain⟨g',z,cs,e,rfl⟩:=l;rw[s] at e;injection e with e
    injection e with e1 e2 e3
    subst e1;rcases ao with rfl | ⟨b,o,i,rfl,e⟩
    ·exact⟨g,off,0,q,.inl ⟨rfl,rfl⟩,p off,h1,u⟩
    ·injection e with e
     injection e with e
     injection e with q1 q2 q3
     subst q1 q2;exact⟨g,o,i,q,.inr rfl,p (o+i),h1,u⟩
   | false =>
    refine dL m (fun r e=>?_) rfl h;rcases e with⟨off,e⟩ | ⟨off,e⟩ | e | ⟨a,b,e⟩ | e<;>first | cases e;done | skip
    injection e with e
    subst e;exact h2 j (gK f)
  case rw j =>
   rw[keep (c:=.rw j) (fun _ _ e=>by cases e) rfl (fun e=>by cases e) h];refine dL m (fun r e=>?_) rfl h;rcases e with⟨off,e⟩ | ⟨off,e⟩ | e | ⟨a,b,e⟩ | e<;>first | cases e;done | skip
   injection e with e
   subst e;refine h2 j ?_;rintro rfl;obtain⟨v,_,l⟩:=h;simp only[Rel] at l;obtain⟨a',c',z,ag,n',al,rfl,h⟩:=l;rw[s] at h;injection h with h
   cases h
  case elr j a b =>
   rw[keep (c:=.elr j a b) (fun _ _ e=>by cases e) rfl (fun e=>by cases e) h];refine dL m (fun r e=>?_) rfl h;rcases e with⟨off,e⟩ | ⟨off,e⟩ | e | ⟨a,b,e⟩ | e<;>first | cases e;done | skip
   injection e with e
   subst e;refine h2 j ?_;rintro rfl;obtain⟨ad,t,sz,n,c,xs,_,h⟩:=h;rw[s] at h;injection h with h
   cases h
  case mpr j =>
   rw[keep (c:=.mpr j) (fun _ _ e=>by cases e) rfl (fun e=>by cases e) h];cases f:Nat.beq j k with
   | true=>trivial
   | false =>
    refine dL m (fun r e=>?_) rfl h;rcases e with⟨off,e⟩ | ⟨off,e⟩ | e | ⟨a,b,e⟩ | e<;>first | cases e;done | skip
    injection e with e
    subst e;exact h2 j (gK f)
  all_goals
   rw[keep (fun _ _ e=>by cases e) rfl (fun e=>by cases e) h];exact dL m (fun r e=>by rcases e with⟨off,e⟩ | ⟨off,e⟩ | e | ⟨a,b,e⟩ | e<;>cases e) rfl h
theorem KI (k g:Nat) (ρ:Env) (j:Nat):xK k g ρ j=yL k g (ρ j):=by
 simp only[xK,yL];cases ρ j<;>rfl
theorem FK {k:Nat}{t:TypeId}{cs:List C}(hs:St F L w) (he:aC L ρ a) (d:TS G F L ρ M τ) (hk:M.get k=some (.box t cs)) (h1:eW cs=true) (h2:ja cs=true) (hG:G k=none) :
  ∃F' L' ρ',St F' L' w/\aC L' ρ' a/\Step F L w F' L' w/\TS G F' L' ρ' ((M.del k).aad (C.frb k cs)) (fun j=>(τ j).frb k cs):=by
 obtain⟨g,ty,vs,y,hr,q⟩:=lH d.tl hk;obtain⟨F',f,z,g1,g2,g3⟩:=sB hs he y;rw[jy q.2.2] at z;obtain⟨x,l2⟩:=KH (F:=F) f y z h1 ((jA h2 hr).mono f);refine⟨F',L.del k,_,g1,g2,g3,⟨fun j=>?_,fun j=>?_,fun j g t e=>?_,d.glob.mono f⟩⟩
 ·rw[qD,TL.aah,Loc.aah];split
  ·trivial
  ·rcases eD (d.tl j) with⟨r,u⟩ | ⟨o,p,r,u,b⟩
   ·rw[r,u];trivial
   ·rw[r,u];cases o with
    | row t sz els =>
     cases p with
     | box=>exact b.elim
     | row v t' ag n xs=>exact⟨b.1,b.2.1,b.2.2.1,b.2.2.2.1,b.2.2.2.2.mono f⟩
    | box t cs =>
     cases p with
     | row=>exact b.elim
     | box g t' us=>exact⟨b.1,b.2.map fun c _ v h=>Rel.mp x 3 h⟩
    | map es =>
     cases p with
     | row=>exact b.elim
     | box g t' us=>exact⟨b.1,b.2.mono f⟩
 ·rw[KI];have m:=d.env j;cases l:(τ j).leaf with
  | true =>
   have e:(τ j).frb k cs=rj k cs (τ j):=wX l;simp only[e];exact l2 _ _ l m
  | false =>
   generalize ρ j=sv at m;generalize τ j=c at l m;have h':∃v,sv=.v v/\Rel F L c v:=by
    cases c<;>first | exact m | cases l
   obtain⟨v,rfl,hv⟩:=h';have s:Rel F' (L.del k) (c.frb k cs) v:=Rel.mp x 3 hv;cases c<;>first | exact⟨v,rfl,s⟩ | cases l
 ·obtain⟨cs,h⟩:=d.kp j g t e;exact⟨cs,by rw[Loc.aah,o5 (by rintro rfl;rw[hG] at e;cases e)];exact h⟩
theorem pF:∀{o:List Nat}{F:aA}{L:Loc}{M:TL}{τ:aG}{args:List C}{f:List Value}{K:TL->aG->List C->Prop},St F L w->aC L ρ a->TS G F L ρ M τ->aB F L args f->yt o M τ args K ->
  ∃F' L' M' e b,St F' L' w/\aC L' ρ a/\Step F L w F' L' w/\TS G F' L' ρ M' e/\aB F' L' b f/\K M' e b
 | [],F,L,M,τ,args,f,K,n,he,j,m,h=>⟨F,L,M,τ,args,n,he,Step.refl _ _ _,j,m,h⟩
 | k::o,F,L,M,τ,args,f,K,n,he,j,m,h=>by
  simp only[yt] at h;split at h
  case h_2=>exact h.elim
  rename_i t sz els hk;obtain⟨F1,L1,p,g2,u,r,g5⟩:=pE n he j hk;obtain⟨F2,L2,M2,l,d,k1,q,s,y,k5,z⟩:=pF p g2 r (m.map fun c _ v x=>g5 x) h;exact⟨F2,L2,M2,l,d,k1,q,u.trans s,y,k5,z⟩
def tV (L:Loc):TL->Loc
 | []=>[]
 | (k,o)::l=>(k,match L.get k with
  | some p=>p
  | none=>match o with
   | .row t sz _=>.row (.slice none 0 0) t sz 0 []
   | .box _ _=>.row (.slice none 0 0) 0 0 0 []
   | .map _=>.row (.slice none 0 0) 0 0 0 [])::tV L l
theorem lT:∀(M1:TL) (k:Nat),(tV L M1).get k=match M1.get k with
  | some o=>some (match L.get k with | some p=>p | none=>match o with | .row t sz _=>.row (.slice none 0 0) t sz 0 [] | .box _ _=>.row (.slice none 0 0) 0 0 0 [] | .map _=>.row (.slice none 0 0) 0 0 0 [])
  | none=>none
 | [],k=>rfl
 | (j,o)::l,k=>by
  simp only[tV,Loc.get,TL.get];cases h:Nat.beq j k with
  | true=>have:=aaR h;subst this;rfl
  | false=>exact lT l k
theorem DH:∀{l:TL}{M1:TL},gives M M1 l->∀{k o},l.get k=some o->(∃p,M.get k=some p/\WB M M1 p o)\/(M.get k=none/\∃t sz,o=.row t sz [])
 | [],M1,h,k,o,e=>by cases e
 | (j,p)::l,M1,h,k,o,e=>by
  simp only[gives] at h;simp only[TL.get] at e;split at e
  ·rename_i b;have:=aaR b;subst this;injection e with e
   subst e;exact h.1
  ·exact DH h.2 e
theorem vk (c:bT F L M) {M1:TL}:∀{l:TL},gives M M1 l->L.gives (tV L l)
 | [],h=>trivial
 | (j,p)::l,h=>by
  simp only[gives] at h;refine⟨?_,vk c h.2⟩;rcases h.1 with⟨q,b,k⟩ | ⟨b,t,sz,rfl⟩
  ·rcases eD (c j) with⟨d,e⟩ | ⟨o,m,d,e,f⟩
   ·rw[d] at b;cases b
   ·simp only[e];exact .inl trivial
  ·have:=cj c b;simp only[this];exact .inr ⟨trivial,t,sz,rfl⟩
theorem v9 {L':Loc}{M1:TL}(p:∀k o,M1.get k≠none->L.get k=some o->L'.get k=some o):∀(n:Nat) {c:C}{v:Value},fQ M1 n c=true->Rel F L c v->Rel F L' c v:=by
 have f:∀{c:C}{v:Value},c.leaf=true->rm M1 c=true->Rel F L c v->Rel F L' c v:=by
  intro c v d b h;refine bJ (aA.le_refl F) (fun k e o s=>⟨o,p k o ?_ s,Own.aai o⟩) d h;rcases e with⟨off,rfl⟩ | rfl | rfl
  ·simp only[rm] at b;intro e;rw[e] at b;cases b
  ·simp only[rm] at b;intro e;rw[e] at b;cases b
  ·simp only[rm] at b;intro e;rw[e] at b;cases b
 intro n
 induction n with
 | zero =>
  intro c v b h;cases d:c.leaf
  ·cases c<;>simp only[C.leaf,Bool.true_eq_false] at d<;>simp only[fQ,aa5] at b
  ·refine f d ?_ h;cases c<;>simp only[C.leaf,aa5] at d<;>simpa only[fQ] using b
 | succ n q =>
  intro c v b h;have all:∀{cs:List C}{j:List Value},cs.all (fQ M1 n)=true->aB F L cs j->aB F L' cs j:=by
   intro cs j h1 h2;have:=h2.map (g:=id) (F':=F) (L':=L') (fun c d v r=>q (aa1.1 h1 c d) r);simpa using this
  cases d:c.leaf
  ·cases c<;>simp only[C.leaf,Bool.true_eq_false] at d<;>simp only[fQ,aaN] at b<;>simp only[Rel] at h ⊢
   ·obtain⟨m,l,h1,h2,h3⟩:=h;exact⟨m,l,h1,all b.1 h2,all b.2 h3⟩
   ·obtain⟨j,h1,h2⟩:=h;exact⟨j,h1,all b h2⟩
   ·obtain⟨j,h1,h2⟩:=h;exact⟨j,h1,all b h2⟩
  ·refine f d ?_ h;cases c<;>simp only[C.leaf,aa5] at d<;>simpa only[fQ] using b
theorem rC (f:bT F L M) {M1:TL}{c d:C}{v:Value}(h:NA M M1 c d) (b:Rel F L c v):Rel F (tV L M1) d v:=by
 rcases h with rfl | ⟨rfl,j⟩ | ⟨rfl,rfl⟩ | ⟨rfl,k,t,sz,rfl,h1,h2⟩ | ⟨els,rfl,rfl⟩
 ·simp only[Rel]
 ·refine v9 (fun k o h1 h2=>?_) 3 j b;rw[lT];cases e:M1.get k with
  | none=>exact vv e h1
  | some q=>simp only[h2]
 ·exact tQ (c:=.nils) (by simpa only[Rel] using b)
 ·simp only[Rel] at b ⊢;subst b;refine⟨none,0,t,sz,0,[],rfl,?_⟩;rw[lT,h2];simp only[cj f h1]
 ·simpa only[Rel] using ve b
theorem DI (k:bT F L M) {M1:TL}:∀{cs cs':List C}{b:List Value},Ku M M1 cs cs'->aB F L cs b->aB F (tV L M1) cs' b
 | [],cs',b,h,d=>by simp only[Ku] at h;subst h;simpa only[aB] using d
 | c::cs,cs',b,h,d=>by
  simp only[Ku] at h;obtain⟨m,l,rfl,h1,h2⟩:=h;simp only[aB] at d ⊢;obtain⟨v,e,rfl,j,f⟩:=d;exact⟨v,e,rfl,rC k h1 j,DI k h2 f⟩
theorem NV (j:bT F L M) {M1:TL}{o o':TO}{p:Own}(h:WB M M1 o o') (b:cN F L o p):cN F (tV L M1) o' p:=by
 rcases h with⟨rfl,d⟩ | ⟨t,cs,cs',rfl,rfl,h⟩
 ·cases o with
  | row t sz els=>cases p with
   | row=>exact b
   | box=>exact b.elim
  | map es=>cases p with
   | row=>exact b.elim
   | box=>exact b
  | box t cs=>cases p with
   | row=>exact b.elim
   | box g n f =>
    simp only[Q0] at d;refine⟨b.1,?_⟩;have:=b.2.map (g:=id) (F':=F) (L':=tV L M1) (fun c l v m=>v9 (fun k o h1 h2=>by
     rw[lT];cases e:M1.get k with
     | none=>exact vv e h1
     | some q=>simp only[h2]) 3 (aa1.1 d c l) m)
    simpa using this
 ·cases p with
  | row=>exact b.elim
  | box g n f=>exact⟨b.1,DI j h b.2⟩
theorem yM (c:bT F L M) {M1:TL}(h:gives M M1 M1):bT F (tV L M1) M1:=by
 intro k;rw[lT];cases e:M1.get k with
 | none=>trivial
 | some o =>
  rcases DH h e with⟨q,b,l⟩ | ⟨b,t,sz,rfl⟩
  ·rcases eD (c k) with⟨d,f⟩ | ⟨q',p,d,f,j⟩
   ·rw[d] at b;cases b
   ·rw[d] at b;injection b with b
    subst b;simp only[f];exact NV c l j
  ·simp only[cj c b];exact⟨rfl,rfl,rfl,⟨by simp,none,0,rfl,fun _=>rfl⟩,by simp only[aQ]⟩
theorem yN (c:St F L w) (b:bT F L M) {M1:TL}(h:gives M M1 M1):St F (tV L M1) w/\Step F L w F (tV L M1) w:=⟨c.gives (vk b h),sD (vk b h)⟩
theorem mQ:∀{l M1:TL},pu l M1=true->∀{k o},l.get k=some o->Cm o=false->∃o',M1.get k=some o'
 | [],M1,h,k,o,e,_=>by cases e
 | (j,.box n m)::l,M1,h,k,o,e,b=>by
  simp only[pu] at h;split at h
  case h_2=>cases h
  rename_i f p h1;simp only[TL.get] at e;split at e
  ·rename_i c;have:=aaR c;subst this;exact⟨_,h1⟩
  ·exact mQ h e b
 | (j,.map es)::l,M1,h,k,o,e,b=>by
  simp only[pu] at h;split at h
  case h_2=>cases h
  rename_i d h1;simp only[TL.get] at e;split at e
  ·rename_i c;have:=aaR c;subst this;exact⟨_,h1⟩
  ·exact mQ h e b
 | (j,.row ..)::l,M1,h,k,o,e,b=>by
  simp only[pu] at h;simp only[TL.get] at e;split at e
  ·injection e with e;subst e;cases b
  ·exact mQ h e b
theorem yO:∀{l M1:TL},covers l M1=true->∀{k o},l.get k=some o->∃o',M1.get k=some o'
 | [],M1,h,k,o,e=>by cases e
 | (j,p)::l,M1,h,k,o,e=>by
  simp only[covers] at h;split at h
  case h_2=>cases h
  rename_i q h1;simp only[TL.get] at e;split at e
  ·rename_i b;have:=aaR b;subst this;exact⟨_,h1⟩
  ·exact yO h e
theorem KJ {L':Loc}(he:aC L ρ a) (h:∀k g t cs,L.get k=some (.box g t cs)->∃cs',L'.get k=some (.box g t cs')):aC L' ρ a:=by
 refine⟨fun t=>?_,fun t k off e=>?_,he.el⟩
 ·rw[he.eq t];cases e:ρ t with
  | v x=>rfl
  | el a j=>rfl
  | own k off =>
   obtain⟨g,ty,cs,c⟩:=he.own t k off e;obtain⟨cs',b⟩:=h _ _ _ _ c;simp only[conc,c,b]
 ·obtain⟨g,ty,cs,c⟩:=he.own t k off e;obtain⟨cs',b⟩:=h _ _ _ _ c;exact⟨g,ty,cs',b⟩
theorem qF (n:St F L w) (he:aC L ρ a) (c:TS G F L ρ M τ) {M1:TL}(h:gives M M1 M1) (m:covers M M1=true) :
  St F (tV L M1) w/\aC (tV L M1) ρ a/\Step F L w F (tV L M1) w/\TS G F (tV L M1) ρ M1 τ/\Ext L (tV L M1):=by
 obtain⟨h1,h2⟩:=yN n c.tl h;have b:∀k o,L.get k=some o->(tV L M1).get k=some o:=by
  intro k o e;rcases eD (c.tl k) with⟨d,f⟩ | ⟨q,p,d,f,r⟩
  ·rw[f] at e;cases e
  ·obtain⟨o',l⟩:=yO m d;rw[lT,l];simp only[e]
 refine⟨h1,KJ he fun k g t cs e=>⟨cs,b _ _ e⟩,h2,⟨yM c.tl h,fun j=>(c.env j).ext (aA.le_refl F) fun k o e=>⟨o,b k o e,Own.aai o⟩,fun k g t e=>?_,c.glob⟩,fun k o e=>⟨o,b k o e,Own.aai o⟩⟩;obtain⟨cs,h⟩:=c.kp k g t e;exact⟨cs,b _ _ h⟩
theorem SA {F:aA}{args:List C}{b:List Value}(ha:aB F L args b):aB F (inp []) (args.map fun c=>c.aaj.ren (bh [] 1000)) b :=
 ha.map fun c _ v d=>(jn d).ren (fun j m e=>by cases e)
theorem WG {F:aA}{L:Loc}{args:List C}{d:List Value}{f:Nat}{o:Own}(h:L.get f=some o) (ha:aB F L args d):aB F (inp [o]) (args.map fun c=>c.aaj.ren (bh [f] 1000)) d :=
 ha.map fun c _ v k=>(jn k).ren (fun j m e o' b=>by
  obtain⟨n,h1,rfl⟩:=Cl e;cases n with
  | zero =>
   simp only[aa4,aaO] at h1;subst h1;rw[h] at b;injection b with b
   subst b;rfl
  | succ n=>simp at h1)
theorem FL:bT F (inp []) (cO []):=fun k=>by rw[cu,aI];split<;>simp[Ac]
theorem gQ.aap {Li:List Own}{R:List TO->C->Prop}:∀F G L v,aA.le F G->gQ Li R F L v->gQ Li R G L v:=by
 rintro F G L v b ⟨Mo,c,f,e,h,d,j⟩;exact⟨Mo,c,f,e.mono b,h.mono b,d,j⟩
theorem vn {f:Nat}{args:List C}{y:List Value}{d:Option Nat}{K:TL->aG->C->Prop}(r:TS G F L ρ M τ) (ha:aB F L args y) (h:pA P f args M τ d K) :
  dQ P f y F L d (fun F' L' v=>∃M' am c,TS G F' L' ρ M' am/\aL F' L' c (.v v)/\K M' am c):=by
 cases h with
 | frz R h k =>
  refine .frz (gQ [] R) (h.out F [] y rfl FL (SA ha)) ?_;rintro v F' Lo l ⟨Mo,c,q,u,b,q4,q5⟩;obtain⟨rfl,k2⟩:=k c Mo q5 b.wf;have:Lo=[]:=List.length_eq_zero_iff.1 (by rw[<-q];rfl);subst this;exact⟨rfl,fun _=>⟨M,τ,_,r.mono l,kR (b.ext (aA.le_refl F') (fun k o e=>by rw[aI] at e;split at e<;>simp at e)),k2⟩⟩
 | own R k h hd hk kk =>
  refine .own (gQ [] R) k (h.out F [] y rfl FL (SA ha)) hd (cj r.tl hk) ?_;rintro v F' Lo l ⟨Mo,c,q,u,b,q4,q5⟩;have bj:∀o∈Mo,o.Wf:=by
   intro o ho;obtain⟨i,hi⟩:=abh.1 ho;have bl:i<Lo.length:=by rw[<-q];exact(aaT.1 hi).1
   have:=u (1000+i);rw[cu,aI,fo (by omega),fo (by omega),show 1000+i-1000=i by omega,hi,aaQ bl] at this;exact cN.wf this
  obtain⟨o,rfl,k2⟩:=kk c Mo q5 b.wf bj
  match Lo,q with
  | [p],_ =>
   have n:∀j m,aN [k] j=some m->∀o,(inp [p]).get j=some o->(L.set k p).get m=some o:=by
    intro j m hj o ho;obtain⟨a1,a2⟩:=oC hj;rw[aI,fo a1] at ho;have:j-1000=0:=by have:=(aaT.1 a2).1;simp at this;omega
    rw[this] at ho a2;simp at ho a2;subst ho a2;rw[Loc.aac,fo rfl]
   have aE:=u 1000;rw[cu,aI,fo (by omega),fo (by omega)] at aE;refine⟨p,rfl,fun _=>⟨_,τ,_,r.new l (cj r.tl hk) (cN.ren n aE),kR (b.ren n),k2⟩⟩
 | row R z t sz els az hk h kk =>
  obtain⟨rv,xs,hL,⟨hm,av,cv,rfl,bz⟩,hr⟩:=mM r.tl hk;refine .row (fun F' Lo v=>Lo=[]/\gQ [] R F' [] v) z _ t sz els.length xs ⟨az,fun F1 F2 L v bp s=>⟨s.1,gQ.aap _ _ _ _ bp s.2⟩,fun w hs=>?_⟩ hL ?_
  ·have bt:aC (inp [.row (.slice av els.length cv) t sz els.length xs]) (fun _=>.v undef) (⟨#[],[]⟩:Act):=by
    refine⟨fun j=>?_,fun j k off e=>(by cases e),fun j a i e=>(by cases e)⟩;simp[conc]
   obtain⟨F2,L2,g1,_,g3,l,ab,rfl⟩:=qY (k:=1000) (KK:=fun F' L'=>F.le F'/\R4 F' (.slice av els.length cv) sz els.length xs/\L'=(inp [.row (.slice av els.length cv) t sz els.length xs]).del 1000) hs bt ⟨_,_,_,_,_,rfl,fun F' l ab=>⟨l,ab,rfl⟩⟩;have aw:Rel F2 (L.del z) (.sl els) (.slice av els.length cv):=by
    simp only[Rel];rcases ab with⟨e1,e2,e3⟩ | ⟨ad,c2,e1,e2,e3⟩
    ·injection e1 with q u b
     have:els=[]:=List.length_eq_zero_iff.1 u;subst this;exact⟨av,cv,rfl,by simp,by simp,fun _=>⟨rfl,b⟩,sz,by simp only[gP]⟩
    ·injection e1 with q u b
     subst q b;exact⟨some ad,cv,rfl,e3,hm,fun e=>(by cases e),sz,(hr.mono l).frz e2⟩
   obtain⟨l1,_⟩:=DG l hL aw;have bs:aB F2 (L.del z) (args.map (C.frz z els)) y:=ha.map fun c _ v hc=>Rel.mp l1 3 hc;have an:=SA bs;rw[abT] at an;refine((h.out F2 [] y rfl FL an).run w g1).mono ?_;rintro e w' ⟨v,F',Lo,rfl,bk,bi,s⟩;have bm:Lo=[]:=by
    obtain⟨Mo,c,q,u,b,q4,q5⟩:=s;obtain⟨rfl,_⟩:=kk c Mo q5 b.wf;exact List.length_eq_zero_iff.1 (by rw[<-q];rfl)
   subst bm;exact⟨v,F',[],rfl,bk,g3.trans bi,rfl,s⟩
  ·rintro v F' Lo l ⟨rfl,Mo,c,q,u,b,q4,q5⟩;obtain⟨rfl,k2⟩:=kk c Mo q5 b.wf;refine⟨rfl,fun _=>⟨_,_,_,(r.mono l).aaz (k:=z) (o':=.row (.slice none 0 0) t sz 0 []) (to:=.row t sz []) (fun g t' cs e=>by rw[hL] at e;injection e with e;cases e) ⟨rfl,rfl,rfl,⟨abd _,none,0,rfl,fun _=>rfl⟩,by simp only[aQ]⟩,kR (b.ext (aA.le_refl F') (fun k o e=>by rw[aI] at e;split at e<;>simp at e)),k2⟩⟩
 | lent z t sz els x hk h k =>
  obtain⟨rv,xs,hL,ac,hr⟩:=mM r.tl hk;refine .lent (fun F' v=>Rel F' (inp []) x v) z rv t sz els.length xs (h.out F rv xs y ⟨rfl,rfl,rfl,ac,hr⟩ (WG hL ha)) hL fun v F' l s _=>?_;exact⟨M,τ,_,r.mono l,kR (s.ext (aA.le_refl F') (fun k o e=>by rw[aI] at e;split at e<;>simp at e)),k s.wf⟩
def kI:dZ->Bool
 | .call _ _=>true
 | .callV _ _=>true
 | _=>false
theorem TS.aaq {F:aA}{L:Loc}{ρ:Env}{M:TL}{τ:aG}{K:TK}{d:Option Nat}(e:TS G F L ρ M τ) {c:C}{sv:SV}(b:aL F L c sv) (h:K M (bq d c τ)):Both G K F L (Fr.put d sv ρ):=⟨_,_,e.put b d,h⟩
theorem jG (h:∀j,aL F L (τ j) (ρ j)) {e d:List C}{c b:List Value}(h1:aB F L e c) (h2:aB F L d b) (args:List X):aB F L (e++fI τ args++d) (c.toArray.toList++bn L ρ args++b.toArray.toList):=by
 simpa using(h1.append (dV h args)).append h2
theorem d9.imp {f:Nat}{args:List Value}{F:aA}{L:Loc}{K K':aA->Loc->Value->Prop}(h:d9 P f args F L K) (j:∀F' L' v,K F' L' v->K' F' L' v):d9 P f args F L K':=by
 obtain⟨ks,ko,Lin,R,h1,h2,h3,h4,h5,h6⟩:=h;exact⟨ks,ko,Lin,R,h1,h2,h3,h4,h5,fun v F' Lo d e=>let⟨a,b,c⟩:=h6 v F' Lo d e;⟨a,b,j _ _ _ c⟩⟩
theorem dQ.imp' {f:Nat}{args:List Value}{F:aA}{L:Loc}{d:Option Nat}{K K':aA->Loc->Value->Prop}(h:dQ P f args F L d K) (p:∀F' L' v,K F' L' v->K' F' L' v):dQ P f args F L d K':=by
 cases h with
 | frz R h k=>exact .frz R h fun v F' Lo j l=>let⟨a,b⟩:=k v F' Lo j l;⟨a,fun e=>p _ _ _ (b e)⟩
 | own R k h hd c m=>exact .own R k h hd c fun v F' Lo j l=>let⟨o,a,b⟩:=m v F' Lo j l;⟨o,a,fun e=>p _ _ _ (b e)⟩
 | row R q r t sz n xs h c m=>exact .row R q r t sz n xs h c fun v F' Lo j l=>let⟨a,b⟩:=m v F' Lo j l;⟨a,fun e=>p _ _ _ (b e)⟩
 | lent R q r t sz n xs h c m=>exact .lent R q r t sz n xs h c fun v F' j l e=>p _ _ _ (m v F' j l e)
theorem KL {op:BinOp}{k:IntKind}{a b:Int}{K K':Value->Prop}(h:binI op k a b K) (c:∀v,K v->K' v):binI op k a b K':=by
 cases op<;>simp only[binI] at h ⊢<;>first
  | exact h.elim
  | exact⟨c _ h.out⟩
  | exact⟨h.ne,⟨c _ h.out.out⟩⟩
  | exact⟨h.ne,c _ h.out⟩
  | exact c _ h
theorem NW {op:BinOp}{k:IntKind}{a b:Int}{K K':Value->Prop}(h:shI op k a b K) (c:∀v,K v->K' v):shI op k a b K':=by
 cases op<;>simp only[shI] at h ⊢<;>first
  | exact h.elim
  | exact⟨h.1,⟨c _ h.2.out⟩⟩
  | exact⟨h.1,c _ h.2⟩
theorem KM {op:BinOp}{a b:ByteArray}{K K':Value->Prop}(h:binS op a b K) (c:∀v,K v->K' v):binS op a b K':=by
 cases op<;>simp only[binS] at h ⊢<;>first
  | exact h.elim
  | exact c _ h
  | exact⟨h.1,c _ h.2⟩
theorem DJ {o:dZ}{V V':SV->Prop}{F:aA}{L:Loc}{ρ:Env}(h:aK o F L ρ V) (d:∀v,V v->V' v):aK o F L ρ V':=by
 have load:∀{a:Option Addr}{j n:Nat}{g:List Value->SV},kx F L a j n (fun cs=>V (g cs))->kx F L a j n (fun cs=>V' (g cs)):=fun h=>⟨let⟨cs,h1,h2,h3⟩:=h.out;⟨cs,h1,h2,d _ h3⟩⟩;have loadD:∀{a:Option Addr}{j n:Nat}{g:List Value->SV},jo F a j n (fun cs=>V (g cs))->jo F a j n (fun cs=>V' (g cs)):=fun h=>⟨let⟨cs,h1,h2,h3⟩:=h.out;⟨cs,h1,h2,d _ h3⟩⟩;cases o<;>simp only[aK] at h ⊢<;>first
  | exact h.elim
  | exact d _ h
  | skip
 case pick c a b =>
  generalize ev ρ c=z at h ⊢;split at h<;>first | exact h.elim | exact d _ h
 case build zs ps =>
  generalize built L ρ zs ps=z at h ⊢;split at h<;>first | exact h.elim | exact d _ h
 case load agg n x =>
  generalize ev ρ x=z at h ⊢;split at h
  ·rename_i k off;generalize L.get k=y at h ⊢;split at h
   ·rename_i t cs;generalize jt t ((cs.drop off).take n) n=b at h ⊢;cases b
    ·exact h.elim
    ·exact d _ h
   ·exact h.elim
  ·exact load h
  ·exact load h
  ·exact h.elim
 case loadR agg n x =>
  generalize ev ρ x=z at h ⊢;split at h
  ·rename_i k off;generalize L.get k=y at h ⊢;split at h
   ·rename_i t cs;generalize jt t ((cs.drop off).take n) n=b at h ⊢;cases b
    ·exact h.elim
    ·exact d _ h
   ·exact h.elim
  ·exact load h
  ·exact load h
  ·exact h.elim
 case loadD agg n x =>
  generalize ev ρ x=z at h ⊢;split at h
  ·rename_i k off;generalize L.get k=y at h ⊢;split at h
   ·rename_i t cs;generalize jt t ((cs.drop off).take n) n=b at h ⊢;cases b
    ·exact h.elim
    ·exact d _ h
   ·exact h.elim
  ·exact loadD h
  ·exact loadD h
  ·exact h.elim
 case gload g =>
  obtain⟨v,t,fr,h1,h2⟩:=h;exact⟨v,t,fr,h1,d _ h2⟩
 case loadF agg n x =>
  generalize ev ρ x=z at h ⊢;split at h
  ·exact loadD h
  ·exact loadD h
  ·exact h.elim
 case loadK key agg n x =>
  generalize ev ρ x=z at h ⊢;split at h
  ·rename_i k off;generalize Nat.beq k key=q at h ⊢;cases q
   ·exact h.elim
   ·simp only[] at h ⊢;generalize L.get k=y at h ⊢;split at h
    ·rename_i t cs;generalize jt t ((cs.drop off).take n) n=b at h ⊢;cases b
     ·exact h.elim
     ·exact d _ h
    ·exact h.elim
  ·exact h.elim
 case mlook str ok z0 x i =>
  generalize ev ρ x=z at h ⊢;split at h
  ·obtain⟨k,cs,h1,h2,⟨h3⟩⟩:=h;exact⟨k,cs,h1,h2,⟨h3.imp (fun⟨i,v,h4,h5⟩=>⟨i,v,h4,d _ h5⟩) fun⟨h4,h5⟩=>⟨h4,d _ h5⟩⟩⟩
  ·exact h.elim
 case mkif t x =>
  generalize ev ρ x=z at h ⊢;split at h<;>first | exact h.elim | exact d _ h
 case nilck x =>
  generalize ev ρ x=z at h ⊢;split at h<;>first
   | exact h.elim
   | exact d _ h
   | exact⟨h.1,d _ h.2⟩
   | (split at h
      ·exact⟨h.1,d _ h.2⟩
      ·exact h.elim)
 case bin op x y =>
  generalize ev ρ x=z at h ⊢;generalize ev ρ y=z' at h ⊢;split at h
  ·rename_i k a f b;generalize JO op=q at h ⊢;cases q
   ·generalize qi k f=r at h ⊢;cases r
    ·exact h.elim
    ·exact KL h fun v=>d _
   ·exact NW h fun v=>d _
  ·exact KM h fun v=>d _
  ·exact h.elim
 case eqB neg x y =>
  generalize ev ρ x=z at h ⊢;generalize ev ρ y=z' at h ⊢;split at h<;>first | exact h.elim | exact d _ h
 case eqS neg x y =>
  generalize ev ρ x=z at h ⊢;generalize ev ρ y=z' at h ⊢;split at h<;>first | exact h.elim | exact d _ h
 case tas t z x =>
  generalize ev ρ x=y at h ⊢;split at h<;>first
   | exact d _ h
   | (split at h<;>exact d _ h)
   | exact h.elim
 case eqN neg x =>
  generalize ev ρ x=z at h ⊢;split at h<;>first | exact h.elim | exact d _ h
 case eqA neg ks x y =>
  generalize ev ρ x=z at h ⊢;generalize ev ρ y=z' at h ⊢;split at h
  case h_2=>exact h.elim
  rename_i cs ds;generalize ji ks cs.toList ds.toList true=q at h ⊢;cases q with
  | none=>exact h.elim
  | some b=>exact d _ h
 case un op x =>
  generalize ev ρ x=z at h ⊢;split at h<;>first | exact h.elim | exact d _ h | exact⟨d _ h.out⟩
 case conv k x =>
  generalize ev ρ x=z at h ⊢;split at h<;>first | exact h.elim | exact⟨d _ h.out⟩
 case slc sz x lo hi =>
  generalize ev ρ x=z at h ⊢;split at h
  ·rename_i a n c;generalize nR ρ 0 lo=y at h ⊢;generalize nR ρ n hi=y' at h ⊢;split at h
   ·exact⟨h.lo,h.le,h.hi,d _ h.out⟩
   ·exact h.elim
  ·exact h.elim
 case fieldA off x =>
  generalize ev ρ x=z at h ⊢;split at h<;>first | exact h.elim | exact d _ h
 case idxA sz x i =>
  generalize ev ρ x=z at h ⊢;generalize ev ρ i=z' at h ⊢;split at h
  ·exact⟨h.ne,h.lo,h.hi,d _ h.out⟩
  ·exact h.elim
 case extr x i =>
  generalize ev ρ x=z at h ⊢;split at h
  ·rename_i e;generalize e.toList[i]?=y at h ⊢;cases y
   ·exact h.elim
   ·exact d _ h
  ·exact h.elim
 case len x =>
  generalize ev ρ x=z at h ⊢;split at h<;>first | exact h.elim | exact d _ h
 case mm mx args =>
  generalize args.map (ev ρ)=z at h ⊢;split at h
  ·rename_i k a l;generalize QR mx a l=y at h ⊢;cases y
   ·exact h.elim
   ·exact d _ h
  ·exact h.elim
theorem SB {o:dZ}{d:Option Nat}{K:TK}{F:aA}{L:Loc}{ρ:Env}{M:TL}{τ:aG}(b:TS G F L ρ M τ) (h:outT o M τ fun v=>K M (bq d v τ)):aK o F L ρ (fun v=>Both G K F L (Fr.put d v ρ)) :=
 DJ (WD b h) fun sv ⟨c,e,f⟩=>b.aaq e f
set_option maxHeartbeats 1000000 in
theorem NX {F:aA}{L:Loc}{ρ:Env}{K:dI}{n:Nat}{a x:X}{d:Option Nat}(h:evalOp P (.store n a x) d F L ρ K):evalOp P (.storeX n a x) d F L ρ K:=by
 simp only[evalOp] at h ⊢;split at h
 ·split at h
  ·split at h
   ·exact fun _=>h
   ·exact h.elim
  ·exact h.elim
 ·exact⟨let⟨k,v,t,sz,m,xs,ad,c,h1,h2,h3,h4,h5,h6⟩:=h.out;⟨k,v,t,sz,m,xs,ad,c,h1,h2,h3,h4,h5,fun _=>h6⟩⟩
 ·exact⟨let⟨k,v,t,sz,m,xs,ad,c,h1,h2,h3,h4,h5,h6⟩:=h.out;⟨k,v,t,sz,m,xs,ad,c,h1,h2,h3,h4,h5,fun _=>h6⟩⟩
 ·exact h.elim
theorem NY {str:Bool}{c:C}(h:Kt str c=true):(∃n,str=false/\c=.int .i64 n)\/∃s,str=true/\c=.str s:=by
 unfold Kt at h;split at h
 ·exact .inl ⟨_,rfl,rfl⟩
 ·exact .inr ⟨_,rfl,rfl⟩
 ·cases h
theorem GU {F:aA}{str:Bool}{key c:C}{kv v:Value}(j:Rel F [] key kv) (n:Rel F [] c v):∀{es f:List (C×C)}{m:List Value},gb F es m->FB str key c es=some f->∃b,xJ str kv v m=some b/\gb F f b
 | [],f,m,h,e=>by
  simp only[gb] at h;subst h;simp only[FB,aaO] at e;subst e;exact⟨_,rfl,by simp only[gb];exact⟨kv,v,[],rfl,j,n,rfl⟩⟩
 | (k,d)::l,f,m,h,e=>by
  simp only[gb] at h;obtain⟨u,x,b,rfl,h1,h2,h3⟩:=h;simp only[FB] at e;split at e
  ·rename_i o;injection e with e
   subst e;exact⟨_,by simp only[xJ,qC o j h1];rfl,by simp only[gb];exact⟨kv,v,b,rfl,j,n,h3⟩⟩
  ·rename_i o;split at e
   case h_2=>cases e
   rename_i t q;injection e with e
   subst e;obtain⟨r,p,s⟩:=GU j n h3 q;exact⟨_,by simp only[xJ,qC o j h1,p];rfl,by simp only[gb];exact⟨u,x,r,rfl,h1,h2,s⟩⟩
  ·cases e
theorem IL {F:aA}{L:Loc}{c:C}{v:Value}(h:Rel F L c.cel v) (b:ja (cP c)=true):Rel F [] c.cel.aaj v:=by
 have leaf:ja [c]=true->Rel F L c v->Rel F [] c v:=fun b h=>by
  have:=jA (L':=[]) b (show aB F L [c] [v] by simp only[aB];exact⟨v,[],rfl,h,rfl⟩);simp only[aB] at this;obtain⟨u,us,e,h1,_⟩:=this;injection e with e1 e2
  rw[e1];exact h1
 cases c
 case agg cs =>
  simp only[C.cel,cP] at h b ⊢;refine jn ?_;simp only[Rel] at h ⊢;obtain⟨d,h1,h2⟩:=h;exact⟨d,h1,jA b h2⟩
 case ownv k o=>simp[cP,ja,C.pure,C.aal] at b
 case elr k j o=>simp[cP,ja,C.pure,C.aal] at b
 all_goals
  simp only[C.cel,cP] at h b ⊢;exact jn (leaf b h)
theorem KN {o:dZ}{d:Option Nat}{K:TK}{F:aA}{L:Loc}{ρ:Env}{M:TL}{τ:aG}(ho:kI o=false) (j:TS G F L ρ M τ) (h:bS P o d M τ K):evalOp P o d F L ρ (Both G K):=by
 have he:=j.env;cases o
 case call=>cases ho
 case callV=>cases ho
 case box t x =>
  simp only[bS,gH,fH,fq] at h;simp only[evalOp];split at h
  case h_2=>exact h.elim
  rename_i k;split at h
  case h_2=>exact h.elim
  rename_i m hc hb;simp only[cj j.tl m];exact fun g=>GR j m hc (fu hb) h g
 case boxD t x =>
  simp only[bS,gH,fH,fq] at h;simp only[evalOp];split at h
  case h_2=>exact h.elim
  rename_i k;split at h
  case h_2=>exact h.elim
  rename_i m hc hb;simp only[cj j.tl m];exact fun g _=>GR j m hc (fu hb) h g
 case boxF t x =>
  simp only[bS,gH,fH,fq] at h;simp only[evalOp];split at h
  case h_2=>exact h.elim
  rename_i h1 h2 h3;intro g F' hF hg;exact(j.mono hF).aaq (Sz hg (ol h2) (lu ((jA h3 (iK he h1)).mono hF))) h
 case alloc t zs =>
  simp only[bS,gH,fH,fq] at h;simp only[evalOp];split at h
  case h_2=>exact h.elim
  rename_i k;split at h
  case h_2=>exact h.elim
  rename_i m hb;simp only[cj j.tl m];exact fun g=>Bb j m (fu hb) h g
 case allocD t zs =>
  simp only[bS,gH,fH,fq] at h;simp only[evalOp];split at h
  case h_2=>exact h.elim
  rename_i k;split at h
  case h_2=>exact h.elim
  rename_i m hb;simp only[cj j.tl m];exact fun g _=>Bb j m (fu hb) h g
 case mkF e n sz xs =>
  simp only[bS,gH,fH,fq] at h;simp only[evalOp];split at h
  case h_2=>exact h.elim
  rename_i h1 h2 h3;rw[(jF he h1).1];exact fun g F' hF hg=>GS j h1 (aaR h2) (abb h3) h hF hg
 case mkFD e n sz xs =>
  simp only[bS,gH,fH,fq] at h;simp only[evalOp];split at h
  case h_2=>exact h.elim
  rename_i h1 h2 h3;rw[(jF he h1).1];exact fun g F' hF hg _=>GS j h1 (aaR h2) (abb h3) h hF hg
 case mkR e n sz xs =>
  simp only[bS,gH,fH,fq] at h;simp only[evalOp];split at h
  case h_2=>exact h.elim
  rename_i k h1 h2 h3;split at h
  case h_2=>exact h.elim
  rename_i m;rw[(jF he h1).1];simp only[cj j.tl m];exact fun g=>NR j h1 (aaR h2) (abb h3) m h g
 case makeS=>exact IK j h
 case store n y x=>exact Bc j h
 case storeD n y x=>exact yD j h
 case storeK key n y x =>
  simp only[bS] at h;split at h
  case h_2=>exact h.elim
  rename_i k off hy;split at h
  case h_2=>exact h.elim
  rename_i hb;obtain⟨n',a',x',k',bt,g,t,cs,ho,z,s,e3,e4,e5,hK⟩:=iS (P:=P) rfl (yD j h);rcases ho with ho | ho
  ·injection ho with q1 q2 q3
   subst q1 q2 q3;rw[(js he hy).1] at e3;injection e3 with q1 q2
   subst q1 q2;have hb:=aaR hb;subst hb;exact iH (.inr rfl) z s (js he hy).1 e4 e5 hK
  ·cases ho
 case makeSD e sz n zs =>
  simp only[bS] at h;split at h
  case h_2=>exact h.elim
  rename_i k;split at h
  case h_2=>exact h.elim
  rename_i m h1 h2 h3;have p:=cj j.tl m;have q:zs.length=sz:=by have:=bZ h1;simpa using this
  simp only[evalOp,p,jv q,h3];intro g _;have hz:aB F [] ((zs.map rW).map C.can) zs:=lu (lp zs);have ae:eW (zs.map rW)=true->∀i:Nat,aQ F sz (List.replicate i ((zs.map rW).map C.can)) (List.replicate i zs).flatten:=by
   intro h2 i
   induction i with
   | zero=>simp only[List.replicate_zero,List.flatten_nil,aQ]
   | succ i ih =>
    simp only[ab4,List.flatten_cons,aQ];exact⟨zs,_,rfl,q,ol h2,hz,ih⟩
  have r:∀i:Nat,i=n->aQ F sz (List.replicate i ((zs.map rW).map C.can)) (List.replicate i zs).flatten:=by
   intro i hi;rw[abr] at h2;rcases h2 with h2 | h2
   ·have h2:=aaR h2;rw[hi,h2];simp only[List.replicate_zero,List.flatten_nil,aQ]
   ·exact ae h2 i
  have h3:=j.new (aA.le_refl F) p (o:=.row (.slice (some ⟨g,0,none⟩) n n) e sz n (List.replicate n zs).flatten) (to:=.row e sz (List.replicate n ((zs.map rW).map C.can)))
   ⟨rfl,rfl,by simp,⟨abb h3,_,_,rfl,fun e=>(by cases e)⟩,r _ rfl⟩
  exact⟨_,_,h3.put (c:=.rw k) (lQ (by rw[Loc.aac,fo rfl])) (some k),h⟩
 case makeSV e sz b zs x =>
  simp only[bS] at h;split at h
  case h_2=>exact h.elim
  rename_i ki n k hx;split at h
  case h_2=>exact h.elim
  rename_i m h1 h2;have p:=cj j.tl m;have q:zs.length=sz:=by have:=bZ h1;simpa using this
  obtain⟨m1,_,m3,m4,h⟩:=h;have hv:val L ρ x=.int ki n:=by rw[val,(gR he hx).1];rfl
  have al:tu b (val L ρ x)=true:=by
   rw[hv,tu,aaN,aaN];exact⟨⟨Nat.ble_eq_true_of_le m3,Nat.ble_eq_true_of_le m4⟩,aaP m1⟩
  have hc:mq (val L ρ x)=n.toNat:=by rw[hv];rfl
  simp only[evalOp,p,jv q,al];rw[hc];intro g _;have hz:aB F [] ((zs.map rW).map C.can) zs:=lu (lp zs);have r:∀i:Nat,aQ F sz (List.replicate i ((zs.map rW).map C.can)) (List.replicate i zs).flatten:=by
   intro i
   induction i with
   | zero=>simp only[List.replicate_zero,List.flatten_nil,aQ]
   | succ i ih =>
    simp only[ab4,List.flatten_cons,aQ];exact⟨zs,_,rfl,q,ol h2,hz,ih⟩
  have h3:=j.new (aA.le_refl F) p (o:=.row (.slice (some ⟨g,0,none⟩) n.toNat n.toNat) e sz n.toNat (List.replicate n.toNat zs).flatten) (to:=.row e sz (List.replicate n.toNat ((zs.map rW).map C.can)))
   ⟨rfl,rfl,by simp,⟨m4,_,_,rfl,fun e=>(by cases e)⟩,r _⟩
  exact⟨_,_,h3.put (c:=.rw k) (lQ (by rw[Loc.aac,fo rfl])) (some k),h⟩
 case callD f args =>
  simp only[bS,gH,fH,fq] at h;simp only[evalOp];refine dQ.imp' (vn j (dV he args) h) ?_;rintro F' L' v ⟨M',l,c,h1,h2,h3⟩;exact h1.aaq h2 h3
 case callVD f args =>
  simp only[bS,gH,fH,fq] at h;simp only[evalOp];split at h
  ·rename_i f' fi ca hx;obtain⟨bj,bb,z,h1,h2⟩:=u9 he hx;rw[z];refine dQ.imp' (vn j (jG he h1 h2 args) h) ?_;rintro F' L' v ⟨M',l,c,h1,h2,h3⟩;exact h1.aaq h2 h3
  ·rename_i nm c hx;split at h
   case h_2=>exact h.elim
   rename_i t c;obtain⟨u,z,hr⟩:=yA he hx;simp only[Rel] at hr;obtain⟨u',rfl,hu⟩:=hr;obtain⟨f',hm,h⟩:=h;have s:sn P (ev ρ f)=some (f',[u'],[]):=by rw[z];simp only[sn,hm]
   rw[s];have ag:aB F L (c::fI τ args) ([u']++bn L ρ args++[]):=by
    rw[abn];simp only[aa3,abp,aB];exact⟨_,_,rfl,hu.lift,dV he args⟩
   refine dQ.imp' (vn j ag h) ?_;rintro F' L' v ⟨M',l,c,h1,h2,h3⟩;exact h1.aaq h2 h3
  ·exact h.elim
 case callO f args =>
  simp only[bS,gH,fH,fq] at h;simp only[evalOp];cases h with
  | mk h =>
   obtain⟨ks,ko,Lin,R,h1,h2,h3,h4,h5,h6,h7⟩:=h;refine d9.imp (rz (K:=fun M' l v=>K M' (bq d v l)) j (dV he args) h1 h2 h3 h4 h5 h6 h7) ?_;rintro F' L' v ⟨M',l,c,h1,h2,h3⟩ _;exact h1.aaq h2 h3
  | inpl ks Lin R h1 h2 h3 h4 =>
   refine d9.imp (vh (K:=fun M' l v=>K M' (bq d v l)) j (dV he args) h1 h2 h3 h4) ?_;rintro F' L' v ⟨M',l,c,h1,h2,h3⟩ _;exact h1.aaq h2 h3
 case callVO f args =>
  simp only[bS,gH,fH,fq] at h;simp only[evalOp];split at h
  case h_2=>exact h.elim
  rename_i f' fi ca hx;obtain⟨bj,bb,z,g1,g2⟩:=u9 he hx;rw[z];cases h with
  | mk h =>
   obtain⟨ks,ko,Lin,R,h1,h2,h3,h4,h5,h6,h7⟩:=h;refine d9.imp (rz (K:=fun M' l v=>K M' (bq d v l)) j (jG he g1 g2 args) h1 h2 h3 h4 h5 h6 h7) ?_;rintro F' L' v ⟨M',l,c,h1,h2,h3⟩ _;exact h1.aaq h2 h3
  | inpl ks Lin R h1 h2 h3 h4 =>
   refine d9.imp (vh (K:=fun M' l v=>K M' (bq d v l)) j (jG he g1 g2 args) h1 h2 h3 h4) ?_;rintro F' L' v ⟨M',l,c,h1,h2,h3⟩ _;exact h1.aaq h2 h3
 case app=>exact NS j h
 case appX=>exact KE j h
 case appD=>exact KF j h
 case mkmap =>
  simp only[bS] at h;simp only[evalOp];split at h
  case h_2=>exact h.elim
  rename_i k;split at h
  case h_2=>exact h.elim
  rename_i m;have p:=cj j.tl m;simp only[p];intro g;have h1:=j.new (aA.le_refl F) p (o:=.box g 0 []) (to:=.map []) ⟨rfl,rfl⟩;exact⟨_,_,h1.put (c:=.mpr k) (sv:=.v (.map (some g))) ⟨_,rfl,by simp only[Rel];exact⟨g,[],by rw[Loc.aac,fo rfl],rfl⟩⟩ (some k),h⟩
 case mrange=>exact h.elim
 case mnext=>exact h.elim
 case mentry=>exact h.elim
 case mupd str x i v =>
  simp only[bS] at h;simp only[evalOp];split at h
  case h_2=>exact h.elim
  rename_i k hx;split at h
  case h_2=>exact h.elim
  rename_i es m an al hp;obtain⟨bd,ar,h⟩:=h;obtain⟨g,cs,z,s⟩:=GP he hx;obtain⟨g',vs,e3,hE⟩:=KD j.tl m;rw[s] at e3;injection e3 with e3
  injection e3 with q1 q2 q3
  subst q1 q3;rw[z];have ao:Rel F [] (dm τ i) (val L ρ i)/\fA str (val L ρ i) (val L ρ i)=some true:=by
   rcases NY an with⟨n,rfl,e⟩ | ⟨t,rfl,e⟩
   ·obtain⟨s,w⟩:=gR he e;simp only[e,val,s,conc,Rel,fA,decide_true];exact⟨⟨trivial,w⟩,trivial⟩
   ·obtain⟨s,w⟩:=wY he e;simp only[e,val,s,conc,Rel,fA,decide_true];exact⟨⟨trivial,w⟩,trivial⟩
  have bi:Rel F [] ((dm τ v).cel.aaj) (val L ρ v):=by
   have ba:=iK he al;have cf:=jA (L':=[]) hp ba;exact IL (Ch he v) hp
  obtain⟨cs',ad,aE⟩:=GU ao.1 bi hE ar;refine⟨k,cs,s,hE.isMap,ao.2,cs',ad,?_⟩;have h4:=j.turn (o':=.box g 0 cs') (to:=.map bd) s ⟨rfl,rfl⟩ (fun g' t' cc e=>by injection e with a b c;subst a b;exact⟨_,rfl⟩) (fun _ _=>⟨rfl,aE⟩);exact h4.aaq (c:=.und) (sv:=.v undef) ⟨_,rfl,by simp only[Rel]⟩ h
 case storeX n a x=>exact NX (Bc j h)
 all_goals
  simp only[bS,gH,fH,fq] at h;simp only[evalOp];exact SB (d:=d) (K:=K) j h
end
section
variable {P:Program}{PS:qa}{G:Nat->Option (Nat×TypeId)}{F:aA}{L:Loc}{ρ:Env}{M:TL}{τ:aG}{a:Act}{w:World}{Q:Exit->Act->World->Prop}{o:Oper}
theorem kJ {L2:Loc}(he:aC L ρ a) (b:aC L2 ρ a):∀xs:List X,bn L2 ρ xs=bn L ρ xs
 | []=>rfl
 | x::xs=>by
  have:val L2 ρ x=val L ρ x:=by
   cases x with
   | t n=>exact(b.eq n).symm.trans (he.eq n)
   | c v=>rfl
   | fn f=>rfl
   | mt d n =>
    simp only[val,ev];cases ρ n<;>rfl
  simp only[bn,this,kJ he b xs]
theorem nD {f:Nat}{args:List C}{e:List Value}{K:TL->aG->C->Prop}(x:St F L w) (he:aC L ρ a) (k:TS G F L ρ M τ) (q:aB F L args e) (h:kX P f args M τ K) :
  ∃F' L',St F' L' w/\aC L' ρ a/\Step F L w F' L' w/\d9 P f e F' L' (fun F' L' v=>∃M' b c,TS G F' L' ρ M' b/\aL F' L' c (.v v)/\K M' b c):=by
 cases h with
 | inpl ks Lin R h1 h2 h3 h4=>exact⟨F,L,x,he,Step.refl _ _ _,vh k q h1 h2 h3 h4⟩
 | mk h =>
 obtain⟨fz,ks,ko,h⟩:=h;obtain⟨F1,L1,M1,ac,d,j,u,p,l,t,M2,Lin,R,k1,m,r,y,s,n,k8,k9⟩:=pF x he k q h;rcases k1 with rfl | ⟨k1,k2⟩
 ·exact⟨F1,_,j,u,p,rz l t m r y s n k8 k9⟩
 ·obtain⟨e1,e2,e3,z,e5⟩:=qF j u l k1 k2;exact⟨F1,_,e1,e2,p.trans e3,rz z (t.ext (aA.le_refl F1) e5) m r y s n k8 k9⟩
theorem tW {f:Nat}{args:List C}{l:List Value}{K:TL->aG->C->Prop}(hs:St F L w) (he:aC L ρ a) (ht:TS G F L ρ M τ) (ha:aB F L args l) (h:pz P PS f args M τ K) (j:PS.st=none) :
  ∃F' L',St F' L' w/\aC L' ρ a/\Step F L w F' L' w/\gu P (zX G PS) f l F' L' (fun F' L' v=>∃M' b c,TS G F' L' ρ M' b/\aL F' L' c (.v v)/\K M' b c):=by
 obtain⟨fz,ks,ko,h⟩:=h;obtain⟨F1,L1,M1,ad,k,m,x,r,n,u,M2,Lin,R,Pp,k1,p,s,y,t,q,d,k8,e,k9⟩:=pF hs he ht ha h;rcases k1 with rfl | ⟨k1,k2⟩
 ·exact⟨F1,_,m,x,r,Be n u p s y t q d k8 e j k9⟩
 ·obtain⟨e1,e2,e3,z,e5⟩:=qF m x n k1 k2;exact⟨F1,_,e1,e2,r.trans e3,Be z (u.ext (aA.le_refl F1) e5) p s y t q d k8 e j k9⟩
theorem tX {f:Nat}{args:List C}{l:List Value}{K:TL->aG->C->Prop}{st:TL->Value->Prop}(t:St F L w) (he:aC L ρ a) (m:TS G F L ρ M τ) (q:aB F L args l) (h:FC P PS.ps PS.hb st f args M τ K) (k:PS.st=some st) :
  ∃F' L',St F' L' w/\aC L' ρ a/\Step F L w F' L' w/\gu P (zX G PS) f l F' L' (fun F' L' v=>∃M' b c,TS G F' L' ρ M' b/\aL F' L' c (.v v)/\K M' b c):=by
 obtain⟨ks,ko,M2,Lin,R,Pp,k1,n,r,u,s,p,e,k8,j,k9⟩:=h;have d:PS=⟨PS.ps,PS.hb,some st⟩:=by rw[<-k]
 rcases k1 with rfl | ⟨k1,y⟩
 ·exact⟨F,_,t,he,Step.refl _ _ _,Bf m q d n r u s p e k8 j k9⟩
 ·obtain⟨e1,e2,z,x,e5⟩:=qF t he m k1 y;exact⟨F,_,e1,e2,z,Bf x (q.ext (aA.le_refl F) e5) d n r u s p e k8 j k9⟩
theorem Bg:∀{cs:List C}{b us:List Value},yw cs=some us->aB F L cs b->b=us
 | [],b,us,h,r=>by simp only[yw,aaO] at h;simp only[aB] at r;rw[r,<-h]
 | c::cs,b,us,h,r=>by
  simp only[aB] at r;obtain⟨v,e,rfl,d,j⟩:=r;cases c<;>simp only[yw,reduceCtorEq] at h
  all_goals
   split at h
   case h_2=>cases h
   rename_i f k;injection h with h
   subst h;rw[Bg k j];simp only[Rel] at d
   first
    | rw[d.1]
    | rw[d]
theorem KO {c:C}{u v:Value}(h:DA c=some u) (r:Rel F L c v):v=u/\∃t x,u=.iface t x:=by
 cases c<;>simp only[DA,reduceCtorEq] at h
 case ifc t c =>
  simp only[Rel] at r;obtain⟨x,rfl,r⟩:=r;cases c<;>simp only[DA,reduceCtorEq] at h
  case agg cs =>
   split at h
   case h_2=>cases h
   rename_i us b;injection h with h
   subst h;simp only[Rel] at r;obtain⟨d,rfl,r⟩:=r;rw[Bg b r];exact⟨rfl,_,_,rfl⟩
  all_goals
   injection h with h
   subst h;simp only[Rel] at r
   first
    | (obtain⟨rfl,_⟩:=r;exact⟨rfl,_,_,rfl⟩)
    | (subst r;exact⟨rfl,_,_,rfl⟩)
theorem bF.from {F1:aA}{L1:Loc}{K:dI}{a':Act}{w':World}(b:Step F L w F1 L1 w) (h:bF F1 L1 w a K a' w'):bF F L w a K a' w':=by
 obtain⟨F',L',ρ',h1,h2,h3,h4,h5,h6⟩:=h;exact⟨F',L',ρ',h1,h2,h3,h4,b.trans h5,h6⟩
theorem IQ {own:Bool}{s:dZ}{K:TK}(hs:St F L w) (he:aC L ρ a) (e:TS G F L ρ M τ) (hd:∀k,o.dst=some k->k<a.tmps.size) (hl:iE P own o.op=some s)
  (b:bS P s o.dst M τ K):o.wp P a w (bF F L w a (Both G K)) Q:=by
 by_cases hc:kI s=true
 ·cases s<;>simp only[kI,aa5] at hc
  ·rename_i f args;simp only[bS,gH,fH,fq] at b;obtain⟨F1,L1,m,h,r,n⟩:=nD hs he e (dV e.env args) b;refine Oper.wp_mono (fun a' w'=>bF.from r) (fN m h hd hl ?_);simp only[evalOp];rw[kJ he h];exact d9.imp n fun F' L' v ⟨M',p,c,h1,h2,h3⟩=>h1.aaq h2 h3
  ·rename_i fx args;simp only[bS,gH,fH,fq] at b;split at b
   ·rename_i f fi ca hx;obtain⟨bc,bb,z,h1,h2⟩:=u9 e.env hx;obtain⟨F1,L1,m,h,r,n⟩:=nD hs he e (jG e.env h1 h2 args) b;refine Oper.wp_mono (fun a' w'=>bF.from r) (fN m h hd hl ?_);simp only[evalOp,z,sn];rw[kJ he h];exact d9.imp n fun F' L' v ⟨M',p,c,h1,h2,h3⟩=>h1.aaq h2 h3
   ·rename_i nm c hx;split at b
    case h_2=>exact b.elim
    rename_i t c;obtain⟨u,z,hr⟩:=yA e.env hx;simp only[Rel] at hr;obtain⟨u',rfl,hu⟩:=hr;obtain⟨f',hm,b⟩:=b;have d:aB F L (c::fI τ args) ([u']++bn L ρ args++[]):=by
     rw[abn];simp only[aa3,abp,aB];exact⟨_,_,rfl,hu.lift,dV e.env args⟩
    obtain⟨F1,L1,m,h,r,n⟩:=nD hs he e d b;refine Oper.wp_mono (fun a' w'=>bF.from r) (fN m h hd hl ?_);have e2:sn P (ev ρ fx)=some (f',[u'],[]):=by rw[z];simp only[sn,hm]
    simp only[evalOp,e2];rw[kJ he h];exact d9.imp n fun F' L' v ⟨M',p,c,h1,h2,h3⟩=>h1.aaq h2 h3
   ·rename_i t nm hx;split at b
    case h_2=>exact b.elim
    rename_i t' c ab q l;have z:=NI e.env hx;obtain⟨f',hm,b⟩:=b;have y:=dV e.env args;rw[l] at y;simp only[aB,Rel] at y;obtain⟨v0,j,an,⟨u,rfl,hu⟩,x⟩:=y;have d:aB F L (c::ab) (u::j):=by
     simp only[aB];exact⟨_,_,rfl,hu.lift,x⟩
    obtain⟨F1,L1,m,h,r,n⟩:=nD hs he e d b;refine Oper.wp_mono (fun a' w'=>bF.from r) (fN m h hd hl ?_);have hi:∃ms,P.underlying t=some (.interface ms):=by
     unfold Q5 at q;split at q
     ·exact⟨_,by assumption⟩
     ·cases q
    obtain⟨ms,hi⟩:=hi;have e2:sn P (ev ρ fx)=none:=by rw[z];rfl
    have e3:Av P (ev ρ fx) (bn L1 ρ args)=some (f',u::j):=by
     rw[kJ he h,an,z];simp only[Av,hi,hm]
    simp only[evalOp,e2,e3];exact d9.imp n fun F' L' v ⟨M',p,c,h1,h2,h3⟩=>h1.aaq h2 h3
   ·exact b.elim
 ·exact fN hs he hd hl (KN (by simpa using hc) e b)
theorem IU {own:Bool}{s:dZ}{K:TK}(q:St F L w) (he:aC L ρ a) (j:TS G F L ρ M τ) (hd:∀k,o.dst=some k->k<a.tmps.size) (hl:iE P own o.op=some s)
  (d:u7 P PS s o.dst M τ K) (hQ:∀v m w' F' L',sj v m->St F' L' w'->Step F L w F' L' w'->zX G PS F' L' v->Q (.panic m) a w'):o.wp P a w (bF F L w a (Both G K)) Q:=by
 cases s<;>simp only[u7] at d<;>try (exact d.elim)
 ·rename_i f args;simp only[gH,fH,fq] at d;have key:∃F' L',St F' L' w/\aC L' ρ a/\Step F L w F' L' w/\gu P (zX G PS) f (bn L ρ args) F' L' (fun F' L' v=>∃M' h c,TS G F' L' ρ M' h/\aL F' L' c (.v v)/\K M' (bq o.dst c h)):=by
   split at d
   ·rename_i b;exact tW q he j (dV j.env args) d b
   ·rename_i st b;exact tX q he j (dV j.env args) d b
  obtain⟨F1,L1,r,p,n,g4⟩:=key;refine Oper.wp_mono (fun a' w'=>bF.from n) (vV (PX:=zX G PS) r p hd hl ?_ fun v m w' F' L' qc q1 q2 z=>hQ v m w' F' L' qc q1 (n.trans q2) z);rw[kJ he p];exact gu.imp g4 fun F' L' v ⟨M',h,c,h1,h2,h3⟩=>h1.aaq h2 h3
 ·rename_i fx args;split at d
  case h_2=>exact d.elim
  rename_i f fi ca hx;simp only[gH,fH,fq] at d;obtain⟨ao,ac,e1,h1,h2⟩:=u9 j.env hx;have key:∃F' L',St F' L' w/\aC L' ρ a/\Step F L w F' L' w/\gu P (zX G PS) f (ao++bn L ρ args++ac) F' L' (fun F' L' v=>∃M' h c,TS G F' L' ρ M' h/\aL F' L' c (.v v)/\K M' (bq o.dst c h)):=by
   split at d
   ·rename_i b;exact tW q he j (jG j.env h1 h2 args) d b
   ·rename_i st b;exact tX q he j (jG j.env h1 h2 args) d b
  obtain⟨F1,L1,r,p,n,g4⟩:=key;refine Oper.wp_mono (fun a' w'=>bF.from n) (tI (PX:=zX G PS) r p hd hl e1 ?_ fun v m w' F' L' qc q1 q2 z=>hQ v m w' F' L' qc q1 (n.trans q2) z);rw[kJ he p];exact gu.imp g4 fun F' L' v ⟨M',h,c,h1,h2,h3⟩=>h1.aaq h2 h3
 ·rename_i x;have d:∃u,DA (dm τ x)=some u/\kY M [] PS.hb=true/\PS.ps u/\∀s,PS.st=some s->s M u:=by
   split at d
   ·rename_i b;obtain⟨u,h1,l,h2⟩:=d;exact⟨u,h1,l,h2,fun s e=>by rw[b] at e;cases e⟩
   ·rename_i st b;obtain⟨u,h1,l,h2,h3⟩:=d;exact⟨u,h1,l,h2,fun s e=>by rw[b] at e;injection e with e;subst e;exact h3⟩
  obtain⟨u,h1,l,h2,h3⟩:=d;have hr:=mN (eC j.env x);have hc:(dm τ x).cel=dm τ x:=by
   cases e:dm τ x<;>rw[e] at h1<;>first | rfl | (simp only[DA,reduceCtorEq] at h1;done)
  rw[hc] at hr;obtain⟨e1,t,y,e2⟩:=KO h1 hr;refine Iz (PX:=zX G PS) q he hl (t:=t) (u:=y) (e1.trans e2) ⟨j.kp,by rw[<-e2];exact h2,NU j.tl l fun k g t cs _ e=>e,fun s e=>⟨M,Bd j.tl,by rw[<-e2];exact h3 s e⟩⟩ hQ
theorem FM (he:aC L ρ a) (b:TS G F L ρ M τ) (d:Option Nat):∃ρ',aC L ρ' a/\TS G F L ρ' M (rY d τ):=by
 cases d with
 | none=>exact⟨ρ,he,b⟩
 | some k =>
  have q:∀j,rY (some k) τ j=if j=k then(τ k).aaE else τ j:=by
   intro j;simp only[rY];cases h:Nat.beq j k with
   | true=>have:=aaR h;simp[this]
   | false=>have:=gK h;simp[this]
  by_cases c:∃l off,τ k=.ownv l off
  ·obtain⟨l,off,c⟩:=c;have f:=b.env k;rw[c] at f;simp only[aL,Rel] at f;obtain⟨v,n,g,t,cs,m,rfl⟩:=f;have r:conc L (ρ k)=.pointer (some ⟨g,off,none⟩):=n.conc;refine⟨Fr.put (some k) (.own l off) ρ,⟨fun p=>?_,fun p j o e=>?_,fun p s j e=>?_⟩,b.tl,fun j=>?_,b.kp,b.glob⟩
   ·rw[he.eq p,put_eq];simp only[];split
    ·rename_i h;subst h;rw[r];simp only[conc,m]
    ·rfl
   ·rw[put_eq] at e;simp only[] at e;split at e
    ·injection e with q1 q2;subst q1;exact⟨g,t,cs,m⟩
    ·exact he.own _ _ _ e
   ·rw[put_eq] at e;simp only[] at e;split at e
    ·cases e
    ·exact he.el _ _ _ e
   ·rw[q,put_eq];simp only[];split
    ·rw[c];exact⟨rfl,g,t,cs,m⟩
    ·exact b.env j
  ·refine⟨ρ,he,b.tl,fun j=>?_,b.kp,b.glob⟩;rw[q];split
   ·rename_i h;subst h;have:(τ j).aaE=τ j:=by
     cases e:τ j<;>first | rfl | exact vv ⟨_,_,e⟩ c
    rw[this];exact b.env j
   ·exact b.env j
def tY (G:Nat->Option (Nat×TypeId)) (PS:qa) (ks:List Nat):Prop:=∀k∈ks,G k≠none->1000<=k\/fM (PS.hb.map (·.1)) k=true
theorem tY.left {ks b:List Nat}(h:tY G PS (ks++b)):tY G PS ks:=fun k c=>h k (aaV.2 (.inl c))
theorem tY.right {ks b:List Nat}(h:tY G PS (ks++b)):tY G PS b:=fun k c=>h k (aaV.2 (.inr c))
theorem lU:∀(a b:List ak),dF (a++b)=dF a++dF b
 | [],b=>rfl
 | .frz k::a,b=>by simp only[aa3,dF,lU a b]
 | .op _ _ _::a,b=>by simp only[aa3,dF,lU a b]
 | .pc _ _ _::a,b=>by simp only[aa3,dF,lU a b]
theorem DK {k:Nat}{K:TK}{q:TL->aG->TK->Prop}(r:St F L w) (he:aC L ρ a) (p:TS G F L ρ M τ) (y:G k≠none->1000<=k\/fM (PS.hb.map (·.1)) k=true) (h:stepT P PS false (.frz k) q M τ K) :
  ∃F' L' ρ' M' b,St F' L' w/\aC L' ρ' a/\Step F L w F' L' w/\TS G F' L' ρ' M' b/\q M' b K:=by
 simp only[stepT,gH] at h;split at h
 ·rename_i t sz els n;obtain⟨F1,L1,c,l,j,d,_⟩:=pE r he p n;exact⟨F1,L1,ρ,_,_,c,l,j,d,h⟩
 ·rename_i t cs n;split at h
  case h_2=>exact h.elim
  rename_i v z u s;have f:G k=none:=by
   cases e:G k with
   | none=>rfl
   | some x =>
    rcases y (by rw[e];simp) with h1 | h1
    ·rw[Nat.blt_eq] at u;omega
    ·rw[s] at h1;cases h1
  obtain⟨F1,L1,m,c,l,j,d⟩:=FK r he p n v z f;exact⟨F1,L1,m,_,_,c,l,j,d,h⟩
 ·exact h.elim
theorem yP {A:cI}{r:Nat}{l:Array Oper}{K:TK}:∀(is:List Nat) {ss:List ak}{F:aA}{L:Loc}{ρ:Env}{M:TL}{τ:aG}{a:Act}{w:World},qq P A r l is=some ss->tY G PS (dF ss)->St F L w->aC L ρ a->TS G F L ρ M τ->a.tmps.size=A.n ->
  dD P PS false ss M τ K->(∀a' w',eJ A.n F L w a (dstsOf l is) (Both G K) a' w'->Q .normal a' w') ->
  (∀v ch a' w',sj v ch->rV A.n F L w a (dstsOf l is) (zX G PS) v a' w'->Q (.panic ch) a' w')->wpOps P l Q is a w:=by
 intro is
 induction is with
 | nil =>
  intro ss F L ρ M τ a w hl cd hs he ht hn q hQ be;simp only[qq,aaO] at hl;subst hl;exact hQ a w ⟨F,L,ρ,hs,he,hn,rfl,Step.refl _ _ _,fun _ _=>rfl,M,τ,ht,q⟩
 | cons i is ih =>
  intro ss F L ρ M τ a w hl cd hs he ht hn q hQ be;simp only[qq] at hl;split at hl
  case h_1=>cases hl
  rename_i o hi;split at hl
  case h_2=>cases hl
  rename_i g s z hg cp bo bb;injection hl with hl
  subst hl;have aw:∀(ks:List Nat) {x:ak}{F:aA}{L:Loc}{ρ:Env}{M:TL}{τ:aG},tY G PS (dF (ks.map ak.frz++x::z))->St F L w->aC L ρ a->TS G F L ρ M τ->dD P PS false (ks.map ak.frz++x::z) M τ K ->
    ∃F' L' ρ' M' ac,St F' L' w/\aC L' ρ' a/\Step F L w F' L' w/\TS G F' L' ρ' M' ac/\dD P PS false (x::z) M' ac K:=by
   intro ks
   induction ks with
   | nil=>intro x F L ρ M τ _ hs he ht h;exact⟨F,L,ρ,M,τ,hs,he,Step.refl _ _ _,ht,h⟩
   | cons k ks cF =>
    intro x F L ρ M τ hz hs he ht h;simp only[aaZ,aa3,eX] at h;obtain⟨F1,L1,cm,M1,u,g1,g2,g3,g4,h⟩:=DK hs he ht (hz k (by simp[dF])) h;obtain⟨F2,L2,cl,M2,cx,k1,k2,k3,k4,k5⟩:=cF (fun j hj=>hz j (by simp only[aaZ,aa3,dF];exact abk _ hj)) g1 g2 g4 h;exact⟨F2,L2,cl,M2,cx,k1,k2,g3.trans k3,k4,k5⟩
  have bt:tY G PS (dF z):=fun j hj=>cd j (by
   rw[lU];refine aaV.2 (.inr ?_);cases hp:vR A.pan r i<;>simp only[nH,dF]<;>exact hj)
  obtain⟨F1,L1,cm,M1,u,bz,ad,an,m,q⟩:=aw _ cd hs he ht q
  clear aw he ht
  revert ad m
  generalize cm=ρ;intro ad m;have hd:∀k,o.dst=some k->k<a.tmps.size:=by
   intro k hk;rw[hk] at bo;rw[hn];have h2:Nat.blt k A.n=true:=bo;simpa using h2
  have cc:dstsOf l (i::is)=match o.dst with | some d=>d::dstsOf l is | none=>dstsOf l is:=by
   simp only[dstsOf,hi,Option.bind_some];rfl
  have ag:∀j,j∉dstsOf l (i::is)->o.dst≠some j/\j∉dstsOf l is:=by
   intro j hj;rw[cc] at hj;cases ho:o.dst with
   | none=>rw[ho] at hj;exact⟨by simp,hj⟩
   | some d =>
    rw[ho] at hj;simp only[aaX,not_or] at hj;exact⟨by simp;exact fun e=>hj.1 e.symm,hj.2⟩
  have after:∀{KK:Prop},o.wp P a w (fun a' w'=>bF F1 L1 w a (Both G fun M' ac=>dD P PS false z M' (rY o.dst ac) K) a' w') Q->o.wp P a w (wpOps P l Q is) Q:=by
   intro _ this;refine Oper.wp_mono ?_ (qt (asg:=[]) this);rintro a' w' ⟨⟨F',L',ρ',g1,g2,g3,g4,g5,M',ac,g6,g7⟩,ci⟩;obtain⟨cl,n1,n2⟩:=FM g2 g6 o.dst;refine ih bb bt g1 n1 n2 (by rw[g3,hn]) g7 ?_ ?_
   ·rintro ar ao ⟨F'',L'',aE,k1,k2,k3,k4,k5,k6,k7⟩;refine hQ ar ao ⟨F'',L'',aE,k1,k2,k3,k4.trans g4,(an.trans g5).trans k5,fun j hj=>?_,k7⟩;obtain⟨n1,n2⟩:=ag j hj;rw[k6 j n2,ci j n1]
   ·rintro v ch ar ao kc ⟨F'',L'',k1,k2,k3,k4,k5,k6⟩;refine be v ch ar ao kc ⟨F'',L'',k1,(an.trans g5).trans k2,k3,k4.trans g4,fun j hj=>?_,k6⟩;obtain⟨n1,n2⟩:=ag j hj;rw[k5 j n2,ci j n1]
  have ba:∀{u:aG},TS G F1 L1 ρ M1 u->bS P s o.dst M1 u (fun M' ac=>dD P PS false z M' (rY o.dst ac) K)->o.wp P a w (wpOps P l Q is) Q:=by
   intro u m q;exact after (KK:=True) (IQ (Q:=Q) bz ad m hd cp q)
  have av:∀{u:aG},TS G F1 L1 ρ M1 u->u7 P PS s o.dst M1 u (fun M' ac=>dD P PS false z M' (rY o.dst ac) K)->o.wp P a w (wpOps P l Q is) Q:=by
   intro u m q;exact after (KK:=True) (IU (Q:=Q) bz ad m hd cp q fun v ch w' F' L' qc q1 q2 q3=>be v ch a w' qc ⟨F',L',q1,an.trans q2,hn,rfl,fun _ _=>rfl,q3⟩)
  have skip:∀{u:aG},TS G F1 L1 ρ M1 u->dD P PS false z M1 (bq o.dst .und u) K->wpOps P l Q is (a.put o.dst undef) w:=by
   intro u m q;have cM:=ad.put hd (v:=undef) (x:=.v undef) rfl cB eZ (tC L1);refine ih bb bt bz cM (m.put (c:=.und) (sv:=.v undef) ⟨_,rfl,by simp only[Rel]⟩ o.dst) (by rw[jK,hn]) q ?_ ?_
   ·rintro ar ao ⟨F'',L'',aE,k1,k2,k3,k4,k5,k6,k7⟩;refine hQ ar ao ⟨F'',L'',aE,k1,k2,k3,k4.trans (gO _ _ _),an.trans k5,fun j hj=>?_,k7⟩;obtain⟨n1,n2⟩:=ag j hj;rw[k6 j n2,kC n1]
   ·rintro v ch ar ao kc ⟨F'',L'',k1,k2,k3,k4,k5,k6⟩;refine be v ch ar ao kc ⟨F'',L'',k1,an.trans k2,k3,k4.trans (gO _ _ _),fun j hj=>?_,k6⟩;obtain⟨n1,n2⟩:=ag j hj;rw[k5 j n2,kC n1]
  simp only[wpOps,hi];cases co:vR A.pan r i with
  | false =>
   rw[co] at q;cases aa:o.guard with
   | none =>
    rw[aa] at hg;simp only[iG,aaO] at hg;subst hg;simp only[nH,eX,stepT] at q;rw[fo (by simp[Region.wanted,aa])];exact .inl (ba m q)
   | some p =>
    obtain⟨j,y⟩:=p;rw[aa] at hg;simp only[iG] at hg;split at hg
    case h_2=>cases hg
    rename_i d az;injection hg with hg
    subst hg;simp only[nH,eX,stepT] at q;split at q
    ·rename_i b hb;have al:ρ d=.v (.bool b):=jm (x:=.t d) m.env hb;have f:=ad.eq d;rw[al] at f;have hy:yielded l a.tmps j=some b:=by
      simp only[yielded,az,Option.bind_some,qZ f]
     have hw:Region.wanted o (yielded l a.tmps)=(b == y):=by
      simp only[Region.wanted,aa,hy];cases b<;>cases y<;>rfl
     have am:TS G F1 L1 ρ M1 (bq (some d) (.bool b) u):=by
      have:=m.put (c:=.bool b) (sv:=.v (.bool b)) ⟨_,rfl,by simp only[Rel]⟩ (some d)
      rwa [kV al] at this
     rw[hw];cases b<;>simp only[zW] at q
     ·cases y
      ·exact .inl (ba am q)
      ·exact skip am q
     ·cases y
      ·exact skip am q
      ·exact .inl (ba am q)
    ·rename_i hb;have hr:=m.env d;rw[hb] at hr;simp only[aL,Rel] at hr;obtain⟨v,al,rfl⟩:=hr;have f:=ad.eq d;rw[al] at f;have hy:yielded l a.tmps j=none:=by
      simp only[yielded,az,Option.bind_some];rw[aa9] at f;cases e:a.tmps[d]? with
      | none=>rfl
      | some v=>rw[e] at f;simp only[Option.getD_some,conc] at f;rw[f];rfl
     have hw:Region.wanted o (yielded l a.tmps)=false:=by
      simp only[Region.wanted,aa,hy];rfl
     rw[hw];exact skip m q
    ·exact q.elim
  | true =>
   rw[co] at q;cases aa:o.guard with
   | none =>
    rw[aa] at hg;simp only[iG,aaO] at hg;subst hg;simp only[nH,eX,stepT] at q;rw[fo (by simp[Region.wanted,aa])];exact .inl (av m q)
   | some p =>
    obtain⟨j,y⟩:=p;rw[aa] at hg;simp only[iG] at hg;split at hg
    case h_2=>cases hg
    rename_i d az;injection hg with hg
    subst hg;simp only[nH,eX,stepT] at q;split at q
    ·rename_i b _ hb;have al:ρ d=.v (.bool b):=jm (x:=.t d) m.env hb;have f:=ad.eq d;rw[al] at f;have hy:yielded l a.tmps j=some b:=by
      simp only[yielded,az,Option.bind_some,qZ f]
     have hw:Region.wanted o (yielded l a.tmps)=(b == y):=by
      simp only[Region.wanted,aa,hy];cases b<;>cases y<;>rfl
     have am:TS G F1 L1 ρ M1 (bq (some d) (.bool b) u):=by
      have:=m.put (c:=.bool b) (sv:=.v (.bool b)) ⟨_,rfl,by simp only[Rel]⟩ (some d)
      rwa [kV al] at this
     rw[hw];cases b<;>simp only[zW] at q
     ·cases y
      ·exact .inl (av am q)
      ·exact skip am q
     ·cases y
      ·exact skip am q
      ·exact .inl (av am q)
    ·rename_i hb;have hr:=m.env d;rw[hb] at hr;simp only[aL,Rel] at hr;obtain⟨v,al,rfl⟩:=hr;have f:=ad.eq d;rw[al] at f;have hy:yielded l a.tmps j=none:=by
      simp only[yielded,az,Option.bind_some];rw[aa9] at f;cases e:a.tmps[d]? with
      | none=>rfl
      | some v=>rw[e] at f;simp only[Option.getD_some,conc] at f;rw[f];rfl
     have hw:Region.wanted o (yielded l a.tmps)=false:=by
      simp only[Region.wanted,aa,hy];rfl
     rw[hw];exact skip m q
    ·exact q.elim
theorem lz:aL F L .und (.v undef):=⟨_,rfl,by simp only[Rel]⟩
theorem yQ {o:dZ}{d:Option Nat}{F:aA}{L:Loc}{ρ:Env}{K K':dI}(h:evalOp P o d F L ρ K) (p:∀F' L' ρ',K F' L' ρ'->K' F' L' ρ'):evalOp P o d F L ρ K':=by
 cases o
 case box t x =>
  simp only[evalOp] at h ⊢;cases d with
  | none=>exact h.elim
  | some k =>
   simp only[] at h ⊢;generalize L.get k=z at h ⊢;cases z with
   | none=>exact fun g=>p _ _ _ (h g)
   | some _=>exact h.elim
 case boxD t x =>
  simp only[evalOp] at h ⊢;cases d with
  | none=>exact h.elim
  | some k =>
   simp only[] at h ⊢;generalize L.get k=z at h ⊢;cases z with
   | none=>exact fun g r=>p _ _ _ (h g r)
   | some _=>exact h.elim
 case boxF t x=>exact fun g F' a b=>p _ _ _ (h g F' a b)
 case alloc t z =>
  simp only[evalOp] at h ⊢;cases d with
  | none=>exact h.elim
  | some k =>
   simp only[] at h ⊢;generalize L.get k=z at h ⊢;cases z with
   | none=>exact fun g=>p _ _ _ (h g)
   | some _=>exact h.elim
 case allocD t z =>
  simp only[evalOp] at h ⊢;cases d with
  | none=>exact h.elim
  | some k =>
   simp only[] at h ⊢;generalize L.get k=z at h ⊢;cases z with
   | none=>exact fun g r=>p _ _ _ (h g r)
   | some _=>exact h.elim
 case mkF e n sz xs =>
  simp only[evalOp] at h ⊢;generalize gC L ρ sz xs=z at h ⊢;cases z with
  | true=>exact fun g F' a b=>p _ _ _ (h g F' a b)
  | false=>exact h.elim
 case mkFD e n sz xs =>
  simp only[evalOp] at h ⊢;generalize gC L ρ sz xs=z at h ⊢;cases z with
  | true=>exact fun g F' a b c=>p _ _ _ (h g F' a b c)
  | false=>exact h.elim
 case mkR e n sz xs =>
  simp only[evalOp] at h ⊢;generalize gC L ρ sz xs=z at h ⊢;cases z with
  | false=>exact h.elim
  | true =>
   cases d with
   | none=>exact h.elim
   | some k =>
    simp only[] at h ⊢;generalize L.get k=z at h ⊢;cases z with
    | none=>exact fun g=>p _ _ _ (h g)
    | some _=>exact h.elim
 case makeS e sz b zs l c =>
  simp only[evalOp] at h ⊢;generalize ev ρ l=z1 at h ⊢;generalize ev ρ c=z2 at h ⊢;split at h
  ·rename_i k;generalize L.get k=z at h ⊢;cases z with
   | none=>exact⟨h.lo,h.le,h.hi,h.max,fun g=>p _ _ _ (h.out g)⟩
   | some _=>exact h.elim
  ·exact h.elim
 case storeX n a x =>
  simp only[evalOp] at h ⊢;generalize iz (aM (val L ρ x)) n=z1 at h ⊢;generalize kg (aM (val L ρ x))=z2 at h ⊢;generalize ev ρ a=z3 at h ⊢;split at h
  ·rename_i k off;generalize L.get k=z at h ⊢;split at h
   ·rename_i t cs;generalize jt t ((cs.drop off).take n) n=b at h ⊢;cases b
    ·exact h.elim
    ·exact fun r=>p _ _ _ (h r)
   ·exact h.elim
  ·exact⟨let⟨k,v,t,sz,m,xs,ad,c,h1,h2,h3,h4,h5,h6⟩:=h.out;⟨k,v,t,sz,m,xs,ad,c,h1,h2,h3,h4,h5,fun r=>p _ _ _ (h6 r)⟩⟩
  ·exact⟨let⟨k,v,t,sz,m,xs,ad,c,h1,h2,h3,h4,h5,h6⟩:=h.out;⟨k,v,t,sz,m,xs,ad,c,h1,h2,h3,h4,h5,fun r=>p _ _ _ (h6 r)⟩⟩
  ·exact h.elim
 case store n a x =>
  simp only[evalOp] at h ⊢;generalize iz (aM (val L ρ x)) n=z1 at h ⊢;generalize kg (aM (val L ρ x))=z2 at h ⊢;generalize ev ρ a=z3 at h ⊢;split at h
  ·rename_i k off;generalize L.get k=z at h ⊢;split at h
   ·rename_i t cs;generalize jt t ((cs.drop off).take n) n=b at h ⊢;cases b
    ·exact h.elim
    ·exact p _ _ _ h
   ·exact h.elim
  ·exact⟨let⟨k,v,t,sz,m,xs,ad,c,h1,h2,h3,h4,h5,h6⟩:=h.out;⟨k,v,t,sz,m,xs,ad,c,h1,h2,h3,h4,h5,p _ _ _ h6⟩⟩
  ·exact⟨let⟨k,v,t,sz,m,xs,ad,c,h1,h2,h3,h4,h5,h6⟩:=h.out;⟨k,v,t,sz,m,xs,ad,c,h1,h2,h3,h4,h5,p _ _ _ h6⟩⟩
  ·exact h.elim
 case storeD n a x =>
  simp only[evalOp] at h ⊢;generalize iz (aM (val L ρ x)) n=z1 at h ⊢;generalize kg (aM (val L ρ x))=z2 at h ⊢;generalize ev ρ a=z3 at h ⊢;split at h
  ·rename_i k off;generalize L.get k=z at h ⊢;split at h
   ·rename_i t cs;generalize jt t ((cs.drop off).take n) n=b at h ⊢;cases b
    ·exact h.elim
    ·exact p _ _ _ h
   ·exact h.elim
  ·exact h.elim
 case storeK key n a x =>
  obtain⟨n',a',x',k,off,g,t,cs,ho,e1,e2,e3,y,e5,h⟩:=iS rfl h;exact iH ho e1 e2 e3 y e5 (p _ _ _ h)
 case makeSD e sz n zs =>
  simp only[evalOp] at h ⊢;cases d with
  | none=>exact h.elim
  | some k =>
   simp only[] at h ⊢;split at h
   ·exact fun g r=>p _ _ _ (h g r)
   ·exact h.elim
 case makeSV e sz b zs x =>
  simp only[evalOp] at h ⊢;cases d with
  | none=>exact h.elim
  | some k =>
   simp only[] at h ⊢;split at h
   ·exact fun g r=>p _ _ _ (h g r)
   ·exact h.elim
 case call f args =>
  simp only[evalOp] at h ⊢;exact d9.imp h fun _ _ _ h=>p _ _ _ h
 case callV f args =>
  simp only[evalOp] at h ⊢;generalize sn P (ev ρ f)=z at h ⊢;split at h
  ·exact d9.imp h fun _ _ _ h=>p _ _ _ h
  ·generalize Av P (ev ρ f) (bn L ρ args)=z at h ⊢;split at h
   ·exact d9.imp h fun _ _ _ h=>p _ _ _ h
   ·exact h.elim
 case callO f args =>
  simp only[evalOp] at h ⊢;exact d9.imp h fun _ _ _ h r=>p _ _ _ (h r)
 case callVO f args =>
  simp only[evalOp] at h ⊢;generalize sn P (ev ρ f)=z at h ⊢;split at h
  ·exact d9.imp h fun _ _ _ h r=>p _ _ _ (h r)
  ·exact h.elim
 case callD f args =>
  simp only[evalOp] at h ⊢;exact dQ.imp' h fun _ _ _ h=>p _ _ _ h
 case callVD f args =>
  simp only[evalOp] at h ⊢;generalize sn P (ev ρ f)=z at h ⊢;split at h
  ·exact dQ.imp' h fun _ _ _ h=>p _ _ _ h
  ·exact h.elim
 case app e sz b zs s x =>
  simp only[evalOp] at h ⊢;generalize ev ρ s=z1 at h ⊢;generalize ev ρ x=z2 at h ⊢;split at h
  ·exact⟨let⟨kd,n,xs,m,news,h1,h2,h3,h4,h5,h6⟩:=h.out;⟨kd,n,xs,m,news,h1,h2,h3,h4,h5,fun v u=>p _ _ _ (h6 v u)⟩⟩
  ·exact h.elim
 case appX e sz b zs s x =>
  simp only[evalOp] at h ⊢;generalize ev ρ s=z1 at h ⊢;generalize ev ρ x=z2 at h ⊢;split at h
  ·exact⟨let⟨kd,n,xs,m,news,h1,h2,h3,h4,h5,h6⟩:=h.out;⟨kd,n,xs,m,news,h1,h2,h3,h4,h5,fun v u r=>p _ _ _ (h6 v u r)⟩⟩
  ·exact h.elim
 case appD e sz b zs s x =>
  simp only[evalOp] at h ⊢;generalize ev ρ s=z1 at h ⊢;generalize ev ρ x=z2 at h ⊢;split at h
  ·exact⟨let⟨kd,n,xs,m,news,h1,h2,h3,h4,h5,h6⟩:=h.out;⟨kd,n,xs,m,news,h1,h2,h3,h4,h5,fun v u r=>p _ _ _ (h6 v u r)⟩⟩
  ·exact h.elim
 case pan x=>simp only[evalOp] at h
 case dead=>simp only[evalOp] at h
 case mkmap =>
  simp only[evalOp] at h ⊢;cases d with
  | none=>exact h.elim
  | some k =>
   simp only[] at h ⊢;generalize L.get k=z at h ⊢;cases z with
   | none=>exact fun g=>p _ _ _ (h g)
   | some _=>exact h.elim
 case mupd str x i v =>
  simp only[evalOp] at h ⊢;generalize ev ρ x=z1 at h ⊢;split at h
  ·obtain⟨k,cs,h1,h2,h3,cs',h4,h5⟩:=h;exact⟨k,cs,h1,h2,h3,cs',h4,p _ _ _ h5⟩
  ·exact h.elim
 case mrange x =>
  simp only[evalOp] at h ⊢;generalize ev ρ x=z1 at h ⊢;split at h
  ·rename_i g k;generalize L.get k=z at h ⊢;cases z with
   | none =>
    obtain⟨q,cs,h1,h2,h3⟩:=h;exact⟨q,cs,h1,h2,fun gi=>p _ _ _ (h3 gi)⟩
   | some _=>exact h.elim
  ·exact h.elim
 case mnext x =>
  simp only[evalOp] at h ⊢;generalize ev ρ x=z1 at h ⊢;split at h
  ·split at h
   ·rename_i hL;obtain⟨q,cs,h1,h2,h3,h4,h5⟩:=h.out;exact⟨q,cs,h1,h2,h3,fun j e a b=>p _ _ _ (h4 j e a b),fun a=>p _ _ _ (h5 a)⟩
   ·exact h.elim
  ·exact h.elim
 case mentry x =>
  simp only[evalOp] at h ⊢;generalize ev ρ x=z1 at h ⊢;split at h
  ·split at h
   ·obtain⟨q,cs,j,e,h1,h2,h3,h4,h5,h6⟩:=h.out;exact⟨q,cs,j,e,h1,h2,h3,h4,h5,p _ _ _ h6⟩
   ·exact h.elim
  ·exact h.elim
 all_goals
  simp only[evalOp] at h ⊢;exact DJ h fun v h=>p _ _ _ h
theorem FN {s s':dZ}(h:drawn s=some s'):kI s'=false:=by
 cases s<;>simp only[drawn,aaO,reduceCtorEq] at h<;>subst h<;>rfl
theorem DL {bx:List Nat}{s s':dZ}(h:o4 bx s=some s'):kI s'=false:=by
 unfold o4 at h;split at h
 ·split at h
  ·split at h
   ·injection h with h;subst h;rfl
   ·cases h
  ·split at h
   ·split at h
    ·injection h with h;subst h;rfl
    ·cases h
   ·cases h
 ·injection h with h;subst h;rfl
 ·split at h<;>(injection h with h;subst h;rfl)
 ·split at h<;>(injection h with h;subst h;rfl)
 ·exact FN h
theorem DN {fl bx:List Nat}{bk:List (Nat×Nat)}{s s':dZ}(h:uV fl bk bx s=some s'):kI s'=false:=by
 rcases xX h with h | ⟨a,n,i,rfl,rfl⟩ | ⟨a,n,i,key,rfl,rfl⟩ | ⟨a,n,i,rfl,rfl⟩
 ·exact DL h
 ·rfl
 ·rfl
 ·rfl
theorem DP {s s':dZ}(h:xU s=some s'):kI s'=false:=by
 cases s<;>simp only[xU,aaO,reduceCtorEq] at h<;>subst h<;>rfl
theorem wg {A:cI}{e:Array Oper}:∀{is:List Nat}{ss:List ak},eP P A e is=some ss->∀s∈ss,(∃d o g,s=.op d o g/\kI o=false)\/∃d o,s=.pc d o none/\Ft o=true:=by
 intro is
 induction is with
 | nil=>intro ss h s c;simp only[eP,aaO] at h;subst h;cases c
 | cons i is f =>
  intro ss h s c;simp only[eP] at h;split at h
  case h_2=>cases h
  rename_i k j h1 h2;injection h with h
  subst h;rcases aaX.1 c with rfl | c
  ·unfold B0 at h1;split at h1
   case h_1=>cases h1
   split at h1
   case h_2=>cases h1
   split at h1
   ·split at h1
    case h_3=>cases h1
    ·injection h1 with h1
     exact .inr ⟨_,_,h1.symm,rfl⟩
    ·injection h1 with h1
     exact .inr ⟨_,_,h1.symm,rfl⟩
   ·split at h1
    ·split at h1
     case h_2=>cases h1
     rename_i s' b;injection h1 with h1
     exact .inl ⟨_,s',_,h1.symm,DP b⟩
    ·split at h1
     case h_2=>cases h1
     rename_i s' b;split at h1
     case h_2=>cases h1
     injection h1 with h1
     exact .inl ⟨_,s',_,h1.symm,DN b⟩
  ·exact f h2 s c
theorem DQ:∀{ss:List ak},GI ss=true->∀d o g,ak.pc d o g∉ss
 | [],_,d,o,g,h=>by cases h
 | .op _ _ _::l,b,d,o,g,h=>by
  rcases aaX.1 h with h | h
  ·cases h
  ·exact DQ (ss:=l) b d o g h
 | .frz _::l,b,d,o,g,h=>by cases b
 | .pc _ _ _::l,b,d,o,g,h=>by cases b
theorem IW {A:cI}{b:Array Oper}{is:List Nat}{ss:List ak}(f:eP P A b is=some ss) (e:GI ss=true):∀s∈ss,∃d o g,s=.op d o g/\kI o=false:=by
 intro s c;rcases wg f s c with h | ⟨d,o,rfl,_⟩
 ·exact h
 ·exact vv c (DQ e _ _ _)
theorem yR {K:TK}:∀(ss:List ak),(∀s∈ss,∃d o g,s=ak.op d o g/\kI o=false)->∀{F:aA}{L:Loc}{ρ:Env}{M:TL}{τ:aG},TS G F L ρ M τ->dD P PS true ss M τ K->aS P ss F L ρ (Both G K)
 | [],_,F,L,ρ,M,τ,c,h=>⟨M,τ,c,h⟩
 | s::ss,u,F,L,ρ,M,τ,c,h=>by
  obtain⟨d,o,g,rfl,z⟩:=u s (by simp);have f:∀s∈ss,∃d o g,s=ak.op d o g/\kI o=false:=fun s y=>u s (by simp[y]);have e:∀{ρ:Env}{τ:aG},TS G F L ρ M τ->bS P o d M τ (fun M' l=>dD P PS true ss M' l K)->evalOp P o d F L ρ (fun F' L' ρ'=>aS P ss F' L' ρ' (Both G K)):=by
   intro ρ τ c h;have:=KN z c h;exact yQ this fun F' L' ρ' ⟨M',l,h1,h2⟩=>yR ss f h1 h2
  cases g with
  | none =>
   simp only[eX,stepT] at h;simp only[aS];exact e c h
  | some p =>
   obtain⟨s,m⟩:=p;simp only[eX,stepT] at h;simp only[aS];split at h
   ·rename_i b hb;have k:ρ s=.v (.bool b):=jm (x:=.t s) c.env hb;simp only[k];have j:∀n,b=n->TS G F L (Fr.put (some s) (.v (.bool n)) ρ) M (bq (some s) (.bool n) τ):=fun n _=>c.put gI (some s);have r:∀{ρ:Env}{τ:aG},TS G F L ρ M τ->TS G F L (Fr.put d (.v undef) ρ) M (bq d .und τ):=fun c=>c.put lz d;cases b<;>simp only[zW] at h ⊢<;>cases m<;>simp only[] at h ⊢
    ·exact e (j _ rfl) h
    ·exact yR ss f (r (j _ rfl)) h
    ·exact yR ss f (r (j _ rfl)) h
    ·exact e (j _ rfl) h
   ·rename_i hb;have q:=c.env s;rw[hb] at q;simp only[aL,Rel] at q;obtain⟨v,k,rfl⟩:=q;simp only[k,undef];exact yR ss f (c.put lz d) h
   ·exact h.elim
theorem vo:∀{ss:List ak},AX ss M=true->∀s∈ss,∀k,x9 s=some k->M.get k=none
 | [],_,s,b,_,_=>by cases b
 | x::l,h,s,b,k,e=>by
  unfold AX at h;rcases aaX.1 b with rfl | b
  ·rw[e] at h;simp only[] at h;cases c:M.get k with
   | none=>rfl
   | some o=>rw[c] at h;cases h
  ·split at h
   ·exact vo h s b k e
   ·split at h
    ·exact vo h s b k e
    ·cases h
theorem pG {K:TK}{fb:List Nat}:∀(ss:List ak),(∀s∈ss,(∃d o g,s=ak.op d o g/\kI o=false)\/∃d o,s=ak.pc d o none/\Ft o=true)->∀{F:aA}{L:Loc}{ρ:Env}{M:TL}{τ:aG},TS G F L ρ M τ->kF P PS fb ss M τ K->bg P (zX G PS) fb ss F L ρ (Both G K)
 | [],_,F,L,ρ,M,τ,e,h=>⟨M,τ,e,h⟩
 | s::ss,hc,F,L,ρ,M,τ,e,h=>by
  have k:∀s∈ss,(∃d o g,s=ak.op d o g/\kI o=false)\/∃d o,s=ak.pc d o none/\Ft o=true:=fun s hs=>hc s (by simp[hs]);rcases hc s (by simp) with⟨d,o,g,rfl,z⟩ | ⟨d,o,rfl,z⟩
  case inr =>
   cases o<;>simp only[Ft,aa5] at z
   ·rename_i f l;simp only[jT,AY,FE,gH,fH,fq] at h;simp only[bg,sH];split at h
    case h_1 =>
     rename_i st j;refine(vZ e (dV e.env l) (show PS=⟨PS.ps,PS.hb,some st⟩ by rw[<-j]) h).imp fun F' L' v _ _ _ _ _ h=>?_;obtain⟨M',m,c,h1,h2,h3⟩:=h;exact pG ss k (h1.put h2 d) h3
    rename_i j;refine(yK e (dV e.env l) h j).imp fun F' L' v _ _ _ _ _ h=>?_;obtain⟨M',m,c,h1,h2,h3⟩:=h;exact pG ss k (h1.put h2 d) h3
   ·rename_i fx l;simp only[jT,AY,FE] at h;split at h
    case h_2=>exact h.elim
    rename_i f fi ca hx;simp only[gH,fH,fq] at h;obtain⟨ad,ac,e1,h1,h2⟩:=u9 e.env hx;simp only[bg,sH,e1];split at h
    case h_1 =>
     rename_i st j;refine(vZ e (jG e.env h1 h2 l) (show PS=⟨PS.ps,PS.hb,some st⟩ by rw[<-j]) h).imp fun F' L' v _ _ _ _ _ h=>?_;obtain⟨M',m,c,h1,h2,h3⟩:=h;exact pG ss k (h1.put h2 d) h3
    rename_i j;refine(yK e (jG e.env h1 h2 l) h j).imp fun F' L' v _ _ _ _ _ h=>?_;obtain⟨M',m,c,h1,h2,h3⟩:=h;exact pG ss k (h1.put h2 d) h3
  have n:∀{ρ:Env}{τ:aG},TS G F L ρ M τ->bS P o d M τ (fun M' m=>kF P PS fb ss M' m K)->evalOp P o d F L ρ (fun F' L' ρ'=>bg P (zX G PS) fb ss F' L' ρ' (Both G K)):=by
   intro ρ τ e h;have:=KN z e h;exact yQ this fun F' L' ρ' ⟨M',m,h1,h2⟩=>pG ss k h1 h2
  cases g with
  | none =>
   simp only[jT,AY,stepT] at h;exact⟨o,rfl,n e h⟩
  | some p =>
   obtain⟨s,u⟩:=p;simp only[jT,AY,stepT] at h;simp only[bg,res];have hu:∀{ρ:Env}{τ:aG},TS G F L ρ M τ->TS G F L (Fr.put d (.v undef) ρ) M (bq d .und τ):=fun e=>e.put lz d;have skip:∀{ρ:Env}{τ:aG},TS G F L ρ M τ->kF P PS fb ss M (bq d .und τ) K->evalOp P iI d F L ρ (fun F' L' ρ'=>bg P (zX G PS) fb ss F' L' ρ' (Both G K)):=by
    intro ρ τ e h;simp only[iI,evalOp,aK,ev];exact pG ss k (hu e) h
   split at h
   ·rename_i b hb;have q:ρ s=.v (.bool b):=jm (x:=.t s) e.env hb;have r:TS G F L ρ M (bq (some s) (.bool b) τ):=by
     have:=e.put (gI (b:=b)) (some s)
     rwa [Fr.kV q] at this
    simp only[q];cases b<;>simp only[zW] at h ⊢<;>cases u<;>simp only[reduceCtorEq,↓reduceIte,aaO,exists_eq_left'] at h ⊢
    ·exact n r h
    ·exact skip r h
    ·exact skip r h
    ·exact n r h
   ·rename_i hb;have y:=e.env s;rw[hb] at y;simp only[aL,Rel] at y;obtain⟨v,q,rfl⟩:=y;simp only[q,undef,aaO,exists_eq_left'];exact skip e h
   ·exact h.elim
theorem DR:∀(d:List Nat) (b:List C) (τ:aG) (j:Nat),qA d b τ j=τ j\/∃(i:Nat) (c:C),d[i]?=some j/\b[i]?=some c/\qA d b τ j=c
 | [],b,τ,j=>.inl rfl
 | k::d,[],τ,j=>.inl rfl
 | k::d,v::b,τ,j=>by
  simp only[qA,Ck];split
  ·rename_i h;subst h;exact .inr ⟨0,v,by simp,by simp,rfl⟩
  ·rcases DR d b τ j with h | ⟨i,c,h1,h2,h3⟩
   ·exact .inl h
   ·exact .inr ⟨i+1,c,by simpa using h1,by simpa using h2,h3⟩
theorem Bh {M1:TL}:∀{d:List Nat}{b:List C}{τ:aG},nJ M M1 d b τ->∀{i j:Nat}{c:C},d[i]?=some j->b[i]?=some c->NA M M1 (τ j) c
 | [],b,τ,h,i,j,c,e,_=>by simp at e
 | k::d,[],τ,h,i,j,c,_,e=>by simp at e
 | k::d,v::b,τ,h,i,j,c,f,l=>by
  simp only[nJ] at h;cases i with
  | zero=>simp at f l;subst f l;exact h.1
  | succ i=>exact Bh h.2 (by simpa using f) (by simpa using l)
theorem Bj {M1:TL}(m:TS G F L ρ M τ):∀{j:List Nat}{b:List C},b.length=j.length->nJ M M1 j b τ->gives M M1 M1->uT b
 | [],[],_,_,_=>by simp only[uT]
 | [],v::b,d,_,_=>by simp at d
 | k::j,[],d,_,_=>by simp at d
 | k::j,v::b,d,h,n=>by
  simp only[nJ] at h;simp only[uT];refine⟨?_,Bj m (by simpa using d) h.2 n⟩;have f:=mN (m.env k);rcases h.1 with e | ⟨e,_⟩ | ⟨l,c⟩ | ⟨l,p,t,sz,c,_⟩ | ⟨els,l,c⟩
  ·rw[e];simp only[Wf]
  ·rw[e] at f;have:=f.wf
   revert this
   cases v<;>simp[C.cel,Wf]
  ·rw[c];simp[Wf,yp]
  ·rw[c];simp only[Wf]
  ·rw[l] at f;have:=(ve f).wf;rw[c];exact this
theorem SC {M:TL}(d:bT F L M):∀{l:TL},(∀k o,l.get k=some o->M.get k=some o)->∀k o,l.get k=some o->o.Wf:=by
 intro l h k o e;rcases eD (d k) with⟨b,_⟩ | ⟨q,p,b,f,c⟩
 ·rw[h k o e] at b;cases b
 ·rw[h k o e] at b;injection b with b
  subst b;exact c.wf
theorem IX {L':Loc}{F':aA}(f:F.le F') (q:∀k g t cs,L.get k=some (.box g t cs)->∃cs',L'.get k=some (.box g t cs')) :
  (∀c v,C.leaf c=true->Rel F L c v->Rel F' L' (qy c) v)/\(∀c sv,C.leaf c=true->aL F L c sv->aL F' L' (qy c) sv):=by
 have hb:∀{k:Nat},(∃g t cs,L.get k=some (.box g t cs))->∀o,L.get k=some o->∃o',L'.get k=some o'/\Own.like o o':=by
  intro k l o m;obtain⟨g,t,cs,l⟩:=l;rw[l] at m;injection m with m
  subst m;obtain⟨cs',h⟩:=q k g t cs l;exact⟨_,h,rfl,rfl⟩
 constructor
 ·intro c v n h;cases c<;>simp only[C.leaf,aa5] at n<;>simp only[qy]
  case rw=>simp only[Rel]
  case elr=>simp only[Rel]
  case own k off =>
   have d:=h;simp only[Rel] at d;obtain⟨g,t,cs,h1,_⟩:=d;refine bJ f (fun j e=>?_) rfl h;rcases e with⟨off,e⟩ | e | e
   ·injection e with e e2;subst e;exact hb ⟨g,t,cs,h1⟩
   ·cases e
   ·cases e
  case mpr k =>
   have d:=h;simp only[Rel] at d;obtain⟨g,cs,h1,_⟩:=d;refine bJ f (fun j e=>?_) rfl h;rcases e with⟨off,e⟩ | e | e
   ·cases e
   ·cases e
   ·injection e with e;subst e;exact hb ⟨g,0,cs,h1⟩
  all_goals
   exact bJ f (fun p e=>by rcases e with⟨off,e⟩ | e | e<;>cases e) rfl h
 ·intro c sv n h;cases c<;>simp only[C.leaf,aa5] at n<;>simp only[qy]
  case rw=>trivial
  case elr=>trivial
  case own k off =>
   have d:=h;simp only[aL] at d;refine dL f (fun j e=>?_) rfl h;rcases e with⟨off,e⟩ | ⟨off,e⟩ | e | ⟨a,b,e⟩ | e<;>first | cases e;done | skip
   injection e with e e2
   subst e;exact hb d.2
  case ownv k off =>
   have d:=h;simp only[aL,Rel] at d;obtain⟨v,_,g,t,cs,h1,_⟩:=d;refine dL f (fun j e=>?_) rfl h;rcases e with⟨off,e⟩ | ⟨off,e⟩ | e | ⟨a,b,e⟩ | e<;>first | cases e;done | skip
   injection e with e e2
   subst e;exact hb ⟨g,t,cs,h1⟩
  case mpr k =>
   have d:=h;simp only[aL,Rel] at d;obtain⟨v,_,g,cs,h1,_⟩:=d;refine dL f (fun j e=>?_) rfl h;rcases e with⟨off,e⟩ | ⟨off,e⟩ | e | ⟨a,b,e⟩ | e<;>first | cases e;done | skip
   injection e with e
   subst e;exact hb ⟨g,0,cs,h1⟩
  all_goals
   exact dL f (fun p e=>by rcases e with⟨off,e⟩ | ⟨off,e⟩ | e | ⟨a,b,e⟩ | e<;>cases e) rfl h
def KP (L:Loc) (c:C) (v:Value):SV:=match c with | .own k off=>.own k off | .ownv _ _=>.v v | _=>.v v
theorem rD {c:C}{v:Value}(h:Rel F L c v):aL F L c (KP L c v)/\conc L (KP L c v)=v/\(∀k off,KP L c v=.own k off->∃g t cs,L.get k=some (.box g t cs))/\(∀f j,KP L c v≠.el f j):=by
 cases c
 case own k off =>
  simp only[Rel] at h;obtain⟨g,t,cs,h,rfl⟩:=h;refine⟨⟨rfl,g,t,cs,h⟩,by simp only[KP,conc,h],fun l d e=>?_,fun f j e=>(by cases e)⟩;injection e with e1 e2
  subst e1;exact⟨g,t,cs,h⟩
 case pt es off =>
  simp only[Rel] at h;obtain⟨b,o,m,rfl,h2,h3⟩:=h;exact⟨⟨b,o,0,m,.inl ⟨rfl,rfl⟩,h2,h3⟩,rfl,fun l d e=>(by cases e),fun f j e=>(by cases e)⟩
 case ownv=>exact h.elim
 case elr=>exact h.elim
 case any=>exact⟨trivial,rfl,fun l d e=>(by cases e),fun f j e=>(by cases e)⟩
 all_goals
  exact⟨⟨v,rfl,h⟩,rfl,fun l d e=>(by cases e),fun f j e=>(by cases e)⟩
theorem KQ {F0:aA}{L0:Loc}{f:Env}{b:aG}{a0 n:Act}{asg:List Nat}{s:List Nat}{q:List C}{L1:Loc}{F1:aA}(d:aC L0 f a0) (y:∀j,aL F0 L0 (b j) (f j)) (hF:F0.le F1)
  (hb:∀k g t cs,L0.get k=some (.box g t cs)->∃cs',L1.get k=some (.box g t cs')) (u:∀j,j∉asg->n.tmps.getD j undef=a0.tmps.getD j undef)
  (hv:∀(i j:Nat) c,s[i]?=some j->q[i]?=some c->Rel F1 L1 c (n.tmps.getD j undef)) :
  ∃p,aC L1 p n/\∀j,aL F1 L1 (qA s q (tN asg b) j) (p j):=by
 have key:∀j,∃sv,aL F1 L1 (qA s q (tN asg b) j) sv/\conc L1 sv=n.tmps.getD j undef/\(∀k off,sv=.own k off->∃g t cs,L1.get k=some (.box g t cs))/\(∀m i,sv=.el m i->m≠none):=by
  intro j;rcases DR s q (tN asg b) j with h | ⟨i,c,h1,h2,h3⟩
  ·rw[h];simp only[tN];split
   ·exact⟨.v (n.tmps.getD j undef),trivial,rfl,fun _ _ e=>(by cases e),fun _ _ e=>(by cases e)⟩
   ·rename_i z;have hj:j∉asg:=fun h=>by rw[cS.2 h] at z;cases z
    obtain⟨u1,u2⟩:=IX hF hb;refine⟨f j,aL.mp u1 u2 3 (y j),?_,?_,d.el j⟩
    ·rw[u j hj,d.eq j];cases e:f j with
     | v x=>rfl
     | el x i=>rfl
     | own k off =>
      obtain⟨g,t,cs,r⟩:=d.own j k off e;obtain⟨cs',l⟩:=hb _ _ _ _ r;simp only[conc,r,l]
    ·intro k off e;obtain⟨g,t,cs,r⟩:=d.own j k off e;obtain⟨cs',l⟩:=hb _ _ _ _ r;exact⟨g,t,cs',l⟩
  ·rw[h3];obtain⟨s1,s2,s3,s4⟩:=rD (hv i j c h1 h2);exact⟨_,s1,s2,s3,fun m i e=>vv e (s4 m i)⟩
 refine⟨fun j=>(key j).choose,⟨fun t=>?_,fun t k off e=>?_,fun t m j e=>?_⟩,fun j=>(key j).choose_spec.1⟩
 ·exact(key t).choose_spec.2.1.symm
 ·exact(key t).choose_spec.2.2.1 k off e
 ·exact(key t).choose_spec.2.2.2 m j e
theorem Bk {n:Nat}{F:aA}{L:Loc}{w:World}{a:Act}{asg:List Nat}{K K':dI}{a':Act}{w':World}(h:eJ n F L w a asg K a' w') (b:∀{F' L' ρ'},K F' L' ρ'->K' F' L' ρ'):eJ n F L w a asg K' a' w':=by
 obtain⟨F',L',ρ',h1,h2,h3,h4,h5,h6,h7⟩:=h;exact⟨F',L',ρ',h1,h2,h3,h4,h5,h6,b h7⟩
theorem Ad {P:Program}{PS:qa}{G:Nat->Option (Nat×TypeId)}{a:Act}{w:World}{b:List ak}{K:TK}:∀(ks:List Nat) {F:aA}{L:Loc}{ρ:Env}{M:TL}{τ:aG},tY G PS ks->St F L w->aC L ρ a->TS G F L ρ M τ->dD P PS false (ks.map ak.frz++b) M τ K ->
  ∃F' L' ρ' M' c,St F' L' w/\aC L' ρ' a/\Step F L w F' L' w/\TS G F' L' ρ' M' c/\dD P PS false b M' c K:=by
 intro ks
 induction ks with
 | nil=>intro F L ρ M τ _ m he d h;exact⟨F,L,ρ,M,τ,m,he,Step.refl _ _ _,d,h⟩
 | cons k ks l =>
  intro F L ρ M τ n m he d h;simp only[aaZ,aa3,eX] at h;obtain⟨F1,L1,z,M1,t,p,y,v,s,h⟩:=DK m he d (n k (by simp)) h;obtain⟨F2,L2,f,M2,e,k1,r,u,x,k5⟩:=l (fun j q=>n j (by simp[q])) p y s h;exact⟨F2,L2,f,M2,e,k1,r,v.trans u,x,k5⟩
theorem IY:∀{ks:List Nat}{ss:List ak},∀k∈ks,k∈gA (Fx ks (.regD ss))
 | [],_,k,h=>by cases h
 | j::l,ss,k,h=>by
  have:∀(l:List Nat),∀k∈l,k∈dF (l.map ak.frz):=by
   intro l
   induction l with
   | nil=>intro k h;cases h
   | cons j l b =>
    intro k h;simp only[aaZ,dF,aaX] at h ⊢;exact h.imp id (b k)
  exact aaV.2 (.inl (this (j::l) k h))
theorem DS {P:Program}{PS:qa}{G:Nat->Option (Nat×TypeId)}{ρ:Env}{a:Act}{w:World}{ss:List ak}{E:Nat->TK}{R N:TK}{F:aA}{L:Loc}{M:TL}{τ:aG}:∀(ks:List Nat),tY G PS (gA (Fx ks (.regD ss)))->St F L w->aC L ρ a->TS G F L ρ M τ->evalTC P PS (Fx ks (.regD ss)) E R N M τ ->
  ∃F' L' ρ' M' b,St F' L' w/\aC L' ρ' a/\Step F L w F' L' w/\TS G F' L' ρ' M' b/\dD P PS true ss M' b N
 | [],_,f,he,c,h=>⟨F,L,ρ,M,τ,f,he,Step.refl _ _ _,c,h⟩
 | k::l,n,f,he,c,h=>by
  have p:dD P PS false ((k::l).map ak.frz++[]) M τ (fun M τ=>dD P PS true ss M τ N):=by rw[abn];exact h
  obtain⟨F1,L1,e,M1,d,h1,h2,h3,h4,h5⟩:=Ad (k::l) (fun j m=>n j (IY j m)) f he c p;exact⟨F1,L1,e,M1,d,h1,h2,h3,h4,h5⟩
theorem vp {M:TL}:∀{ks:List Nat},sJ M ks=true->∀k∈ks,∀o,M.get k=some o->Cm o=true
 | [],_,k,h,_,_=>by cases h
 | j::ks,b,k,h,o,e=>by
  simp only[sJ] at b;split at b
  ·cases b
  ·cases b
  ·rename_i d c;rcases aaX.1 h with rfl | h
   ·cases o with
    | box t cs=>exact vv e (d _ _)
    | map es=>exact vv e (c _)
    | row=>rfl
   ·exact vp b k h o e
theorem IZ {M:TL}{ks:List Nat}(b:sJ M ks=true) (k:Nat) (h:k∈ks) (t:TypeId) (cs:List C):M.get k≠some (.box t cs):=fun e=>by cases vp b k h _ e
theorem FO {M:TL}{ks:List Nat}(b:sJ M ks=true) (k:Nat) (h:k∈ks) (es:List (C×C)):M.get k≠some (.map es):=fun e=>by cases vp b k h _ e
theorem fR {A:cI}:∀(c:Code) {sc:au},low P A c=some sc->∀{G:Nat->Option (Nat×TypeId)}{E:Nat->TK}{R N:TK}{F:aA}{L:Loc}{ρ:Env}{M:TL}{τ:aG}{a:Act}{w:World},tY G PS (gA sc)->St F L w->aC L ρ a->TS G F L ρ M τ->a.tmps.size=A.n ->
  evalTC P PS sc E R N M τ->c.wp P (QQ A.n F L w a (dR c) (zX G PS) (fun j=>Both G (E j)) (Both G R) (Both G N)) a w:=by
 intro c
 induction c with
 | skip =>
  intro sc b G E R N F L ρ M τ a w m hs he z hn d;simp only[low,aaO] at b;subst b;exact wp_skip ⟨F,L,ρ,hs,he,hn,rfl,Step.refl _ _ _,fun _ _=>rfl,M,τ,z,d⟩
 | label l =>
  intro sc b G E R N F L ρ M τ a w m hs he z hn d;simp only[low,aaO] at b;subst b;exact wp_label ⟨F,L,ρ,hs,he,hn,rfl,Step.refl _ _ _,fun _ _=>rfl,M,τ,z,d⟩
 | exit id =>
  intro sc b G E R N F L ρ M τ a w m hs he z hn d;simp only[low,aaO] at b;subst b;exact wp_exit ⟨F,L,ρ,hs,he,hn,rfl,Step.refl _ _ _,fun _ _=>rfl,M,τ,z,d⟩
 | ret =>
  intro sc b G E R N F L ρ M τ a w m hs he z hn d;simp only[low,aaO] at b;subst b;exact wp_ret ⟨F,L,ρ,hs,he,hn,rfl,Step.refl _ _ _,fun _ _=>rfl,M,τ,z,d⟩
 | region r eA cM =>
  intro sc b G E R N F L ρ M τ a w m hs he z hn d;cases cM with
  | false =>
   simp only[low] at b;split at b
   case h_2=>cases b
   rename_i ss dv;injection b with b;subst b
   simp only[kZ,mJ,ld,mK,lf,jU,lg,lm,mL] at d;exact wp_region (yP _ dv m hs he z hn d (fun a' w' h=>h) fun v ch a' w' hc h=>⟨v,hc,h⟩)
  | true =>
   simp only[low] at b;split at b
   case h_2=>cases b
   rename_i is cl ss h1 h2;have h4:Dm A.ord r=is:=by simp only[Dm,h1]
   rw[h4] at h2;split at b
   case h_2 =>
    split at b
    case h_2=>cases b
    rename_i h3;injection b with b;subst b
    rw[DB] at d;split at d
    case h_2=>exact d.elim
    rename_i cX;exact Dz h2 h3 hs he hn (fun s hs k e=>cj z.tl (vo cX s hs k e)) (pG ss (wg h2) z d) (fun a' w' h=>h) fun v ch a' w' F' L' gc g1 g2 g3 g4 g5 g6=>⟨v,gc,F',L',g1,g2,g3,g4,g5,g6⟩
   rename_i h0;split at b
   case h_2=>cases b
   rename_i h3;injection b with b;subst b
   obtain⟨F1,L1,ac,M1,an,aw,az,ae,ab,d⟩:=DS _ m hs he z d;exact x5 h2 h3 aw az hn (yR ss (IW h2 h0) ab d) fun a' w' h=>eJ.after (asg1:=[]) ae rfl (fun _ _=>rfl) h (fun _ h=>vv h List.not_mem_nil) (fun _ h=>h)
 | seq x y bj ba =>
  intro sc b G E R N F L ρ M τ a w m hs he z hn d;simp only[low] at b;split at b
  case h_2=>cases b
  rename_i h1 h2;injection b with b;subst b
  simp only[kZ,mJ,ld,mK,lf,jU,lg,lm,mL] at d;refine wp_seq (wp_mono (bj h1 m.left hs he z hn d) ?_);intro e a1 w1 u;cases e with
  | normal =>
   obtain⟨F1,L1,ac,g1,g2,g3,g4,g5,g6,M1,an,g7,g8⟩:=u;refine wp_mono (ba h2 m.right g1 g2 g7 g3 g8) ?_;intro e2 a2 w2 bs;cases e2<;>first
    | exact eJ.after g5 g4 g6 bs (fun j h=>aaV.2 (.inl h)) (fun j h=>aaV.2 (.inr h))
    | exact(let⟨v,e,h⟩:=bs;⟨v,e,rV.after g5 g4 g6 h (fun j h=>aaV.2 (.inl h)) (fun j h=>aaV.2 (.inr h)) fun _ _ h=>h⟩)
    | exact bs
  | exit id=>exact u.mono fun j h=>aaV.2 (.inl h)
  | ret=>exact u.mono fun j h=>aaV.2 (.inl h)
  | goto l=>exact u
  | panic c=>exact(let⟨v,e,h⟩:=u;⟨v,e,h.mono fun j h=>aaV.2 (.inl h)⟩)
  | outgrown=>exact u
 | cond c x y bj ba =>
  intro sc b G E R N F L ρ M τ a w m hs he z hn d;simp only[low] at b;split at b
  case h_2=>cases b
  rename_i h0 h1 h2;injection b with b;subst b
  simp only[kZ,mJ,ld,mK,lf,jU,lg,lm,mL] at d;split at d
  case h_2=>exact d.elim
  rename_i t dk;have hc:a.eval c=.bool t:=by rw[aH h0 he,cR (jm z.env dk)]
  refine wp_cond hc ?_;cases t
  ·simp only[zW] at d;refine wp_mono (ba h2 m.right hs he z hn d) ?_;intro e a1 w1 u;cases e<;>first
    | exact u.mono fun j h=>aaV.2 (.inr h)
    | exact(let⟨v,e,h⟩:=u;⟨v,e,h.mono fun j h=>aaV.2 (.inr h)⟩)
    | exact u
  ·simp only[zW] at d;refine wp_mono (bj h1 m.left hs he z hn d) ?_;intro e a1 w1 u;cases e<;>first
    | exact u.mono fun j h=>aaV.2 (.inl h)
    | exact(let⟨v,e,h⟩:=u;⟨v,e,h.mono fun j h=>aaV.2 (.inl h)⟩)
    | exact u
 | block id x ih =>
  intro sc b G E R N F L ρ M τ a w m hs he z hn d;simp only[low] at b;split at b
  case h_2=>cases b
  rename_i h1;injection b with b;subst b
  simp only[kZ,mJ,ld,mK,lf,jU,lg,lm,mL] at d;refine wp_block (wp_mono (ih h1 m hs he z hn d) ?_);intro e a1 w1 u;cases e with
  | exit j =>
   simp only[Exit.inBlock];simp only[QQ] at u
   by_cases hj:j=id
   ·subst hj;have hb:Nat.beq j j=true:=by simp
    rw[hb] at u;rw[fo rfl];exact u
   ·have hb:Nat.beq j id=false:=by
     cases h:Nat.beq j id with
     | true=>exact vv (aaR h) hj
     | false=>rfl
    rw[hb] at u;rw[o5 hj];exact u
  | normal=>exact u
  | ret=>exact u
  | goto l=>exact u
  | panic c=>exact u
  | outgrown=>exact u
 | loop x ih =>
  intro sc b G E R N F L ρ M τ a w m hs he z hn d;simp only[low] at b;split at b
  case h_2=>cases b
  rename_i sx h1;injection b with b;subst b
  simp only[kZ,mJ,ld,mK,lf,jU,lg,lm,mL] at d;split at d
  case h_2=>exact d.elim
  rename_i cf;obtain⟨σ,x0,Inv,ls,lv,Lf,μ,i0,i1,i2,i3,i4,i5⟩:=d
  -- the boxes that there are,with their addresses
  let G1:Nat->Option (Nat×TypeId):=fun k=>match L.get k with | some (.box g t _)=>some (g,t) | _=>none
  have cx:∀k g t cs,L.get k=some (.box g t cs)->G1 k=some (g,t):=fun k g t cs e=>by simp only[G1,e]
  have bk:Kp G1 L:=by
   intro k g t e;simp only[G1] at e;split at e
   ·rename_i g' t' cs h;injection e with e
    injection e with e1 e2
    subst e1 e2;exact⟨cs,h⟩
   ·cases e
  have cY:tY G1 PS (gA sx):=by
   intro k hk bu;exfalso;simp only[G1] at bu;split at bu
   ·rename_i g t cs e;have hr:=z.tl k;rw[e] at hr;cases e2:M.get k with
    | none=>rw[e2] at hr;exact hr
    | some o =>
     rw[e2] at hr;cases o with
     | row=>exact hr
     | box t' cs'=>exact IZ cf k hk t' cs' e2
     | map es=>exact FO cf k hk es e2
   ·exact bu rfl
  have hG:∀{L':Loc},Kp G1 L'->Kp G L':=fun hk k g t e=>let⟨cs,h⟩:=z.kp k g t e;hk k g t (cx k g t cs h);have cp:∀{L':Loc},Kp G1 L'->∀k g t cs,L.get k=some (.box g t cs)->∃cs',L'.get k=some (.box g t cs'):=fun hk k g t cs h=>hk k g t (cx k g t cs h);have bo:∀{K:TK}{F' L' ρ'},Both G1 K F' L' ρ'->Both G K F' L' ρ':=fun⟨M',dd,h1,h2⟩=>⟨M',dd,⟨h1.tl,h1.env,hG h1.kp,h1.glob⟩,h2⟩;have dl:∀{F':aA}{L':Loc}{M':TL},bT F' L' M'->(∀k o,M'.get k=some o->o.Wf):=fun h k o e=>SC h (fun _ _ e=>e) k o e
  -- a round's end,or what is ahead of the first round,is a head
  have aE:∀(y:σ) (F1:aA) (L1:Loc) (ac:Env) (M1:TL) (an:aG) (a1:Act) (w1:World),F.le F1->St F1 L1 w1->aC L1 ac a1->TS G1 F1 L1 ac M1 an->(∀j,j∉dR x->a1.tmps.getD j undef=a.tmps.getD j undef) ->
    nJ M1 (Lf y) ls (lv y) an->gives M1 (Lf y) (Lf y)->∃L2,St F1 L2 w1/\Step F1 L1 w1 F1 L2 w1/\bT F1 L2 (Lf y)/\Kp G1 L2/\uT (lv y) /\
     ∃bc,aC L2 bc a1/\∀j,aL F1 L2 (qA ls (lv y) (tN (dR x) τ) j) (bc j):=by
   intro y F1 L1 ac M1 an a1 w1 bb aw az ab ds hh hg;obtain⟨g1,g2⟩:=yN aw ab.tl hg;have bi:Kp G1 (tV L1 (Lf y)):=by
    intro k g t e;obtain⟨cs,cw⟩:=ab.kp k g t e;obtain⟨et,cz⟩:=bk k g t e;refine⟨cs,?_⟩;rcases eD (z.tl k) with⟨c1,c2⟩ | ⟨q,p,c1,c2,hr⟩
    ·rw[cz] at c2;cases c2
    ·rw[cz] at c2;injection c2 with c2
     subst c2;cases q with
     | row=>exact hr.elim
     | box t' cs' =>
      obtain⟨o2,e2⟩:=mQ (i3 y) c1 rfl;rw[lT,e2];simp only[cw]
     | map es =>
      obtain⟨o2,e2⟩:=mQ (i3 y) c1 rfl;rw[lT,e2];simp only[cw]
   refine⟨tV L1 (Lf y),g1,g2,yM ab.tl hg,bi,Bj ab (i4 y) hh hg,KQ he z.env bb (cp bi) ds ?_⟩;intro i j c e1 e2;have hr:=mN (ab.env j);have hv:a1.tmps.getD j undef=conc L1 (ac j):=az.eq j;rw[hv];have cy:=Bh hh e1 e2;rcases cy with e | ⟨e,hk⟩ | ⟨e,e'⟩ | ⟨e,k',t',dT,e',q1,q2⟩ | ⟨els,e,e'⟩
   ·rw[e];simp only[Rel]
   ·have hc:(an j).cel=an j:=by
     rw[e];rw[e] at hr;cases c<;>first | rfl | (simp only[fQ,rm,aa5] at hk;done)
    rw[hc] at hr;exact rC ab.tl (.inr (.inl ⟨e,hk⟩)) hr
   ·rw[e] at hr;exact rC ab.tl (.inr (.inr (.inl ⟨rfl,e'⟩))) hr
   ·rw[e] at hr;exact rC ab.tl (.inr (.inr (.inr (.inl ⟨rfl,k',t',dT,e',q1,q2⟩)))) hr
   ·rw[e] at hr;exact rC ab.tl (.inr (.inr (.inr (.inr ⟨els,rfl,e'⟩)))) hr
  refine uU (fun n a1 w1=>∃(y:σ) (F1:aA) (L1:Loc),n=μ y/\F.le F1/\Inv y/\St F1 L1 w1/\a1.tmps.size=A.n/\a1.defers=a.defers/\Step F L w F1 L1 w1/\(∀j,j∉dR x->a1.tmps.getD j undef=a.tmps.getD j undef) /\
   bT F1 L1 (Lf y)/\Kp G1 L1/\uT (lv y)/\∃ac,aC L1 ac a1/\∀j,aL F1 L1 (qA ls (lv y) (tN (dR x) τ) j) (ac j)) ?_ ?_
  ·obtain⟨L2,k1,k2,k3,k4,k5,k6⟩:=aE x0 F L ρ M τ a w (aA.le_refl F) hs he ⟨z.tl,z.env,bk,z.glob⟩ (fun _ _=>rfl) i1 i2;exact⟨_,x0,F,L2,rfl,aA.le_refl F,i0,k1,hn,rfl,k2,fun _ _=>rfl,k3,k4,k5,k6⟩
  ·rintro n a1 w1 ⟨y,F1,L1,rfl,bb,da,aw,dE,bd,ae,av,bp,bi,dy,ac,az,bv⟩;refine wp_mono (ih h1 cY aw az (⟨bp,bv,bi,aw.glob⟩:TS G1 F1 L1 ac (Lf y) (qA ls (lv y) (tN (dR x) τ))) dE (i5 y da dy (dl bp))) ?_;intro e a2 w2 u;cases e with
   | normal =>
    obtain⟨F2,L2,bc,g1,g2,g3,g4,g5,g6,M2,de,g7,y',k1,k2,k3,k4⟩:=u;have bl:∀j,j∉dR x->a2.tmps.getD j undef=a.tmps.getD j undef:=fun j hj=>by rw[g6 j hj,av j hj]
    obtain⟨L3,q1,q2,q3,q4,q5,q6⟩:=aE y' F2 L2 bc M2 de a2 w2 (aA.le_trans bb g5.le) g1 g2 g7 bl k2 k3;exact⟨μ y',k4,y',F2,L3,rfl,aA.le_trans bb g5.le,k1,q1,g3,g4.trans bd,(ae.trans g5).trans q2,bl,q3,q4,q5,q6⟩
   | exit j=>exact eJ.after ae bd av (Bk u bo) (fun j h=>h) (fun j h=>h)
   | ret=>exact eJ.after ae bd av (Bk u bo) (fun j h=>h) (fun j h=>h)
   | goto l=>exact u
   | panic c=>exact(let⟨v,e,h⟩:=u;⟨v,e,rV.after ae bd av h (fun j h=>h) (fun j h=>h) fun F' L' h=>⟨hG h.1,h.2⟩⟩)
   | outgrown=>exact u
 | rangeFunc f ps x y bj ba=>intro sc b;simp only[low] at b;cases b
 | scope x ih =>
  intro sc b G E R N F L ρ M τ a w m hs he z hn d;simp only[low] at b;refine wp_scope_straight (wp_mono (ih b m hs he z hn d) ?_);intro e a1 w1 u;cases e<;>exact u
 | goto l=>intro sc b;simp only[low] at b;cases b
 | refuse ey=>intro sc b;simp only[low] at b;cases b
end
section
variable {P:Program}{G:Nat->Option (Nat×TypeId)}{F:aA}{L:Loc}{ρ:Env}{M:TL}{τ:aG}{a:Act}{w:World}
theorem rE (e:TS G F L ρ M τ):∀{rs:List RV}{K:List C->Prop},gV M τ rs K->nS L ρ rs (fun c=>∃cs,aB F L cs c/\K cs)
 | [],K,h=>⟨[],by simp only[aB],h⟩
 | (t,none)::l,K,h=>by
  simp only[gV] at h;simp only[nS];refine retV_imp (rE e h) ?_;rintro c ⟨cs,h1,h2⟩;exact⟨_,by simp only[aB];exact⟨_,_,rfl,mN (e.env t),h1⟩,h2⟩
 | (t,some (agg,n))::l,K,h=>by
  simp only[gV] at h;simp only[nS];split at h
  case h_2=>exact h.elim
  rename_i k off d;split at h
  case h_2=>exact h.elim
  rename_i ty cs r;split at h
  case h_2=>exact h.elim
  rename_i p;obtain⟨m,_⟩:=js (x:=.t t) e.env d;have m:ρ t=.own k off:=m;obtain⟨g,ty,c,q,o,j⟩:=lH e.tl r;have f:=(o.drop off).take n;simp only[m,q,oU j.2.2 (jv (show((c.drop off).take n).length=n by rw[f.len];exact bZ p))];refine retV_imp (rE e h) ?_;rintro us ⟨ds,h1,h2⟩;refine⟨_,?_,h2⟩;simp only[aB];have:=mN (eT (agg:=agg) f);exact⟨_,_,rfl,this,h1⟩
where
 retV_imp {L:Loc}{ρ:Env}:∀{rs:List RV}{K K':List Value->Prop},nS L ρ rs K->(∀c,K c->K' c)->nS L ρ rs K'
 | [],K,K',h,d=>d _ h
 | (t,none)::l,K,K',h,d=>by
  simp only[nS] at h ⊢;exact retV_imp h fun c=>d _
 | (t,some (agg,n))::l,K,K',h,d=>by
  simp only[nS] at h ⊢;generalize ρ t=z at h ⊢;split at h
  case h_2=>exact h.elim
  rename_i k off;generalize L.get k=y at h ⊢;split at h
  case h_2=>exact h.elim
  rename_i ty cs;generalize jt ty ((cs.drop off).take n) n=b at h ⊢;cases b
  ·exact h.elim
  ·exact retV_imp h fun c=>d _
theorem GV {cs:List C}{b:List Value}(h:aB F L cs b):Rel F L (gU cs) (gD b):=by
 match cs,b,h with
 | [],b,h =>
  simp only[aB] at h;subst h;simp only[gU,gD,Rel];exact⟨[],rfl,by simp only[aB]⟩
 | [c],b,h =>
  simp only[aB] at h;obtain⟨v,d,rfl,h1,rfl⟩:=h;exact h1
 | c1::j::cs,b,h =>
  have e:=h;simp only[aB] at e;obtain⟨v,d,rfl,h1,v2,f,rfl,h2⟩:=e;simp only[gU,gD,Rel];exact⟨_,rfl,h⟩
theorem oD:∀(l:List C) (k j:Nat),kG k l j=if k<=j then(l[j-k]?).getD .und else .und
 | [],k,j=>by simp[kG]
 | v::l,k,j=>by
  simp only[kG,Ck]
  by_cases h:j=k
  ·subst h;simp
  ·rw[o5 h,oD l (k+1) j]
   by_cases h1:k<=j
   ·rw[fo (by omega),fo h1,show j-k=(j-(k+1))+1 by omega,abe]
   ·rw[o5 (by omega),o5 h1]
theorem DT {c:C}{v:Value}(h:Rel F L c v):Rel F L c.aao v:=by
 cases c<;>first
  | exact h
  | exact tQ (c:=.nils) h
  | exact ve h
  | (simp only[Rel] at h
     obtain⟨b,h1,h2⟩:=h;simp only[C.aao,Rel]
     first
      | exact⟨b,h1,lu h2⟩
      | exact⟨b,h1,h2.map fun c _ v=>jn⟩)
theorem sN {F':aA}{L':Loc}{w':World}{Li:List Own}(j:St F' L' w') (c:Step F (inp Li) w F' L' w') (hb:∀(i:Nat) g t cs,Li[i]?=some (.box g t cs)->∃cs',L'.get (1000+i)=some (.box g t cs')) :
  ∃Lo,St F' (inp Lo) w'/\Step F (inp Li) w F' (inp Lo) w'/\Lo.length=Li.length/\∀(i:Nat) g t cs,Li[i]?=some (.box g t cs)->∃cs',Lo[i]?=some (.box g t cs'):=by
 let Lo:List Own:=Li.mapIdx fun i o=>match o with
  | .box _ _ _=>match L'.get (1000+i) with | some p=>p | none=>.row (.slice none 0 0) 0 0 0 []
  | .row _ t sz _ _=>.row (.slice none 0 0) t sz 0 []
 have get:∀k p,(inp Lo).get k=some p->L'.get k=some p\/∃t sz,p=.row (.slice none 0 0) t sz 0 []:=by
  intro k p e;rw[aI] at e;split at e
  case isFalse=>cases e
  rename_i y;simp only[Lo,List.getElem?_mapIdx] at e;cases h:Li[k-1000]? with
  | none=>rw[h] at e;cases e
  | some o =>
   rw[h] at e;simp only[abt,aaO] at e;cases o with
   | box g t cs =>
    simp only at e;rw[show 1000+(k-1000)=k by omega] at e;cases h2:L'.get k with
    | none=>rw[h2] at e;exact .inr ⟨0,0,e.symm⟩
    | some q=>rw[h2] at e;exact .inl (by rw[<-e])
   | row v t sz n xs=>exact .inr ⟨t,sz,e.symm⟩
 refine⟨Lo,⟨j.frz,fun k o e=>?_,fun k o g e d=>?_,fun k l o o' g e m d f=>?_,j.glob⟩,⟨c.le,c.os,c.tape,c.output,c.size,c.same,c.frz,fun b u=>c.own b ?_⟩,by simp[Lo],fun i g t cs hi=>?_⟩
 ·rcases get k o e with h | ⟨t,sz,rfl⟩
  ·exact j.own k o h
  ·exact World.ownsRow_nil w' 0 t sz
 ·rcases get k o e with h | ⟨t,sz,rfl⟩
  ·exact j.off k o g h d
  ·cases d
 ·rcases get k o e with h | ⟨t,sz,rfl⟩<;>rcases get l o' m with s | ⟨x,r,rfl⟩
  ·exact j.sep k l o o' g h s d f
  ·cases f
  ·cases d
  ·cases d
 ·obtain⟨k,o,e,d⟩:=u;rcases get k o e with h | ⟨t,sz,rfl⟩
  ·exact⟨k,o,h,d⟩
  ·cases d
 ·obtain⟨cs',h⟩:=hb i g t cs hi;exact⟨cs',by simp only[Lo,List.getElem?_mapIdx,hi,abt,h]⟩
theorem Bl {n:Nat}{asg:List Nat}{fn:Func}{rs:List RV}{Lin:List TO}{Li:List Own}{R:List TO->C->Prop}{a0 a':Act}{w':World}(z:nA P fn.results.toList=some rs) (hl:Li.length=Lin.length) (bi:bT F (inp Li) (cO Lin))
  (aw:∀k g t cs,(inp Li).get k=some (.box g t cs)->G k=some (g,t)) (hq:eJ n F (inp Li) w a0 asg (Both G (fun L ρ=>gV L ρ rs fun vs=>eS Lin L (gU vs) R)) a' w') :
  a'.defers=a0.defers/\∃v,(results fn a'.tmps).run P w'=.ok v w'/\∃F' Lo,St F' (inp Lo) w'/\Step F (inp Li) w F' (inp Lo) w'/\gQ Li R F' Lo v:=by
 obtain⟨F',L',ρ',g1,g2,g3,g4,g5,g6,M',ca,g7,m⟩:=hq;obtain⟨us,hm,cs,al,⟨fz,ko,hK⟩⟩:=oe g1 g2 z (rE g7 m);have av:TS G F' L' ρ' M' (fun _=>.any):=⟨g7.tl,fun _=>trivial,g7.kp,g7.glob⟩;obtain⟨F2,L2,M2,cb,az,k1,k2,k3,x,k5,M3,c2,c3,Mo,q1,am,q4,q5,q6,q7⟩:=pF g1 g2 av (by simp only[aB];exact⟨_,[],rfl,GV al,rfl⟩) hK;subst q1;simp only[aB] at k5;obtain⟨v,bu,ev,hv,rfl⟩:=k5;injection ev with ev _
 subst ev;have ad:∃L3,St F2 L3 w'/\Step F2 L2 w' F2 L3 w'/\bT F2 L3 M3/\Rel F2 L3 c3 (gD us)/\∀k g t cs,L2.get k=some (.box g t cs)->M3.get k≠none->L3.get k=some (.box g t cs):=by
  rcases am with⟨rfl,rfl⟩ | ⟨q2,q3⟩
  ·exact⟨L2,k1,Step.refl _ _ _,x.tl,hv,fun k g t cs h _=>h⟩
  ·obtain⟨b1,b2⟩:=yN k1 x.tl q2;refine⟨_,b1,b2,yM x.tl q2,rC x.tl q3 hv,fun k g t cs h l=>?_⟩;rw[lT];cases e:M3.get k with
   | none=>exact vv e l
   | some o=>simp only[h]
 obtain⟨L3,b1,b2,f,q,bd⟩:=ad;obtain⟨Lo,y,d2,d3⟩:=kH f q4;have ae:=cW q5;have ar:∀k g t,G k=some (g,t)->∃cs,(M3.get k≠none->L3.get k=some (.box g t cs)):=by
  intro k g t e;obtain⟨cs,h⟩:=x.kp k g t e;exact⟨cs,fun l=>bd _ _ _ _ h l⟩
 refine⟨g4,gD us,?_,F2,Lo,b1.handed y ae,?_,Mo.map (TO.aad (C.ren (bh ko 1000))),c3.aao.ren (bh ko 1000),by simp[d2],lI f d2 y d3,(DT q).ren (lR y),?_,q7 (by simp only[uT];exact⟨q.wf,trivial⟩)⟩
 ·rw[pq];rw[Array.mapM_eq_mapM_toList];simp only[Sem.run_bind,Sem.run_map];rw[hm];simp only[Result.andThen_ok,Sem.run_pure];congr 1
  match us with
  | []=>rfl
  | [t]=>rfl
  | t::u::r =>
   simp only[gD];rw[dif_neg (by simp)]
 ·have c:=(g5.trans k3).trans b2;obtain⟨x1,x2⟩:=cE y;refine⟨c.le,c.os,c.tape,c.output,c.size,c.same,c.frz,fun b hb=>c.own b ?_⟩;obtain⟨j,p,e,hb⟩:=hb;rw[aI] at e;split at e
  case isFalse=>cases e
  have d:j-1000<Lo.length:=(aaT.1 e).1;have hk:ko[j-1000]?=some (ko[j-1000]'(by omega)):=aaQ (by omega);exact⟨_,p,by rw[x2 _ _ hk];exact e,hb⟩
 ·intro i g t cs hi;have d:i<Lin.length:=by rw[<-hl];exact(aaT.1 hi).1
  have aa:(inp Li).get (1000+i)=some (.box g t cs):=by rw[aI,fo (by omega),show 1000+i-1000=i by omega];exact hi
  have hr:=bi (1000+i);rw[cu,fo (by omega),show 1000+i-1000=i by omega,aa,aaQ d] at hr;have bj:Cm Lin[i]=false:=by
   cases be:Lin[i] with
   | row=>rw[be] at hr;exact hr.elim
   | box t' cs'=>rfl
   | map es=>rfl
  ·obtain⟨k',y1,y2⟩:=gM q6 i _ (aaQ d) bj;rw[List.getElem?_range' d] at y1;injection y1 with y1
   obtain⟨x1,x2⟩:=cE y;obtain⟨z1,z2⟩:=yC q4;have s:i<Mo.length:=by rw[z1];exact(aaT.1 y2).1
   have an:M3.get k'≠none:=by rw[z2 i k' y2,aaQ s];simp
   have bc:k'=1000+i:=by omega
   subst bc;obtain⟨aE,h2⟩:=ar _ g t (aw _ _ _ _ aa);exact⟨aE,by rw[<-x2 i _ y2];exact h2 an⟩
theorem bR {Pp:Value->Prop}{f:FuncId}{fn:Func}{sc:au}{A:cI}{rs:List RV}{args:List C}{Lin:List TO}{R:List TO->C->Prop}(hf:P.funcs[f]?=some fn) (b:ax P A fn=some (sc,A.n,rs,false)) (q:Nat.ble args.length A.n=true)
  (h:uT args->(∀o∈Lin,o.Wf)->evalTC P ⟨Pp,[],none⟩ sc (fun _ _ _=>False) (fun L ρ=>gV L ρ rs fun d=>eS Lin L (gU d) R) (fun L ρ=>gV L ρ rs fun d=>eS Lin L (gU d) R) (cO Lin) (kG 0 args)):CallsTX P f args Lin R Pp:=by
 unfold ax at b;split at b
 case h_2=>cases b
 rename_i c hb;split at b
 case h_2=>cases b
 rename_i bp an y ac;injection b with b
 injection b with e1 e2
 injection e2 with e2 e3
 injection e3 with e3 hname
 subst e1 e3;refine⟨fun F Li d hl u ha=>⟨⟨fn,hf,by rw[hb];rfl,hname⟩,gQ.aap,fun w hs=>?_⟩⟩;refine calls_of_wp hf hb ?_;have ae:∀o∈Lin,o.Wf:=by
  intro o ho;obtain⟨i,hi⟩:=abh.1 ho;have:=u (1000+i);rw[cu,aI,fo (by omega),fo (by omega),show 1000+i-1000=i by omega,hi] at this;cases e:Li[i]? with
  | none=>rw[e] at this;exact this.elim
  | some p=>rw[e] at this;exact cN.wf this
 have h:=h ha.wf ae;have ab:=ha.len;have q:=abb q
 -- the frame
 have key:∀j,∃sv,aL F (inp Li) (kG 0 args j) sv/\conc (inp Li) sv=(d.toArray++Array.replicate (fn.ntmps-d.toArray.size) undef).getD j undef/\(∀k off,sv=.own k off->∃g t cs,(inp Li).get k=some (.box g t cs))/\(∀x i,sv=.el x i->x≠none):=by
  intro j;rw[oD];simp only[abd,abm,Nat.sub_zero,aa9];cases e:args[j]? with
  | some c =>
   have s:j<d.length:=by rw[ab];exact(aaT.1 e).1
   obtain⟨s1,s2,s3,s4⟩:=rD (ha.at e (aaQ s));refine⟨_,s1,?_,s3,fun x i e=>vv e (s4 x i)⟩;rw[s2,Array.getElem?_append_left (by simpa using s)];simp[s]
  | none =>
   have ao:d.length<=j:=by rw[ab];exact abC.1 e
   refine⟨.v undef,lz,?_,fun _ _ e=>(by cases e),fun _ _ e=>(by cases e)⟩;rw[Array.getElem?_append_right (by simpa using ao)];simp only[Array.getElem?_replicate,conc];split<;>rfl
 let z:Env:=fun j=>(key j).choose
 have he:aC (inp Li) z {tmps:=d.toArray++Array.replicate (fn.ntmps-d.toArray.size) undef,defers:=[]} :=
  ⟨fun t=>(key t).choose_spec.2.1.symm,fun t k off e=>(key t).choose_spec.2.2.1 k off e,fun t x j e=>(key t).choose_spec.2.2.2 x j e⟩
 let G:Nat->Option (Nat×TypeId):=fun k=>match(inp Li).get k with | some (.box g t _)=>some (g,t) | _=>none
 have aa:∀k g t cs,(inp Li).get k=some (.box g t cs)->G k=some (g,t):=fun k g t cs e=>by simp only[G,e]
 have ar:Kp G (inp Li):=by
  intro k g t e;simp only[G] at e;split at e
  ·rename_i g' t' cs h;injection e with e
   injection e with e1 e2
   subst e1 e2;exact⟨cs,h⟩
  ·cases e
 have av:∀k,G k≠none->1000<=k:=by
  intro k m;simp only[G] at m;split at m
  ·rename_i g t cs h;rw[aI] at h;split at h
   ·assumption
   ·cases h
  ·exact vv rfl m
 have ht:TS G F (inp Li) z (cO Lin) (kG 0 args):=⟨u,fun j=>(key j).choose_spec.1,ar,hs.glob⟩;refine wp_mono (fR c y (fun k _ m=>.inl (av k m)) hs he ht (by simp[e2];omega) h) ?_;intro e a' w' r;have fin:∀{a0:Act},a0.defers=[]->eJ A.n F (inp Li) w a0 (dR c) (Both G (fun L ρ=>gV L ρ an fun d=>eS Lin L (gU d) R)) a' w'->a'.defers=[]/\∃v,(results fn a'.tmps).run P w'=.ok v w' /\
   ∃v' F' Lo,Ending.returned v=.returned v'/\St F' (inp Lo) w'/\Step F (inp Li) w F' (inp Lo) w'/\gQ Li R F' Lo v':=by
  intro a0 al r;obtain⟨k1,v,k2,F',Lo,k3,k4,k5⟩:=Bl ac hl u aa r;exact⟨k1.trans al,v,k2,v,F',Lo,rfl,k3,k4,k5⟩
 cases e with
 | normal=>exact(let⟨h1,v,h2,h3⟩:=fin rfl r;⟨h1,v,h2,.inl h3⟩)
 | ret=>exact(let⟨h1,v,h2,h3⟩:=fin rfl r;⟨h1,v,h2,.inl h3⟩)
 | exit j=>obtain⟨F',L',ρ',_,_,_,_,_,_,M',bc,_,h⟩:=r;exact h.elim
 | goto l=>exact r.elim
 | panic c =>
  obtain⟨v,ag,F',L',g1,g2,g3,g4,g5,kp,hp,_⟩:=r;obtain⟨Lo,q1,q2,q3,q4⟩:=sN g1 g2 (fun i g t cs hi=>kp (1000+i) g t (aa _ g t cs (by rw[aI,fo (by omega),show 1000+i-1000=i by omega];exact hi)));exact⟨g4,.inr ⟨v,_,F',Lo,rfl,ag,q1,q2,q3,q4,hp⟩⟩
 | outgrown=>exact r.elim
theorem CallsTX.noPan {f:Nat}{args:List C}{Lin:List TO}{R:List TO->C->Prop}(h:CallsTX P f args Lin R fun _=>False):CallsT P f args Lin R :=
 ⟨fun F Li b h1 h2 h3=>let k:=h.out F Li b h1 h2 h3;⟨k.ent,k.mono,fun w c=>(k.run w c).mono fun e w' q=>q.elim id fun⟨_,_,_,_,_,_,_,_,_,_,q⟩=>q.elim⟩⟩
theorem af {f:FuncId}{fn:Func}{e:au}{A:cI}{rs:List RV}{args:List C}{Lin:List TO}{R:List TO->C->Prop}(hf:P.funcs[f]?=some fn) (b:ax P A fn=some (e,A.n,rs,false)) (c:Nat.ble args.length A.n=true)
  (h:uT args->(∀o∈Lin,o.Wf)->evalTC P ⟨fun _=>False,[],none⟩ e (fun _ _ _=>False) (fun L ρ=>gV L ρ rs fun d=>eS Lin L (gU d) R) (fun L ρ=>gV L ρ rs fun d=>eS Lin L (gU d) R) (cO Lin) (kG 0 args)):CallsT P f args Lin R :=
 (bR hf b c h).noPan
end
section
variable {P:Program}{L:TL}{ρ:aG}
def aR (Lo:List TO) (x:C):List TO->C->Prop:=fun Mo v=>Mo=Lo/\v=x
theorem aF {f:Nat}{args a:List C}{K:TL->aG->C->Prop}{x:C}(h:CallsT P f a [] (aR [] x)) (b:(args.map fun c=>c.aaj.ren (bh [] 1000))=a) (k:Wf x->K L ρ (x.ren (aN [])).slt):kX P f args L ρ K:=by
 subst b;exact .mk ⟨[],[],[],L,[],_,.inl rfl,rfl,rfl,rfl,rfl,rfl,h,fun v Mo ⟨e,j⟩ d _=>by subst e j;exact⟨rfl,k d⟩⟩
theorem bG {f:Nat}{args a:List C}{K:TL->aG->C->Prop}{d:Option Nat}{x:C}(h:CallsT P f a [] (aR [] x)) (b:(args.map fun c=>c.aaj.ren (bh [] 1000))=a) (k:Wf x->K L ρ x.slt):pA P f args L ρ d K:=by
 subst b;exact .frz _ h fun v Mo ⟨j,l⟩ e=>by subst j l;exact⟨rfl,k e⟩
theorem callO (ks ko:List Nat) {f:Nat}{args a:List C}{K:TL->aG->C->Prop}{x:C}{Lin Lin' Lo:List TO}(h:CallsT P f a Lin' (aR Lo x)) (r:L.sub ks=some Lin)
  (d:(aU ks&&aU ko&&kE L ks ko&&aJ Lin ks ko)=true) (m:(args.map fun c=>c.aaj.ren (bh ks 1000))=a) (e:Lin.map (TO.aad (C.ren (bh ks 1000)))=Lin') (j:ko.length=Lo.length)
  (k:Wf x->(∀o∈Lo,o.Wf)->K (((L.aaf ks).kills (rowsOf L ks)).puts ko (Lo.map (TO.aad (C.ren (aN ko))))) (ef (rowsOf L ks) ρ) (x.ren (aN ko)).slt):kX P f args L ρ K:=by
 subst m e;simp only[aaN] at d;obtain⟨⟨⟨q,p⟩,c3⟩,c4⟩:=d;exact .mk ⟨[],ks,ko,L,Lin,_,.inl rfl,r,q,p,c3,c4,h,fun v Mo ⟨l,s⟩ n b=>by subst l s;exact⟨j,k n b⟩⟩
theorem yS (ks ko:List Nat) {f:Nat}{args a:List C}{K:TL->aG->C->Prop}{x:C}{Lin Lin' Lo:List TO}(h:CallsT P f a Lin' (aR Lo x)) (r:L.sub ks=some Lin)
  (d:(aU ks&&aU ko&&kE L ks ko&&aJ Lin ks ko)=true) (m:(args.map fun c=>c.aaj.ren (bh ks 1000))=a) (e:Lin.map (TO.aad (C.ren (bh ks 1000)))=Lin') (j:ko.length=Lo.length)
  (k:Wf x->(∀o∈Lo,o.Wf)->K (((L.aaf ks).kills (rowsOf L ks)).puts ko (Lo.map (TO.aad (C.ren (aN ko))))) (ef (rowsOf L ks) ρ) (x.ren (aN ko)).slt):FD P f args L ρ K:=by
 subst m e;simp only[aaN] at d;obtain⟨⟨⟨q,p⟩,c3⟩,c4⟩:=d;exact .mk ⟨ks,ko,Lin,_,r,q,p,c3,c4,h,fun v Mo ⟨l,s⟩ n b=>by subst l s;exact⟨j,k n b⟩⟩
theorem GW (b ks ko:List Nat) {f:Nat}{args a:List C}{K:TL->aG->C->Prop}{x:C}{Lo Lin':List TO}(h:CallsT P f a Lin' (aR Lo x))
  (hf:yt b L ρ args fun L ρ args=>∃Lin,L.sub ks=some Lin/\(aU ks&&aU ko&&kE L ks ko&&aJ Lin ks ko)=true/\(args.map fun c=>c.aaj.ren (bh ks 1000))=a/\Lin.map (TO.aad (C.ren (bh ks 1000)))=Lin'/\ko.length=Lo.length /\
   (Wf x->(∀o∈Lo,o.Wf)->K (((L.aaf ks).kills (rowsOf L ks)).puts ko (Lo.map (TO.aad (C.ren (aN ko))))) (ef (rowsOf L ks) ρ) (x.ren (aN ko)).slt)):kX P f args L ρ K:=by
 refine .mk ⟨b,ks,ko,?_⟩;refine frzK_imp hf ?_;rintro L ρ args ⟨Lin,r,j,rfl,rfl,l,k⟩;simp only[aaN] at j;obtain⟨⟨⟨p,q⟩,c3⟩,c4⟩:=j;exact⟨L,Lin,_,.inl rfl,r,p,q,c3,c4,h,fun v Mo ⟨m,s⟩ n e=>by subst m s;exact⟨l,k n e⟩⟩
where
 frzK_imp:∀{b:List Nat}{L:TL}{ρ:aG}{args:List C}{K K':TL->aG->List C->Prop},yt b L ρ args K->(∀L ρ args,K L ρ args->K' L ρ args)->yt b L ρ args K'
  | [],L,ρ,args,K,K',h,d=>d _ _ _ h
  | k::b,L,ρ,args,K,K',h,d=>by
   simp only[yt] at h ⊢;generalize L.get k=z at h ⊢;split at h
   ·exact frzK_imp h d
   ·exact h.elim
theorem ay {Lin:List TO}{v x:C}(hb:aJ Lin (List.range' 1000 Lin.length) []=true) (e:v.aao.ren (bh [] 1000)=x):eS Lin L v (aR [] x) :=
 ⟨[],[],L,v,v,[],rfl,.inl ⟨rfl,rfl⟩,rfl,rfl,hb,fun _=>⟨rfl,e⟩⟩
theorem bP (ko:List Nat) {Lin Mo Lo:List TO}{v x:C}(b:L.sub ko=some Mo) (a:(aU ko&&aJ Lin (List.range' 1000 Lin.length) ko)=true) (c:Mo.map (TO.aad (C.ren (bh ko 1000)))=Lo) (e:v.aao.ren (bh ko 1000)=x):eS Lin L v (aR Lo x):=by
 simp only[aaN] at a;exact⟨[],ko,L,v,v,Mo,rfl,.inl ⟨rfl,rfl⟩,b,a.1,a.2,fun _=>⟨c,e⟩⟩
theorem WH (k t sz:Nat) {Lin:List TO}(b:L=[]) (hb:aJ Lin (List.range' 1000 Lin.length) [k]=true):eS Lin L .nils (aR [.row t sz []] (.rw 1000)):=by
 subst b;have a:Nat.beq k k=true:=by simp
 refine⟨[],[k],[(k,.row t sz [])],.nils,.rw k,[.row t sz []],rfl,.inr ⟨⟨.inr ⟨rfl,t,sz,rfl⟩,trivial⟩,.inr (.inr (.inr (.inl ⟨rfl,k,t,sz,rfl,rfl,?_⟩)))⟩,?_,rfl,hb,fun _=>⟨rfl,?_⟩⟩
 ·simp only[TL.get,a]
 ·simp only[TL.sub,TL.get,a]
 ·simp only[C.aao,C.ren,C.mp,wW,bh,a]
theorem yT (d ko:List Nat) {Lin Lo:List TO}{v x:C}(hf:yt d L (fun _=>.any) [v] fun L _ b=>∃c Mo,b=[c]/\L.sub ko=some Mo/\(aU ko&&aJ Lin (List.range' 1000 Lin.length) ko)=true/\Mo.map (TO.aad (C.ren (bh ko 1000)))=Lo/\c.aao.ren (bh ko 1000)=x):eS Lin L v (aR Lo x):=by
 refine⟨d,ko,?_⟩;refine GW.frzK_imp hf ?_;rintro L ρ b ⟨c,Mo,rfl,f,a,h,e⟩;simp only[aaN] at a;exact⟨L,c,c,Mo,rfl,.inl ⟨rfl,rfl⟩,f,a.1,a.2,fun _=>⟨h,e⟩⟩
theorem bN {d:Type}{b:TL->aG->TK->Prop}{asg:List Nat}(n:Nat) (l:Nat) (f:List Nat) (c:d) (e:d->List C) (Lf:d->TL) (Inv:Nat->d->Prop) (h0:Inv 0 c) (u:NA L (Lf c) (ρ l) (.int .i64 0)) (t:nJ L (Lf c) f (e c) ρ)
  (v:gives L (Lf c) (Lf c)) (hb:∀s,pu L (Lf s)=true) (r:∀s,(e s).length=f.length)
  (h:∀(k:Nat) s,k<=n->Inv k s->uT (e s)->(∀j o,(Lf s).get j=some o->o.Wf)->(k:Int)<=9223372036854775807->b (Lf s) (qA (l::f) (.int .i64 k::e s) (tN asg ρ)) fun L' ρ' =>
   ∃a:Nat×d,(a.1<=n/\Inv a.1 a.2)/\nJ L' (Lf a.2) (l::f) (.int .i64 a.1::e a.2) ρ'/\gives L' (Lf a.2) (Lf a.2)/\n-a.1<n-k):vY b asg L ρ:=by
 refine⟨Nat×d,(0,c),fun x=>x.1<=n/\Inv x.1 x.2,l::f,fun x=>.int .i64 x.1::e x.2,fun x=>Lf x.2,fun x=>n-x.1,⟨abd _,h0⟩,⟨u,t⟩,v,fun x=>hb x.2,fun x=>by simp[r],?_⟩;rintro⟨k,s⟩ ⟨p,hi⟩ m q;simp only[uT,Wf] at m;exact h k s p hi m.2 q (wf_i64 m.1).2
theorem bw {L1:TL}{k:Nat}:NA L L1 (.int .i64 ((k:Int)+1)) (.int .i64 ((k+1:Nat):Int)):=.inr (.inl ⟨rfl,rfl⟩)
theorem bB {n k:Nat}(h:k<n):n-(k+1)<n-k:=by omega
theorem gS {els:List (List C)}(h:Wf (.sl els)):els.length<=9223372036854775807:=by simp only[Wf,maxLen] at h;omega
theorem NZ {a:Type}{f:a->List C}{l:List a}(h:Wf (.sl (l.map f))):l.length<=9223372036854775807:=by have:=gS h;simpa using this
theorem FP {a:Type}{f:a->List C}{l:List a}{k sz:Nat}{x:a}{es:List C}{K:List C->Prop}(c:l[k]?=some x) (he:f x=es) (b:fG es sz=true) (h:K es):tL (l.map f) (k:Int) sz K :=
 ⟨es,by omega,by simp[c,he],b,h⟩
theorem dX {a:List UInt8}{k:Nat}{x:UInt8}{K:List C->Prop}(b:a[k]?=some x) (h:K [Ks x]):tL (Fz a) (k:Int) 1 K :=
 ⟨[Ks x],by omega,by simp[Fz,b],rfl,h⟩
theorem ai {L1:TL}{c:C}(h:fQ L1 3 c=true):NA L L1 c c:=.inr (.inl ⟨rfl,h⟩)
theorem bU {a:Type}{l:List a}{k:Nat}(h:¬k<l.length):l.drop k=[]:=List.drop_eq_nil_iff.2 (by omega)
theorem SD (L1:TL) (ks ko:List Nat) {PS:qa}{Pp:Value->Prop}{f:Nat}{args a:List C}{K:TL->aG->C->Prop}{x:C}{Lin Lin' Lo:List TO}(h:CallsTX P f a Lin' (aR Lo x) Pp) (n:gives L L1 L1) (u:L1.sub ks=some Lin)
  (d:(covers L L1&&aU ks&&aU ko&&kE L1 ks ko&&aJ Lin ks ko)=true) (p:(args.map fun c=>c.aaj.ren (bh ks 1000))=a) (j:Lin.map (TO.aad (C.ren (bh ks 1000)))=Lin') (l:ko.length=Lo.length) (e:∀v,Pp v->PS.ps v)
  (k:Wf x->(∀o∈Lo,o.Wf)->K (((L1.aaf ks).kills (rowsOf L1 ks)).puts ko (Lo.map (TO.aad (C.ren (aN ko))))) (ef (rowsOf L1 ks) ρ) (x.ren (aN ko)).slt) (y:kY L1 ks PS.hb=true:=by rfl):pz P PS f args L ρ K:=by
 subst p j;simp only[aaN] at d;obtain⟨⟨⟨⟨t,s⟩,r⟩,c3⟩,c4⟩:=d;exact⟨[],ks,ko,L1,Lin,_,_,.inr ⟨n,t⟩,u,s,r,c3,c4,y,h,e,fun v Mo ⟨m,w⟩ q b=>by subst m w;exact⟨l,k q b⟩⟩
theorem vq {PS:qa}{c:C}{v:Value}(b:DA c=some v) (h:PS.ps v) (a:kY L [] PS.hb=true:=by rfl):Ur PS L c:=⟨v,b,a,h⟩
end
def lV:Own->Value
 | .box g _ _=>.pointer (some ⟨g,0,none⟩)
 | .row _ _ _ _ _=>undef
def qb:Own->List Value->Own
 | .box g t _,cs=>.box g t cs
 | .row v t sz n xs,_=>.row v t sz n xs
def SE:Own->Nat->Prop
 | .box _ 0 _,_=>False
 | .box _ (_+1) cs,n=>cs.length=n
 | .row _ _ _ _ _,_=>False
theorem GX {g:Nat}{t:TypeId}{cs:List Value}{n:Nat}(h:t≠0) (a:cs.length=n):SE (.box g t cs) n:=by
 cases t with
 | zero=>exact vv rfl h
 | succ t=>exact a
theorem xg {g:Nat}{t:TypeId}{cs:List Value}{n:Nat}(h:SE (.box g t cs) n):t≠0:=by
 cases t with
 | zero=>exact h.elim
 | succ t=>exact Nat.succ_ne_zero t
def C4:List Own->List Nat->Prop
 | [],[]=>True
 | o::a,n::ns=>SE o n/\C4 a ns
 | _,_=>False
structure qG (P:Program) (H:Nat) (PS:Value->Prop) (ns:List Nat) (out:Value->List (List Value)):Prop where
 inv:∀cap w,(invoke (.fn (.func H) cap) #[]).run P w=.ok (.enter H cap) w
 idle:∀(bs:List Own) (w:World),C4 bs ns->CallsD P H (bs.map lV).toArray .returning w fun e u' w'=>e=.returned (.tuple #[])/\u'=.returning/\w'=w
 caught:∀(F:aA) (bs:List Own) (v:Value) (older:List PanicEntry) (w:World),PS v->C4 bs ns->St F (inp bs) w ->
  CallsD P H (bs.map lV).toArray (.panicking ({v,recovered:=false}::older)) w fun e u' w'=>e=.returned (.tuple #[])/\u'=.panicking ({v,recovered:=true}::older) /\
   ∃F',St F' (inp (List.zipWith qb bs (out v))) w'/\Step F (inp bs) w F' (inp (List.zipWith qb bs (out v))) w'
theorem DU {P:Program}{F:aA}{L:Loc}{ρ:Env}{a:Act}{w:World}{fn:Func}{rs:List RV}{K:List Value->Prop}(e:St F L w) (he:aC L ρ a) (c:nA P fn.results.toList=some rs) (h:nS L ρ rs K) :
  ∃b,(results fn a.tmps).run P w=.ok (gD b) w/\K b:=by
 obtain⟨b,d,f⟩:=oe e he c h;refine⟨b,?_,f⟩;rw[pq,Array.mapM_eq_mapM_toList];simp only[Sem.run_bind,Sem.run_map];rw[d];simp only[Result.andThen_ok,Sem.run_pure];congr 1
 match b with
 | []=>rfl
 | [t]=>rfl
 | t::u::r =>
  simp only[gD];rw[dif_neg (by simp)]
def Bm:List TO->List TO->Prop
 | [],Mo=>Mo=[]
 | .box t _::l,Mo=>∃(n:Nat) (Mo':List TO),Mo=.box t (List.replicate n .any)::Mo'/\Bm l Mo'
 | .row t sz _::l,Mo=>∃Mo',Mo=.row t sz []::Mo'/\Bm l Mo'
 | .map _::_,_=>False
def Bn:List TO->Bool
 | []=>true
 | .map _::_=>false
 | .box _ _::l=>Bn l
 | .row _ _ _::l=>Bn l
theorem DV {F:aA}{L:Loc}:∀a:List Value,aB F L (List.replicate a.length .any) a
 | []=>by simp only[abO,List.replicate_zero,aB]
 | v::a=>by
  simp only[aa8,ab4,aB];exact⟨v,a,rfl,trivial,DV a⟩
theorem GY {F:aA}:∀(Lin:List TO) (Li Lo:List Own),Bn Lin=true->Li.length=Lin.length->Lo.length=Lin.length->(∀(i:Nat) o p,Lin[i]?=some o->Li[i]?=some p->∃L,cN F L o p) ->
  (∀(i:Nat) g t cs,Li[i]?=some (.box g t cs)->∃cs',Lo[i]?=some (.box g t cs')) ->
  ∃(Mo:List TO) (Lo':List Own),Bm Lin Mo/\Mo.length=Lin.length/\Lo'.length=Lin.length/\(∀(i:Nat) o,Lo'[i]?=some o->Lo[i]?=some o\/∃t sz,o=.row (.slice none 0 0) t sz 0 []) /\
   (∀(i:Nat) g t cs,Li[i]?=some (.box g t cs)->∃cs',Lo'[i]?=some (.box g t cs'))/\∀(i:Nat) o p L G,Mo[i]?=some o->Lo'[i]?=some p->cN G L o p
 | [],Li,Lo,c,h1,h2,h3,h4=>by
  have:Li=[]:=List.length_eq_zero_iff.1 h1;subst this;exact⟨[],[],rfl,rfl,rfl,fun i o e=>by simp at e,fun i g t cs e=>by simp at e,fun i o p L G e=>by simp at e⟩
 | o::Lin,[],Lo,c,h1,h2,h3,h4=>by simp at h1
 | o::Lin,p::Li,[],c,h1,h2,h3,h4=>by simp at h2
 | o::Lin,p::Li,q::Lo,c,h1,h2,h3,h4=>by
  obtain⟨Mo,Lo',k,j,m,h,l,r⟩:=GY Lin Li Lo (by cases o<;>first | exact c | cases c) (by simpa using h1) (by simpa using h2) (fun i o p a b=>h3 (i+1) o p (by simpa using a) (by simpa using b)) (fun i g t cs e=>by simpa using h4 (i+1) g t cs (by simpa using e));obtain⟨L,d⟩:=h3 0 o p rfl rfl;cases o with
  | map es=>cases c
  | box t cs =>
   cases p with
   | row=>exact d.elim
   | box g f us =>
    obtain⟨cs',e⟩:=h4 0 g f us rfl;simp only[aa4,aaO] at e;subst e;refine⟨.box t (List.replicate cs'.length .any)::Mo,.box g f cs'::Lo',⟨_,_,rfl,k⟩,by simp[j],by simp[m],fun i o e=>?_,fun i g t cs e=>?_,fun i o p L G a b=>?_⟩
    ·cases i with
     | zero=>exact .inl e
     | succ i=>simpa using h i o (by simpa using e)
    ·cases i with
     | zero=>simp only[aa4,aaO] at e;injection e with q1 q2 q3;subst q1 q2;exact⟨_,rfl⟩
     | succ i=>simpa using l i g t cs (by simpa using e)
    ·cases i with
     | zero =>
      simp only[aa4,aaO] at a b;subst a b;exact⟨d.1,DV _⟩
     | succ i=>exact r i o p L G (by simpa using a) (by simpa using b)
  | row t sz els =>
   cases p with
   | box=>exact d.elim
   | row v f s n xs =>
    refine⟨.row t sz []::Mo,.row (.slice none 0 0) t sz 0 []::Lo',⟨_,rfl,k⟩,by simp[j],by simp[m],fun i o e=>?_,fun i g t cs e=>?_,fun i o p L G a b=>?_⟩
    ·cases i with
     | zero=>simp only[aa4,aaO] at e;subst e;exact .inr ⟨_,_,rfl⟩
     | succ i=>simpa using h i o (by simpa using e)
    ·cases i with
     | zero=>simp only[aa4,aaO] at e;cases e
     | succ i=>simpa using l i g t cs (by simpa using e)
    ·cases i with
     | zero =>
      simp only[aa4,aaO] at a b;subst a b;exact⟨rfl,rfl,rfl,⟨abd _,none,0,rfl,fun _=>rfl⟩,by simp only[aQ]⟩
     | succ i=>exact r i o p L G (by simpa using a) (by simpa using b)
theorem SF {F F':aA}{Lin:List TO}{Li Lo:List Own}{w w':World}(n:Bn Lin=true) (y:Li.length=Lin.length) (v:bT F (inp Li) (cO Lin)) (l:St F' (inp Lo) w') (c:Step F (inp Li) w F' (inp Lo) w') (q:Lo.length=Li.length)
  (u:∀(i:Nat) g t cs,Li[i]?=some (.box g t cs)->∃cs',Lo[i]?=some (.box g t cs')) :
  ∃Mo Lo',St F' (inp Lo') w'/\Step F (inp Li) w F' (inp Lo') w'/\Bm Lin Mo/\Mo.length=Lo'.length/\bT F' (inp Lo') (cO Mo)/\∀(i:Nat) g t cs,Li[i]?=some (.box g t cs)->∃cs',Lo'[i]?=some (.box g t cs'):=by
 have h:∀(i:Nat) o p,Lin[i]?=some o->Li[i]?=some p->∃L,cN F L o p:=by
  intro i o p d x;have hk:=v (1000+i);rw[cu,aI,fo (by omega),fo (by omega),show 1000+i-1000=i by omega,d,x] at hk;exact⟨_,hk⟩
 obtain⟨Mo,Lo',a1,r,s,a4,a5,a6⟩:=GY Lin Li Lo n y (by rw[q,y]) h u;have a:∀j o,(inp Lo').get j=some o->(inp Lo).get j=some o\/∃t sz,o=.row (.slice none 0 0) t sz 0 []:=by
  intro j o e;rw[aI] at e ⊢;split at e
  case isFalse=>cases e
  rename_i hj;rw[fo hj];exact a4 _ o e
 refine⟨Mo,Lo',⟨l.frz,fun j o e=>?_,fun j o g e hb=>?_,fun j z o o' g e e' hb m=>?_,l.glob⟩,?_,a1,by rw[r,s],fun k=>?_,a5⟩
 ·rcases a j o e with d | ⟨t,sz,rfl⟩
  ·exact l.own j o d
  ·exact World.ownsRow_nil w' 0 t sz
 ·rcases a j o e with d | ⟨t,sz,rfl⟩
  ·exact l.off j o g d hb
  ·cases hb
 ·rcases a j o e with d | ⟨t,sz,rfl⟩
  ·rcases a z o' e' with x | ⟨t,sz,rfl⟩
   ·exact l.sep j z o o' g d x hb m
   ·cases m
  ·cases hb
 ·refine⟨c.le,c.os,c.tape,c.output,c.size,c.same,c.frz,fun b hb=>?_⟩;obtain⟨j,o,e,hb⟩:=hb;rcases a j o e with d | ⟨t,sz,rfl⟩
  ·exact c.own b ⟨j,o,d,hb⟩
  ·cases hb
 ·rw[cu,aI];split
  ·cases d:Mo[k-1000]? with
   | none =>
    have:Lo'[k-1000]?=none:=abj (by rw[s,<-r];exact abC.1 d);rw[this];trivial
   | some o =>
    have f:k-1000<Lo'.length:=by rw[s,<-r];exact(aaT.1 d).1
    rw[aaQ f];exact a6 _ o _ _ _ d (aaQ f)
  ·trivial
def yU (M:TL) (τ:aG):List Nat->List Nat->Bool
 | [],[]=>true
 | k::ks,n::ns=>match τ k,M.get k with
  | .own j 0,some (.box _ cs)=>match Nat.beq j k,fG cs n with | true,true=>yU M τ ks ns | _,_=>false
  | _,_=>false
 | _,_=>false
section
variable {G:Nat->Option (Nat×TypeId)}{F:aA}{L:Loc}{ρ:Env}{M:TL}{τ:aG}
theorem DW:∀{ks ns:List Nat},yU M τ ks ns=true->TS G F L ρ M τ->∃a:List Own,L.sub ks=some a/\C4 a ns/\ks.map (fun k=>conc L (ρ k))=a.map lV/\(∀k∈ks,ρ k=.own k 0)
 | [],[],_,_=>⟨[],rfl,trivial,rfl,fun k h=>by cases h⟩
 | [],n::ns,h,_=>by cases h
 | k::ks,[],h,_=>by cases h
 | k::ks,n::ns,h,c=>by
  simp only[yU] at h;split at h
  case h_2=>cases h
  rename_i j t cs h1 h2;split at h
  case h_2=>cases h
  rename_i h3 h4;have h3:=aaR h3;subst h3;obtain⟨a,r,p,o,q⟩:=DW h c;obtain⟨g,ty,l,f,m,b⟩:=lH c.tl h2;have e:ρ j=.own j 0:=(js (x:=.t j) c.env h1).1;refine⟨.box g ty l::a,by simp only[Loc.sub,f,r],⟨GX b.2.2 (by rw[m.len];exact bZ h4),p⟩,?_,?_⟩
  ·rw[aaZ,aaZ,o];simp only[e,conc,f,lV]
  ·intro k d;rcases aaX.1 d with rfl | d
   ·exact e
   ·exact q k d
end
theorem xh:∀{a:List Own}{ns:List Nat},C4 a ns->a.length=ns.length
 | [],[],_=>rfl
 | [],_::_,h=>h.elim
 | _::_,[],h=>h.elim
 | o::a,n::ns,h=>by simp[xh h.2]
theorem DX {hb:List (Nat×Nat)}{L L':Loc}:∀{ks ns:List Nat}{b:List Own},L.sub ks=some b->C4 b ns->(∀k g t cs,k∈ks->L.get k=some (.box g t cs)->∃cs',L'.get k=some (.box g t cs'))->WE hb L'->(∀x∈ks.zip ns,x∈hb) ->
  ∃a,L'.sub ks=some a/\C4 a ns/\a.map lV=b.map lV
 | [],ns,b,h1,h2,h3,h4,h5=>by
  simp only[Loc.sub,aaO] at h1;subst h1;exact⟨[],rfl,h2,rfl⟩
 | k::ks,ns,b,h1,h2,h3,h4,h5=>by
  simp only[Loc.sub] at h1;split at h1
  case h_2=>cases h1
  rename_i o l q v;injection h1 with h1
  subst h1;cases ns with
  | nil=>exact h2.elim
  | cons n ns =>
   obtain⟨h2,h2'⟩:=h2;cases o with
   | row=>exact h2.elim
   | box g t cs =>
    obtain⟨a,r,p,m⟩:=DX v h2' (fun j g t cs h e=>h3 j g t cs (by simp[h]) e) h4 (fun x u=>h5 x (by simp[u]));obtain⟨cs',d⟩:=h3 k g t cs (by simp) q;obtain⟨w,y,f,c,s⟩:=h4 k n (h5 _ (by simp));rw[d] at c;injection c with c
    injection c with x1 x2 x3
    subst x1 x2 x3;exact⟨.box g t cs'::a,by simp only[Loc.sub,d,r],⟨GX (xg h2) s,p⟩,by simp[m,lV]⟩
theorem GZ:∀{a:List Own}{ns:List Nat}{l:List (List Value)},C4 a ns->l.length=ns.length->(List.zipWith qb a l).length=a.length/\(∀(i:Nat) g t cs,a[i]?=some (.box g t cs)->∃cs',(List.zipWith qb a l)[i]?=some (.box g t cs')) /\
  ∀(i:Nat) cs,l[i]?=some cs->∃g t,(List.zipWith qb a l)[i]?=some (.box g (t+1) cs)
 | [],[],l,_,h=>by
  have:l=[]:=List.length_eq_zero_iff.1 h;subst this;exact⟨rfl,fun i g t cs e=>by simp at e,fun i cs e=>by simp at e⟩
 | [],n::ns,l,h,_=>h.elim
 | o::a,[],l,h,_=>h.elim
 | o::a,n::ns,[],_,h=>by simp at h
 | o::a,n::ns,c::l,⟨h1,h2⟩,h=>by
  obtain⟨f,d,b⟩:=GZ (l:=l) h2 (by simpa using h);cases o with
  | row=>exact h1.elim
  | box g t cs =>
   refine⟨by simp[f],fun i j k cs' e=>?_,fun i cs' e=>?_⟩
   ·cases i with
    | zero =>
     simp only[aa4,aaO] at e;injection e with x1 x2 x3
     subst x1 x2;exact⟨c,rfl⟩
    | succ i=>simpa using d i j k cs' (by simpa using e)
   ·cases i with
    | zero =>
     simp only[aa4,aaO] at e;subst e;cases t with
     | zero=>exact h1.elim
     | succ t=>exact⟨g,t,rfl⟩
    | succ i=>simpa using b i cs' (by simpa using e)
theorem vu {a:Act}{ρ:Env}{L:Loc}(he:aC L ρ a):∀ks:List Nat,(ks.map Operand.tmp).map a.eval=ks.map fun k=>conc L (ρ k)
 | []=>rfl
 | k::ks=>by
  simp only[aaZ,vu he ks];exact vz (·::_) (he.eq k)
theorem Q6:∀(l:List PanicEntry),(∀e∈l,e.goexit=false)->l.dropWhile (!·.goexit)=[]
 | [],_=>rfl
 | e::l,h=>by
  rw[List.dropWhile_cons,fo (by simp[h e (by simp)])];exact Q6 l fun x a=>h x (by simp[a])
theorem Cn {P:Program}{f H d r1:Nat}{fn:Func}{c0 rest:Code}{o1 o2:Oper}{A:cI}{sc0 sc:au}{rs:List RV}{ks ns:List Nat}{args:List C}{Lin:List TO}{R:List TO->C->Prop}{PS:Value->Prop}{out:Value->List (List Value)}
  (hf:P.funcs[f]?=some fn) (hb:fn.body=some (.seq c0 (.seq (.region r1 #[o1,o2] false) rest))) (hname:(fn.name == "runtime.NumGoroutine")=false) (hnt:fn.ntmps=A.n)
  (ho1:o1.op=.makeFunc (.func H) #[] (ks.map Operand.tmp).toArray) (hd1:o1.dst=some d) (hg1:o1.guard=none) (ho2:o2.op=.defer {callee:=.value (.tmp d),args:=#[],argTypes:=#[]}) (hd2:o2.dst=none) (hg2:o2.guard=none)
  (hl0:low P A c0=some sc0) (hl:low P A rest=some sc) (hres:nA P fn.results.toList=some rs) (hH:qG P H PS ns out) (hd:d<A.n) (hks:aU ks=true) (hkd:(ks.all fun k=>!(fM (dR rest) k)&&!(Nat.beq k d)&&Nat.blt k 1000)=true)
  (hout:∀v,PS v->(out v).length=ns.length) (hlen:Nat.ble args.length A.n=true) (hnm:Bn Lin=true)
  (hcat:∀v,PS v->∃c x,(∀(L:Loc) (ρ:Env),(∀(i:Nat) k cs,ks[i]?=some k->(out v)[i]?=some cs->ρ k=.own k 0/\∃g t,L.get k=some (.box g (t+1) cs))->nS L ρ rs (fun vs=>gD vs=x))/\(∀F L,Rel F L c x)/\∀Mo,Bm Lin Mo->R Mo c)
  (h:uT args->(∀o∈Lin,o.Wf)->evalTC P ⟨fun _=>False,[],none⟩ sc0 (fun _ _ _=>False) (fun _ _=>False) (fun M τ=>yU M τ ks ns=true /\
   evalTC P ⟨PS,ks.zip ns,none⟩ sc (fun _ _ _=>False) (fun L ρ=>gV L ρ rs fun vs=>eS Lin L (gU vs) R) (fun L ρ=>gV L ρ rs fun vs=>eS Lin L (gU vs) R) M (bq (some d) .any τ)) (cO Lin) (kG 0 args)) :
  CallsT P f args Lin R:=by
 refine⟨fun F Li vs hlL htl ha=>⟨⟨fn,hf,by rw[hb];rfl,hname⟩,gQ.aap,fun w hs=>?_⟩⟩
 suffices hall:∀RR:Ending->World->Prop,(∀v F' Lo w',St F' (inp Lo) w'->Step F (inp Li) w F' (inp Lo) w'->gQ Li R F' Lo v->RR (.returned v) w')->Calls P f vs.toArray w RR from
  hall _ fun v F' Lo w' h1 h2 h3=>⟨v,F',Lo,rfl,h1,h2,h3⟩
 intro RR hRR;refine calls_of_wp_defers hf hb ?_;have hwo:∀o∈Lin,o.Wf:=by
  intro o ho;obtain⟨i,hi⟩:=abh.1 ho;have:=htl (1000+i);rw[cu,aI,fo (by omega),fo (by omega),show 1000+i-1000=i by omega,hi] at this;cases e:Li[i]? with
  | none=>rw[e] at this;exact this.elim
  | some p=>rw[e] at this;exact cN.wf this
 have h:=h ha.wf hwo;have hla:=ha.len;have hlen:=abb hlen;have key:∀j,∃sv,aL F (inp Li) (kG 0 args j) sv/\conc (inp Li) sv=(vs.toArray++Array.replicate (fn.ntmps-vs.toArray.size) undef).getD j undef/\(∀k off,sv=.own k off->∃g t cs,(inp Li).get k=some (.box g t cs))/\(∀ad i,sv=.el ad i->ad≠none):=by
  intro j;rw[oD];simp only[abd,abm,Nat.sub_zero,aa9];cases e:args[j]? with
  | some c =>
   have hlt:j<vs.length:=by rw[hla];exact(aaT.1 e).1
   obtain⟨s1,s2,s3,s4⟩:=rD (ha.at e (aaQ hlt));refine⟨_,s1,?_,s3,fun ad i e=>vv e (s4 ad i)⟩;rw[s2,Array.getElem?_append_left (by simpa using hlt)];simp[hlt]
  | none =>
   have hge:vs.length<=j:=by rw[hla];exact abC.1 e
   refine⟨.v undef,lz,?_,fun _ _ e=>(by cases e),fun _ _ e=>(by cases e)⟩;rw[Array.getElem?_append_right (by simpa using hge)];simp only[Array.getElem?_replicate,conc];split<;>rfl
 let ρ0:Env:=fun j=>(key j).choose
 have he:aC (inp Li) ρ0 {tmps:=vs.toArray++Array.replicate (fn.ntmps-vs.toArray.size) undef,defers:=[]} :=
  ⟨fun t=>(key t).choose_spec.2.1.symm,fun t k off e=>(key t).choose_spec.2.2.1 k off e,fun t ad j e=>(key t).choose_spec.2.2.2 ad j e⟩
 let G:Nat->Option (Nat×TypeId):=fun k=>match(inp Li).get k with | some (.box g t _)=>some (g,t) | _=>none
 have hG1:∀k g t cs,(inp Li).get k=some (.box g t cs)->G k=some (g,t):=fun k g t cs e=>by simp only[G,e]
 have hkp:Kp G (inp Li):=by
  intro k g t e;simp only[G] at e;split at e
  ·rename_i g' t' cs h;injection e with e
   injection e with e1 e2
   subst e1 e2;exact⟨cs,h⟩
  ·cases e
 have ht:TS G F (inp Li) ρ0 (cO Lin) (kG 0 args):=⟨htl,fun j=>(key j).choose_spec.1,hkp,hs.glob⟩;have hGd:∀k,G k≠none->1000<=k:=by
  intro k hne;simp only[G] at hne;split at hne
  ·rename_i g t cs h;rw[aI] at h;split at h
   ·assumption
   ·cases h
  ·exact vv rfl hne
 refine wp_seq (wp_mono (fR c0 hl0 (fun k _ hne=>.inl (hGd k hne)) hs he ht (by simp[hnt];omega) h) ?_);intro e a1 w1 hq;cases e with
 | exit j=>obtain⟨F',L',ρ',_,_,_,_,_,_,M',τ',_,h⟩:=hq;exact h.elim
 | goto l=>exact hq.elim
 | outgrown=>exact hq.elim
 | ret=>obtain⟨F',L',ρ',_,_,_,_,_,_,M',τ',_,h⟩:=hq;exact h.elim
 | panic c=>obtain⟨v,hch,F',L',_,_,_,_,_,_,hp,_⟩:=hq;exact hp.elim
 | normal =>
 obtain⟨F1,L1,ρ1,hs1,he1,hn1,hd1',hst1,_,M1,τ1,ht1,hcaps,hrest⟩:=hq;obtain⟨bs,hsub,hbx,hptr,hown⟩:=DW hcaps ht1;simp only[Exit.then]
 -- the deferred function is named
 generalize hfv:Value.func (.func H) #[] (bs.map lV).toArray=fv;have hev:(ks.map Operand.tmp).toArray.map a1.eval=(bs.map lV).toArray:=by
  rw[List.map_toArray,vu he1,hptr]
 have he2:=he1.put (L':=L1) (d:=some d) (v:=fv) (x:=.v fv) (fun k e=>by injection e with e;subst e;omega) rfl cB eZ (fun k g ty cs e=>⟨cs,e⟩);have ht2:TS G F1 L1 (put (some d) (.v fv) ρ1) M1 (bq (some d) .any τ1):=ht1.put (c:=.any) (sv:=.v fv) trivial (some d);obtain⟨tm,df⟩:=a1;simp only at hd1';subst hd1';have hdt:(tm.setIfInBounds d fv).getD d undef=fv:=by
  have:d<tm.size:=by simpa[hn1] using hd
  simp[aa9,this]
 refine wp_seq (wp_region ?_);generalize hd0:({target:=.fn (.func H) (bs.map lV).toArray,args:=#[]}:Deferred)=d0;have hsz:d<tm.size:=by simpa[hn1] using hd
 simp[wpOps,go_sem,ho1,hd1,hg1,ho2,hd2,hg2,Exit.then,Region.wanted,hsz,Instr.makeFunc];have hml:List.map (Act.eval {tmps:=tm,defers:=[]}∘Operand.tmp) ks=bs.map lV:=by
  rw[<-hptr,<-vu he1,abT]
 rw[hml,hfv,hd0];refine .inl (.inl ?_)
 let G1:Nat->Option (Nat×TypeId):=fun k=>match Nat.ble 1000 k||fM ks k with | true=>(match L1.get k with | some (.box g t _)=>some (g,t) | _=>none) | false=>none
 have hGL:∀k g t cs,(1000<=k\/k∈ks)->L1.get k=some (.box g t cs)->G1 k=some (g,t):=fun k g t cs hk e=>by
  have:(Nat.ble 1000 k||fM ks k)=true:=by
   rw[abr];exact hk.imp (fun h=>by rw[Nat.ble_eq];exact h) cS.2
  simp only[G1,this,e]
 have hfz1:tY G1 ⟨PS,ks.zip ns,none⟩ (gA sc):=by
  intro k _ hne;simp only[G1] at hne;split at hne
  ·rename_i hb;rw[abr] at hb;rcases hb with hb | hb
   ·rw[Nat.ble_eq] at hb;exact .inl hb
   ·refine .inr ?_;have hl2:ks.length=ns.length:=by rw[(cE hsub).1.symm];exact xh hbx
    show fM ((ks.zip ns).map (·.1)) k=true;rw[List.map_fst_zip (by omega)];exact hb
  ·exact vv rfl hne
 have hkp1:Kp G1 L1:=by
  intro k g t e;simp only[G1] at e;split at e
  case h_2=>cases e
  split at e
  ·rename_i g' t' cs h;injection e with e
   injection e with e1 e2
   subst e1 e2;exact⟨cs,h⟩
  ·cases e
 have hGG:∀k g t,G k=some (g,t)->G1 k=some (g,t):=fun k g t e=>let⟨cs,h⟩:=ht1.kp k g t e;hGL k g t cs (.inl (hGd k (by rw[e];simp))) h;have ht3:TS G1 F1 L1 (put (some d) (.v fv) ρ1) M1 (bq (some d) .any τ1):=⟨ht2.tl,ht2.env,hkp1,ht2.glob⟩;have he3:aC L1 (put (some d) (.v fv) ρ1) {tmps:=tm.setIfInBounds d fv,defers:=[d0]}:=⟨he2.eq,he2.own,he2.el⟩;refine wp_mono (fR rest hl hfz1 hs1 he3 ht3 (by simpa using hn1) hrest) ?_;intro e a' w' hq;have hnd:=cW hks;have hGI:∀k g t cs,(inp Li).get k=some (.box g t cs)->G1 k=some (g,t):=fun k g t cs e=>hGG k g t (hG1 k g t cs e);have back:∀(u:FrameMode) (w:World),u=.returning->Leaves P fn a'.tmps RR [] .returning w->Leaves P fn a'.tmps RR [d0] u w:=by
  rintro u w rfl hlv;rw[<-hd0];refine leaves_cons (f:=H) (args:=(bs.map lV).toArray) (by simp) (hH.inv _ w) ?_;refine(hH.idle bs w hbx).mono ?_;rintro e u' w6 ⟨rfl,rfl,rfl⟩;exact hlv
 have fin:eJ A.n F1 L1 w1 {tmps:=tm.setIfInBounds d fv,defers:=[d0]} (dR rest) (Both G1 (fun L ρ=>gV L ρ rs fun vs=>eS Lin L (gU vs) R)) a' w'->Leaves P fn a'.tmps RR a'.defers .returning w':=by
  intro hq;have hq':eJ A.n F (inp Li) w {tmps:=tm.setIfInBounds d fv,defers:=[d0]} (dR rest) (Both G1 (fun L ρ=>gV L ρ rs fun vs=>eS Lin L (gU vs) R)) a' w':=by
   obtain⟨F',L',ρ',g1,g2,g3,g4,g5,g6,g7⟩:=hq;exact⟨F',L',ρ',g1,g2,g3,g4,hst1.trans g5,g6,g7⟩
  obtain⟨k1,v,k2,F',Lo,k3,k4,k5⟩:=Bl hres hlL htl hGI hq';rw[k1];exact back _ _ rfl ⟨v,k2,hRR v F' Lo w' k3 k4 k5⟩
 cases e with
 | normal=>exact fin hq
 | ret=>exact fin hq
 | exit j=>obtain⟨F',L',ρ',_,_,_,_,_,_,M',τ',_,h⟩:=hq;exact h.elim
 | goto l=>exact hq.elim
 | outgrown=>exact hq.elim
 | panic ch =>
  obtain⟨v,⟨older,rfl,hold⟩,F',L',g1,g2,g3,g4,g5,kp,hp,hbL,_⟩:=hq;show Leaves P fn a'.tmps RR a'.defers _ w';rw[g4,<-hd0];obtain⟨bs',q1,q2,q3⟩:=DX hsub hbx (fun k g t cs hk e=>kp k g t (hGL k g t cs (.inr hk) e)) hbL (fun x hx=>hx);refine leaves_cons (f:=H) (args:=(bs.map lV).toArray) (by simp) (hH.inv _ w') ?_;rw[<-q3];refine(hH.caught F' bs' v older w' hp q2 (g1.handed q1 hnd)).mono ?_;rintro e u' w6 ⟨rfl,rfl,F6,hs6,hst6⟩;show Leaves P fn a'.tmps RR [] (settle _) w6;have hset:settle (.panicking ({v,recovered:=true}::older))=.returning:=by
   have:older.dropWhile (!·.goexit)=[]:=by
    exact Q6 older hold
   simp only[settle,this]
  rw[hset];obtain⟨z1,z2,z3⟩:=GZ (l:=out v) q2 (hout v hp);obtain⟨sl,sg⟩:=cE q1;have hkl:ks.length=(List.zipWith qb bs' (out v)).length:=by rw[z1,sl]
  obtain⟨c1,c2⟩:=gF g1 q1 hnd hnd (fun k hk=>.inl hk) hs6 hst6 hkl;generalize hL6:(L'.aaf ks).puts ks (List.zipWith qb bs' (out v))=L6 at c1 c2;have hget:∀(i:Nat) k cs,ks[i]?=some k->(out v)[i]?=some cs->∃g t,L6.get k=some (.box g (t+1) cs)/\(∃cs',L'.get k=some (.box g (t+1) cs')):=by
   intro i k cs e1 e2;obtain⟨g,t,e3⟩:=z3 i cs e2;refine⟨g,t,by rw[<-hL6];exact eG hnd hkl e1 e3,?_⟩;have e4:=sg i k e1;have hlt:i<bs'.length:=by rw[<-z1];exact(aaT.1 e3).1
   rw[aaQ hlt] at e4;have e5:(List.zipWith qb bs' (out v))[i]?=some (qb bs'[i] cs):=by
    rw[List.getElem?_zipWith,aaQ hlt,e2]
   rw[e3] at e5;injection e5 with e5
   cases hb:bs'[i] with
   | row=>rw[hb] at e5;cases e5
   | box g' t' cs' =>
    rw[hb] at e5 e4;injection e5 with x1 x2
    subst x1 x2;exact⟨cs',e4⟩
  -- the slots that name the boxes
  let ρ6:Env:=fun j=>match fM ks j with | true=>.own j 0 | false=>.v (a'.tmps.getD j undef)
  have hkd':∀k∈ks,k∉dR rest/\k≠d:=by
   intro k hk;have:=aa1.1 hkd k hk;simp only[aaN,Bool.not_eq_true'] at this;refine⟨fun hm=>?_,fun e=>?_⟩
   ·rw[cS.2 hm] at this;exact vv this.1.1 (by simp)
   ·subst e;simp at this
  have hslot:∀k∈ks,∃g t cs,L6.get k=some (.box g t cs)/\a'.tmps.getD k undef=.pointer (some ⟨g,0,none⟩):=by
   intro k hk;obtain⟨i,hi⟩:=abh.1 hk;have hlt:i<(out v).length:=by
    have:=(aaT.1 hi).1;have hl2:ks.length=ns.length:=by rw[<-sl];exact xh q2
    rw[hout v hp];omega
   obtain⟨g,t,e1,cs',e2⟩:=hget i k _ hi (aaQ hlt);refine⟨g,t+1,_,e1,?_⟩;obtain⟨y1,y2⟩:=hkd' k hk;rw[g5 k y1];have:=he3.eq k;rw[this,put_eq];simp only[];rw[o5 y2,hown k hk];simp only[conc];obtain⟨g0,t0,cs0,e0⟩:=he1.own k k 0 (hown k hk);obtain⟨cs1,e3⟩:=kp k g0 t0 (hGL k g0 t0 cs0 (.inr hk) e0);rw[e2] at e3;injection e3 with e3
   injection e3 with x1 x2 _
   subst x1;rw[e0]
  have he6:aC L6 ρ6 a':=by
   refine⟨fun j=>?_,fun j k off e=>?_,fun j ad i e=>?_⟩
   ·simp only[ρ6];cases hm:fM ks j with
    | false=>rfl
    | true =>
     obtain⟨g,t,cs,e1,e2⟩:=hslot j (cS.1 hm);rw[e2];simp only[conc,e1]
   ·simp only[ρ6] at e;cases hm:fM ks j with
    | false=>rw[hm] at e;cases e
    | true =>
     rw[hm] at e;injection e with x1 x2
     subst x1;obtain⟨g,t,cs,e1,_⟩:=hslot j (cS.1 hm);exact⟨g,t,cs,e1⟩
   ·simp only[ρ6] at e;cases hm:fM ks j<;>rw[hm] at e<;>cases e
  obtain⟨c,x,hrv,hrel,hlost⟩:=hcat v hp;obtain⟨us,h5,h6⟩:=DU (K:=fun vs=>gD vs=x) c1 he6 hres (hrv L6 ρ6 fun i k cs e1 e2=>by
   obtain⟨g,t,e3,_⟩:=hget i k cs e1 e2;refine⟨?_,g,t,e3⟩;simp only[ρ6,cS.2 (aaU e1)])
  have hst:Step F (inp Li) w F6 L6 w6:=(hst1.trans g2).trans c2;obtain⟨Lo,p1,p2,p3,p4⟩:=sN c1 hst (fun i g t cs e=>by
   have e0:(inp Li).get (1000+i)=some (.box g t cs):=by rw[aI,fo (by omega),show 1000+i-1000=i by omega];exact e
   obtain⟨cs1,e1⟩:=kp (1000+i) g t (hGI _ g t cs e0);refine⟨cs1,?_⟩;rw[<-hL6];have hni:1000+i∉ks:=by
    intro hm;have:=aa1.1 hkd _ hm;simp only[aaN] at this;have:=this.2;rw[Nat.blt_eq] at this;omega
   rcases cZ ks (List.zipWith qb bs' (out v)) (L'.aaf ks) (1000+i) hnd hkl with⟨q1,q2⟩ | ⟨i',q1,q2,q3⟩
   ·rw[q1,fk,o5 hni];exact e1
   ·exact vv (aaU q1) hni)
  obtain⟨Mo,Lo',l1,l2,l3,l4,l5,l6⟩:=SF hnm hlL htl p1 p2 p3 p4;refine⟨_,h5,hRR _ F6 Lo' w6 l1 l2 ⟨Mo,c,l4,l5,?_,l6,hlost Mo l3⟩⟩;rw[h6];exact hrel _ _
def tmpsOf:List Operand->Option (List Nat)
 | []=>some []
 | .tmp k::l=>match tmpsOf l with | some ks=>some (k::ks) | none=>none
 | _::_=>none
theorem Bo:∀{l:List Operand}{ks:List Nat},tmpsOf l=some ks->l=ks.map Operand.tmp
 | [],ks,h=>by simp only[tmpsOf,aaO] at h;subst h;rfl
 | o::l,ks,h=>by
  cases o<;>simp only[tmpsOf,reduceCtorEq] at h;split at h
  case h_2=>cases h
  rename_i a e;injection h with h
  subst h;rw[Bo e];rfl
def Co (op:Op) (d:Nat):Bool :=
 match op with
 | .defer c=>match c.callee,c.args.toList,c.argTypes.toList with
  | .value (.tmp a),[],[]=>Nat.beq d a
  | _,_,_=>false
 | _=>false
theorem FQ {op:Op}{d:Nat}(h:Co op d=true):op=.defer {callee:=.value (.tmp d),args:=#[],argTypes:=#[]}:=by
 unfold Co at h;split at h
 case h_2=>cases h
 rename_i c;split at h
 case h_2=>cases h
 rename_i k h1 h2 h3;have:=aaR h;subst this;obtain⟨j,b,a⟩:=c;simp only at h1 h2 h3;subst h1;have f:b=#[]:=by apply Array.ext';exact h2
 have e:a=#[]:=by apply Array.ext';exact h3
 rw[f,e]
def Cp (P:Program) (A:cI) (fn:Func):Option (au×au×Nat×List Nat×Nat×List RV) :=
 match fn.body with
 | some (.seq c0 (.seq (.region _ ⟨[o1,o2]⟩ false) rest))=>match o1.op,o1.dst,o1.guard with
  | .makeFunc (.func H) ⟨[]⟩ ca,some d,none=>match Co o2.op d,o2.dst,o2.guard,tmpsOf ca.toList with
   | true,none,none,some ks=>match low P A c0,low P A rest,nA P fn.results.toList with
    | some sc0,some sc,some rs=>match fn.name == "runtime.NumGoroutine",Nat.beq fn.ntmps A.n&&Nat.blt d A.n&&aU ks,ks.all fun k=>!(fM (dR rest) k)&&!(Nat.beq k d)&&Nat.blt k 1000 with
     | false,true,true=>some (sc0,sc,H,ks,d,rs)
     | _,_,_=>none
    | _,_,_=>none
   | _,_,_,_=>none
  | _,_,_=>none
 | _=>none
theorem mR {P:Program}{f H d:Nat}{fn:Func}{A:cI}{l sc:au}{rs:List RV}{ks ns:List Nat}{args:List C}{Lin:List TO}{R:List TO->C->Prop}{PS:Value->Prop}{out:Value->List (List Value)}
  (hf:P.funcs[f]?=some fn) (a:Cp P A fn=some (l,sc,H,ks,d,rs)) (hH:qG P H PS ns out)
  (p:∀v,PS v->(out v).length=ns.length) (j:Nat.ble args.length A.n=true) (s:Bn Lin=true)
  (q:∀v,PS v->∃c x,(∀(L:Loc) (ρ:Env),(∀(i:Nat) k cs,ks[i]?=some k->(out v)[i]?=some cs->ρ k=.own k 0/\∃g t,L.get k=some (.box g (t+1) cs))->nS L ρ rs (fun e=>gD e=x))/\(∀F L,Rel F L c x)/\∀Mo,Bm Lin Mo->R Mo c)
  (h:uT args->(∀o∈Lin,o.Wf)->evalTC P ⟨fun _=>False,[],none⟩ l (fun _ _ _=>False) (fun _ _=>False) (fun M τ=>yU M τ ks ns=true /\
   evalTC P ⟨PS,ks.zip ns,none⟩ sc (fun _ _ _=>False) (fun L ρ=>gV L ρ rs fun e=>eS Lin L (gU e) R) (fun L ρ=>gV L ρ rs fun e=>eS Lin L (gU e) R) M (bq (some d) .any τ)) (cO Lin) (kG 0 args)) :
  CallsT P f args Lin R:=by
 unfold Cp at a;split at a
 case h_2=>cases a
 rename_i c0 r o1 o2 ae hb;split at a
 case h_2=>cases a
 rename_i H' ca d' e1 e2 e3;split at a
 case h_2=>cases a
 rename_i y e4 e5 e6 e7;split at a
 case h_2=>cases a
 rename_i ac an bb e8 e9 aa;split at a
 case h_2=>cases a
 rename_i u b ab;simp only[aaO,Prod.mk.injEq] at a;obtain⟨rfl,rfl,rfl,rfl,rfl,rfl⟩:=a;simp only[aaN] at b;obtain⟨⟨b,m⟩,w⟩:=b;have z:ca=(y.map Operand.tmp).toArray:=by
  have:=Bo e7;rw[<-this]
 rw[z] at e1;rw[Nat.blt_eq] at m;exact Cn hf hb u (aaR b) e1 e2 e3 (FQ e4) e5 e6 e8 e9 aa hH m w ab p j s q h
end Go.Fr.T
namespace Go.Fr
open Go Go.RowKit
section
variable {P:Program}{Q:Exit->Act->World->Prop}{K:dI}
theorem noPan {n:Nat}{F:aA}{L:Loc}{w:World}{a:Act}{asg:List Nat}{E:Nat->dI}{R N:dI}{c} {a':Act}{w':World}(h:QQ n F L w a asg (fun _ _ _=>False) E R N (.panic c) a' w'):False:=by
 obtain⟨v,_,F',L',_,_,_,_,_,h⟩:=h;exact h
theorem Ae {A:cI}{r:Nat}{c:Array Oper}:∀(is:List Nat) {ss:List ak}{F:aA}{L:Loc}{ρ:Env}{a:Act}{w:World},qq P A r c is=some ss->St F L w->aC L ρ a->a.tmps.size=A.n ->
  aS P ss F L ρ K->(∀a' w',eJ A.n F L w a (dstsOf c is) K a' w'->Q .normal a' w')->wpOps P c Q is a w:=by
 intro is
 induction is with
 | nil =>
  intro ss F L ρ a w hl hs he hn l hQ;simp only[qq,aaO] at hl;subst hl;exact hQ a w ⟨F,L,ρ,hs,he,hn,rfl,Step.refl _ _ _,fun _ _=>rfl,l⟩
 | cons i is ih =>
  intro ss F L ρ a w hl hs he hn l hQ;simp only[qq] at hl;split at hl
  case h_1=>cases hl
  rename_i o hi;split at hl
  case h_2=>cases hl
  rename_i g s u hg ce ao ag;injection hl with hl
  subst hl
  -- the q
  have q:∀(ks:List Nat) {F:aA}{L:Loc}{ρ:Env},St F L w->aC L ρ a->aS P (ks.map ak.frz++nH (vR A.pan r i) o.dst s g::u) F L ρ K ->
    ∃F' L' ρ',St F' L' w/\aC L' ρ' a/\Step F L w F' L' w/\aS P (nH (vR A.pan r i) o.dst s g::u) F' L' ρ' K:=by
   intro ks
   induction ks with
   | nil=>intro F L ρ hs he h;exact⟨F,L,ρ,hs,he,Step.refl _ _ _,h⟩
   | cons k ks bd =>
    intro F L ρ hs he h;simp only[aaZ,aa3,aS] at h;split at h
    ·rename_i g' t' cs' hk;obtain⟨F1,ca,bu,z,t,m⟩:=sB hs he hk;obtain⟨F2,L2,aw,ba,bb,ab,h2⟩:=bd z t (h F1 ca bu);exact⟨F2,L2,aw,ba,bb,m.trans ab,h2⟩
    ·obtain⟨F1,L1,z,t,m,h1⟩:=qY hs he h;obtain⟨F2,L2,aw,ba,bb,ab,h2⟩:=bd z t h1;exact⟨F2,L2,aw,ba,bb,m.trans ab,h2⟩
  obtain⟨F1,L1,bi,z,t,m,l⟩:=q _ hs he l
  clear q
  have bp:vR A.pan r i=false:=by
   cases hb:vR A.pan r i with
   | false=>rfl
   | true=>rw[hb] at l;simp only[nH,aS] at l
  rw[bp] at l;simp only[nH] at l
  clear he
  have he:=t;have hd:∀k,o.dst=some k->k<a.tmps.size:=by
   intro k hk;rw[hk] at ao;rw[hn];have h2:Nat.blt k A.n=true:=ao;simpa using h2
  have aE:dstsOf c (i::is)=match o.dst with | some d=>d::dstsOf c is | none=>dstsOf c is:=by
   simp only[dstsOf,hi,Option.bind_some];cases o.dst<;>rfl
  have al:∀j,j∉dstsOf c (i::is)->o.dst≠some j/\j∉dstsOf c is:=by
   intro j hj;rw[aE] at hj;cases ho:o.dst with
   | none=>rw[ho] at hj;exact⟨by simp,hj⟩
   | some d =>
    rw[ho] at hj;simp only[aaX,not_or] at hj;exact⟨by simp;exact fun e=>hj.1 e.symm,hj.2⟩
  have ac:evalOp P s o.dst F1 L1 bi (fun F' L' ρ'=>aS P u F' L' ρ' K)->o.wp P a w (wpOps P c Q is) Q:=by
   intro l;have:=fN (Q:=Q) z t hd ce l;refine Oper.wp_mono ?_ (qt (asg:=[]) this);rintro a' w' ⟨⟨F',L',ρ',g1,g2,g3,g4,g5,g6⟩,bz⟩;refine ih ag g1 g2 (by rw[g3,hn]) g6 ?_;rintro az av ⟨F'',L'',aa,k1,k2,k3,k4,k5,k6,k7⟩;refine hQ az av ⟨F'',L'',aa,k1,k2,k3,k4.trans g4,(m.trans g5).trans k5,fun j hj=>?_,k7⟩;obtain⟨n1,n2⟩:=al j hj;rw[k6 j n2,bz j n1]
  have skip:aS P u F1 L1 (put o.dst (.v undef) bi) K->wpOps P c Q is (a.put o.dst undef) w:=by
   intro l;refine ih ag z (t.put hd (v:=undef) (x:=.v undef) rfl cB eZ (tC L1)) (by rw[jK,hn]) l ?_;rintro az av ⟨F'',L'',aa,k1,k2,k3,k4,k5,k6,k7⟩;refine hQ az av ⟨F'',L'',aa,k1,k2,k3,k4.trans (gO _ _ _),m.trans k5,fun j hj=>?_,k7⟩;obtain⟨n1,n2⟩:=al j hj;rw[k6 j n2,kC n1]
  simp only[wpOps,hi];cases ad:o.guard with
  | none =>
   rw[ad] at hg;simp only[iG,aaO] at hg;subst hg;simp only[aS] at l;rw[fo (by simp[Region.wanted,ad])];exact .inl (ac l)
  | some p =>
   obtain⟨j,y⟩:=p;rw[ad] at hg;simp only[iG] at hg;split at hg
   case h_2=>cases hg
   rename_i d bc;injection hg with hg
   subst hg;simp only[aS] at l;split at l
   ·rename_i b hb;have f:=t.eq d;rw[hb] at f;have hy:yielded c a.tmps j=some b:=by
     simp only[yielded,bc,Option.bind_some,qZ f]
    have hw:Region.wanted o (yielded c a.tmps)=(b == y):=by
     simp only[Region.wanted,ad,hy];cases b<;>cases y<;>rfl
    rw[hw];cases b<;>simp only[zW] at l
    ·rw[kV hb] at l;cases y
     ·exact .inl (ac l)
     ·exact skip l
    ·rw[kV hb] at l;cases y
     ·exact skip l
     ·exact .inl (ac l)
   ·rename_i vs hb;have f:=t.eq d;rw[hb] at f;have hy:yielded c a.tmps j=none:=by
     simp only[yielded,bc,Option.bind_some];rw[aa9] at f;cases e:a.tmps[d]? with
     | none=>rfl
     | some v=>rw[e] at f;simp only[Option.getD_some,conc] at f;rw[f]
    have hw:Region.wanted o (yielded c a.tmps)=false:=by
     simp only[Region.wanted,ad,hy];rfl
    rw[hw];exact skip l
   ·exact l.elim
theorem Cq {a:Act}{w:World}{d:List ak}{K:dI}:∀(ks:List Nat) {F:aA}{L:Loc}{ρ:Env},St F L w->aC L ρ a->aS P (ks.map ak.frz++d) F L ρ K ->
  ∃F' L' ρ',St F' L' w/\aC L' ρ' a/\Step F L w F' L' w/\aS P d F' L' ρ' K:=by
 intro ks
 induction ks with
 | nil=>intro F L ρ o he h;exact⟨F,L,ρ,o,he,Step.refl _ _ _,h⟩
 | cons k ks n =>
  intro F L ρ o he h;simp only[aaZ,aa3,aS] at h;split at h
  ·rename_i s t cs' r;obtain⟨F1,q,p,m,e,c⟩:=sB o he r;obtain⟨F2,L2,j,f,l,b,h2⟩:=n m e (h F1 q p);exact⟨F2,L2,j,f,l,c.trans b,h2⟩
  ·obtain⟨F1,L1,m,e,c,h1⟩:=qY o he h;obtain⟨F2,L2,j,f,l,b,h2⟩:=n m e h1;exact⟨F2,L2,j,f,l,c.trans b,h2⟩
theorem FR {ss:List ak}{E:Nat->dI}{R N:dI}{F:aA}{L:Loc}{ρ:Env}{a:Act}{w:World}:∀(ks:List Nat),St F L w->aC L ρ a->jz P (Fx ks (.regD ss)) E R N F L ρ ->
  ∃F' L' ρ',St F' L' w/\aC L' ρ' a/\Step F L w F' L' w/\aS P ss F' L' ρ' N
 | [],c,he,h=>⟨F,L,ρ,c,he,Step.refl _ _ _,by simpa only[Fx,jz] using h⟩
 | k::l,c,he,h=>by
  simp only[Fx,jz] at h;have d:aS P ((k::l).map ak.frz++[]) F L ρ (fun F L ρ=>aS P ss F L ρ N):=by simpa only[aaZ,abn] using h
  obtain⟨F1,L1,b,h1,h2,h3,h4⟩:=Cq (k::l) c he d;simp only[aS] at h4;exact⟨F1,L1,b,h1,h2,h3,h4⟩
theorem qH {A:cI}:∀(c:Code) {z:au},low P A c=some z->∀{E:Nat->dI}{R N:dI}{F:aA}{L:Loc}{ρ:Env}{a:Act}{w:World},St F L w->aC L ρ a->a.tmps.size=A.n ->
  jz P z E R N F L ρ->c.wp P (QQ A.n F L w a (dR c) (fun _ _ _=>False) E R N) a w:=by
 intro c
 induction c with
 | skip =>
  intro z b E R N F L ρ a w q he p m;simp only[low,aaO] at b;subst b;exact wp_skip ⟨F,L,ρ,q,he,p,rfl,Step.refl _ _ _,fun _ _=>rfl,m⟩
 | label l =>
  intro z b E R N F L ρ a w q he p m;simp only[low,aaO] at b;subst b;exact wp_label ⟨F,L,ρ,q,he,p,rfl,Step.refl _ _ _,fun _ _=>rfl,m⟩
 | exit id =>
  intro z b E R N F L ρ a w q he p m;simp only[low,aaO] at b;subst b;exact wp_exit ⟨F,L,ρ,q,he,p,rfl,Step.refl _ _ _,fun _ _=>rfl,m⟩
 | ret =>
  intro z b E R N F L ρ a w q he p m;simp only[low,aaO] at b;subst b;exact wp_ret ⟨F,L,ρ,q,he,p,rfl,Step.refl _ _ _,fun _ _=>rfl,m⟩
 | region r db bi =>
  intro z b E R N F L ρ a w q he p m;cases bi with
  | false =>
   simp only[low] at b;split at b
   case h_2=>cases b
   rename_i ss cd;injection b with b;subst b
   simp only[jz] at m;exact wp_region (Ae _ cd q he p m fun a' w' h=>h)
  | true =>
   simp only[low] at b;split at b
   case h_2=>cases b
   rename_i is cl ss h1 h2;split at b
   case h_2 =>
    split at b
    case h_2=>cases b
    injection b with b;subst b
    simp only[jz] at m
   rename_i h0;split at b
   case h_2=>cases b
   rename_i h3;injection b with b;subst b
   obtain⟨F1,L1,aa,ar,av,s,m⟩:=FR _ q he m;have h4:Dm A.ord r=is:=by simp only[Dm,h1]
   rw[h4] at h2;exact x5 h2 h3 ar av p m fun a' w' h=>eJ.after (asg1:=[]) s rfl (fun _ _=>rfl) h (fun _ h=>vv h List.not_mem_nil) (fun _ h=>h)
 | seq x y al ag =>
  intro z b E R N F L ρ a w q he p m;simp only[low] at b;split at b
  case h_2=>cases b
  rename_i h1 h2;injection b with b;subst b
  simp only[jz] at m;refine wp_seq (wp_mono (al h1 q he p m) ?_);intro e o w1 d;cases e with
  | normal =>
   obtain⟨F1,L1,aa,g1,g2,g3,g4,g5,g6,g7⟩:=d;refine wp_mono (ag h2 g1 g2 g3 g7) ?_;intro e2 a2 w2 ao;cases e2<;>first
    | exact eJ.after g5 g4 g6 ao (fun j h=>aaV.2 (.inl h)) (fun j h=>aaV.2 (.inr h))
    | exact ao
    | exact(noPan ao).elim
  | exit id=>exact d.mono fun j h=>aaV.2 (.inl h)
  | ret=>exact d.mono fun j h=>aaV.2 (.inl h)
  | goto l=>exact d
  | panic c=>exact(noPan d).elim
  | outgrown=>exact d
 | cond c x y al ag =>
  intro z b E R N F L ρ a w q he p m;simp only[low] at b;split at b
  case h_2=>cases b
  rename_i h0 h1 h2;injection b with b;subst b
  simp only[jz] at m;split at m
  case h_2=>exact m.elim
  rename_i t ht;have hc:a.eval c=.bool t:=by rw[aH h0 he,cR ht]
  refine wp_cond hc ?_;cases t
  ·simp only[zW] at m;refine wp_mono (ag h2 q he p m) ?_;intro e o w1 d;cases e<;>first
    | exact d.mono fun j h=>aaV.2 (.inr h)
    | exact(noPan d).elim
    | exact d
  ·simp only[zW] at m;refine wp_mono (al h1 q he p m) ?_;intro e o w1 d;cases e<;>first
    | exact d.mono fun j h=>aaV.2 (.inl h)
    | exact(noPan d).elim
    | exact d
 | block id x ih =>
  intro z b E R N F L ρ a w q he p m;simp only[low] at b;split at b
  case h_2=>cases b
  rename_i h1;injection b with b;subst b
  simp only[jz] at m;refine wp_block (wp_mono (ih h1 q he p m) ?_);intro e o w1 d;cases e with
  | exit j =>
   simp only[Exit.inBlock];simp only[QQ] at d
   by_cases hj:j=id
   ·subst hj;have hb:Nat.beq j j=true:=by simp
    rw[hb] at d;rw[fo rfl];exact d
   ·have hb:Nat.beq j id=false:=by
     cases h:Nat.beq j id with
     | true=>exact vv (aaR h) hj
     | false=>rfl
    rw[hb] at d;rw[o5 hj];exact d
  | normal=>exact d
  | ret=>exact d
  | goto l=>exact d
  | panic c=>exact(noPan d).elim
  | outgrown=>exact d
 | loop x ih =>
  intro z b E R N F L ρ a w q he p m;simp only[low] at b;split at b
  case h_2=>cases b
  rename_i sx h1;injection b with b;subst b
  simp only[jz] at m;obtain⟨σ,x0,Inv,ls,lv,Lf,μ,i0,i1,i2,i3,i4⟩:=m
  -- the frame at a loop's ab
  have ab:∀(y:σ) (F1:aA) (L1:Loc) (aa:Env) (o:Act) (w1:World),(∀t,o.tmps.getD t undef=conc L1 (aa t))->(∀j,j∉dR x->o.tmps.getD j undef=a.tmps.getD j undef)->holds ls ((lv y).map .v) aa ->
    aC (Lf y) (puts ls ((lv y).map .v) (qj (dR x) (fun j=>o.tmps.getD j undef) ρ)) o:=by
   intro y F1 L1 aa o w1 bv cb hh;have bc:∀j k off,qj (dR x) (fun j=>o.tmps.getD j undef) ρ j=.own k off->j∉dR x/\ρ j=.own k off:=by
    intro j k off e;simp only[qj] at e;split at e
    ·cases e
    ·rename_i hm;exact⟨fun h=>(by rw[cS.2 h] at hm;cases hm),e⟩
   have bz:∀j ad i,qj (dR x) (fun j=>o.tmps.getD j undef) ρ j=.el ad i->ρ j=.el ad i:=by
    intro j ad i e;simp only[qj] at e;split at e
    ·cases e
    ·exact e
   refine⟨fun j=>?_,fun j k off e=>?_,fun j ad i e=>?_⟩
   ·rcases xT ls (lv y) aa (qj (dR x) (fun j=>o.tmps.getD j undef) ρ) bv hh j with⟨v,h2,h3⟩ | h2
    ·rw[h2,h3];rfl
    ·rw[h2];simp only[qj];split
     ·rfl
     ·rename_i hm;have hj:j∉dR x:=fun h=>by rw[cS.2 h] at hm;cases hm
      rw[cb j hj,he.eq j];cases e:ρ j with
      | v u=>rfl
      | el u i=>rfl
      | own k off =>
       obtain⟨g,ty,cs,hg⟩:=he.own j k off e;obtain⟨cs',aw⟩:=q9 (i3 y) hg;simp only[conc,hg,aw]
   ·rcases oZ ls (lv y) (qj (dR x) (fun j=>o.tmps.getD j undef) ρ) j with h2 | ⟨v,h2⟩
    ·rw[h2] at e;obtain⟨_,e'⟩:=bc j k off e;obtain⟨g,ty,cs,hg⟩:=he.own j k off e';obtain⟨cs',aw⟩:=q9 (i3 y) hg;exact⟨g,ty,cs',aw⟩
    ·rw[h2] at e;cases e
   ·rcases oZ ls (lv y) (qj (dR x) (fun j=>o.tmps.getD j undef) ρ) j with h2 | ⟨v,h2⟩
    ·rw[h2] at e;exact he.el j ad i (bz j ad i e)
    ·rw[h2] at e;cases e
  refine uU (fun n o w1=>∃(y:σ) (F1:aA),n=μ y/\F.le F1/\Inv y F1/\St F1 (Lf y) w1/\o.tmps.size=A.n/\o.defers=a.defers/\Step F L w F1 (Lf y) w1/\(∀j,j∉dR x->o.tmps.getD j undef=a.tmps.getD j undef) /\
   aC (Lf y) (puts ls ((lv y).map .v) (qj (dR x) (fun j=>o.tmps.getD j undef) ρ)) o) ?_ ?_
  ·exact⟨_,x0,F,rfl,aA.le_refl F,i0,q.gives i2,p,rfl,sD i2,fun _ _=>rfl,ab x0 F L ρ a w he.eq (fun _ _=>rfl) i1⟩
  ·rintro n o w1 ⟨y,F1,rfl,be,bk,ar,ce,az,s,ac,av⟩;refine wp_mono (ih h1 ar av ce (i4 y F1 _ be bk)) ?_;intro e a2 w2 d;cases e with
   | normal =>
    obtain⟨F2,L2,cc,g1,g2,g3,g4,g5,g6,⟨y',k1,k2,k3,k4⟩⟩:=d;have am:∀j,j∉dR x->a2.tmps.getD j undef=a.tmps.getD j undef:=fun j hj=>by rw[g6 j hj,ac j hj]
    exact⟨μ y',k4,y',F2,rfl,aA.le_trans be g5.le,k1,g1.gives k3,g3,g4.trans az,(s.trans g5).trans (sD k3),am,ab y' F2 L2 cc a2 w2 g2.eq am k2⟩
   | exit j=>exact eJ.after s az ac d (fun j h=>h) (fun j h=>h)
   | ret=>exact eJ.after s az ac d (fun j h=>h) (fun j h=>h)
   | goto l=>exact d
   | panic c=>exact(noPan d).elim
   | outgrown=>exact d
 | rangeFunc f ps x y al ag=>intro z b;simp only[low] at b;cases b
 | scope x ih =>
  intro z b E R N F L ρ a w q he p m;simp only[low] at b;refine wp_scope_straight (wp_mono (ih b q he p m) ?_);intro e o w1 d;cases e<;>exact d
 | goto l=>intro z b;simp only[low] at b;cases b
 | refuse da=>intro z b;simp only[low] at b;cases b
end
end Go.Fr
namespace Go.Fr.T
open Go Go.RowKit Go.Fr
theorem KR:∀{a:List Own}{ns:List Nat}{i:Nat}{o:Own},C4 a ns->a[i]?=some o->∃g t cs,o=.box g t cs
 | [],ns,i,o,h,e=>by simp at e
 | b::a,[],i,o,h,e=>h.elim
 | b::a,n::ns,i,o,h,e=>by
  cases i with
  | zero =>
   simp only[aa4,aaO] at e;subst e;cases b with
   | row=>exact h.1.elim
   | box g t cs=>exact⟨g,t,cs,rfl⟩
  | succ i=>exact KR h.2 (by simpa using e)
def I0 (n:Nat):Env:=fun j=>match Nat.blt j n with | true=>.own (1000+j) 0 | false=>.v undef
theorem N0 {a:List Own}{ns:List Nat}{m:Nat}(h:C4 a ns):aC (inp a) (I0 a.length) {tmps:=(a.map lV).toArray++Array.replicate m undef,defers:=[]}:=by
 have f:∀j,j<a.length->∃g t cs,a[j]?=some (.box g t cs):=fun j d=>by
  obtain⟨g,t,cs,e⟩:=KR h (aaQ d);exact⟨g,t,cs,by rw[aaQ d,e]⟩
 have hi:∀j,(inp a).get (1000+j)=a[j]?:=fun j=>by rw[aI,fo (by omega),show 1000+j-1000=j by omega]
 refine⟨fun j=>?_,fun j k off e=>?_,fun j l i e=>?_⟩
 ·simp only[I0,aa9];cases hb:Nat.blt j a.length with
  | true =>
   have b:j<a.length:=by simpa using hb
   obtain⟨g,t,cs,e⟩:=f j b;rw[Array.getElem?_append_left (by simpa using b)];simp only[conc,hi,e,List.getElem?_toArray,aa6,abt,Option.getD_some,lV]
  | false =>
   have c:¬j<a.length:=fun h=>by rw[(Nat.blt_eq ..).mpr h] at hb;cases hb
   rw[Array.getElem?_append_right (by simpa using c)];simp only[Array.getElem?_replicate,conc];split<;>rfl
 ·simp only[I0] at e;split at e
  ·rename_i hb;have b:j<a.length:=by simpa using hb
   injection e with e1 e2
   subst e1;obtain⟨g,t,cs,e⟩:=f j b;exact⟨g,t,cs,by rw[hi,e]⟩
  ·cases e
 ·simp only[I0] at e;split at e<;>cases e
theorem KS {P:Program}{H d r0:Nat}{fn:Func}{o:Oper}{rest:Code}{A:cI}{sc:au}{PS:Value->Prop}{ns:List Nat}{out:Value->List (List Value)}
  (hf:P.funcs[H]?=some fn) (hb:fn.body=some (.seq (.region r0 #[o] false) rest)) (hname:(fn.name == "runtime.NumGoroutine")=false) (ho:o.op=.call {callee:=.builtin .recover,args:=#[],argTypes:=#[]}) (hd:o.dst=some d) (hg:o.guard=none)
  (hnt:fn.ntmps=A.n) (hres:fn.results=#[]) (hl:low P A rest=some sc) (hdn:d<A.n) (hns:ns.length<=A.n)
  (hidle:∀(bs:List Own) (w:World),C4 bs ns->CallsD P H (bs.map lV).toArray .returning w fun e u' w'=>e=.returned (.tuple #[])/\u'=.returning/\w'=w)
  (hcat:∀(F:aA) (bs:List Own) (v:Value),PS v->C4 bs ns->jz P sc (fun _ _ _ _=>False) (fun _ L' _=>L'.sub (List.range' 1000 bs.length)=some (List.zipWith qb bs (out v))) (fun _ L' _=>L'.sub (List.range' 1000 bs.length)=some (List.zipWith qb bs (out v))) F (inp bs) (put (some d) (.v v) (I0 bs.length))) :
  qG P H PS ns out:=by
 refine⟨fun cap w=>?_,hidle,fun F bs v older w hv hbx hs=>?_⟩
 ·simp[invoke];rw[iQ ⟨fn,hf,by rw[hb];rfl,hname⟩]
 refine callsD_of_wpS hf hb fun c₀ cs hu=>?_;have hlen:=xh hbx;have he0:=N0 (m:=fn.ntmps-(bs.map lV).toArray.size) hbx;generalize htm:(bs.map lV).toArray++Array.replicate (fn.ntmps-(bs.map lV).toArray.size) undef=tm at he0 ⊢;have hsz:tm.size=A.n:=by
  rw[<-htm,<-hnt];simp;omega
 refine wpS_seq (wpS_region ?_);simp[wpOpsS,go_sem,recoverD,hu,ho,hd,hg,Region.wanted,Exit.thenS,hsz,hdn];have he1:=he0.put (L':=inp bs) (d:=some d) (v:=v) (x:=.v v) (fun k e=>by injection e with e;subst e;simpa[hsz] using hdn) rfl cB eZ (fun k g ty cs e=>⟨cs,e⟩);refine wpS_of_wp (wp_mono (qH rest hl hs ⟨he1.eq,he1.own,he1.el⟩ (by simpa using hsz) (hcat F bs v hv hbx)) ?_);have fin:∀(a':Act) (w':World),eJ A.n F (inp bs) w {tmps:=tm.setIfInBounds d v,defers:=[]} (dR rest) (fun _ L' _=>L'.sub (List.range' 1000 bs.length)=some (List.zipWith qb bs (out v))) a' w' ->
   a'.defers=[]/\∃u',({c₀ with mode:=FrameMode.panicking ({v,recovered:=true}::older)}::cs:List Frame)={c₀ with mode:=u'}::cs/\∃x,(results fn a'.tmps).run P w'=.ok x w' /\
    ((Ending.returned x=.returned (.tuple #[])/\u'=.panicking ({v,recovered:=true}::older))/\∃F',St F' (inp (List.zipWith qb bs (out v))) w'/\Step F (inp bs) w F' (inp (List.zipWith qb bs (out v))) w'):=by
  rintro a' w' ⟨F',L',ρ',g1,g2,g3,g4,g5,g6,k1⟩;obtain⟨e1,e2⟩:=cE k1;refine⟨g4,_,rfl,.tuple #[],by simp[results,hres],⟨rfl,rfl⟩,F',g1.handed k1 List.nodup_range',?_⟩;refine⟨g5.le,g5.os,g5.tape,g5.output,g5.size,g5.same,g5.frz,fun b hb=>g5.own b ?_⟩;obtain⟨j,p,e,hb⟩:=hb;rw[aI] at e;split at e
  case isFalse=>cases e
  have hlt:j-1000<(List.zipWith qb bs (out v)).length:=(aaT.1 e).1;have hk:(List.range' 1000 bs.length)[j-1000]?=some ((List.range' 1000 bs.length)[j-1000]'(by omega)):=aaQ (by omega);exact⟨_,p,by rw[e2 _ _ hk];exact e,hb⟩
 intro e a' w' hq;cases e with
 | normal =>
  obtain⟨k1,u',k2,x,k3,⟨k4,k5⟩,k6⟩:=fin a' w' hq;exact⟨k1,u',k2,x,k3,k4,k5,k6⟩
 | ret =>
  obtain⟨k1,u',k2,x,k3,⟨k4,k5⟩,k6⟩:=fin a' w' hq;exact⟨k1,u',k2,x,k3,k4,k5,k6⟩
 | exit j=>obtain⟨F',L',ρ',_,_,_,_,_,_,h⟩:=hq;exact h.elim
 | goto l=>exact hq.elim
 | outgrown=>exact hq.elim
 | panic ch=>obtain⟨v,hch,hp⟩:=hq;obtain⟨F',L',_,_,_,_,_,hp⟩:=hp;exact hp.elim
def Q7:Op->Bool
 | .call {callee:=.builtin .recover,args:=⟨[]⟩,argTypes:=⟨[]⟩}=>true
 | _=>false
def Cr (P:Program) (A:cI) (fn:Func):Option (au×Nat) :=
 match fn.body with
 | some (.seq (.region _ ⟨[o]⟩ false) rest)=>match Q7 o.op,o.dst,o.guard,low P A rest,fn.results with
  | true,some d,none,some sc,⟨[]⟩=>match fn.name == "runtime.NumGoroutine",Nat.beq fn.ntmps A.n&&Nat.blt d A.n with
   | false,true=>some (sc,d)
   | _,_=>none
  | _,_,_,_,_=>none
 | _=>none
theorem wh {P:Program}{H d:Nat}{fn:Func}{A:cI}{k:au}{PS:Value->Prop}{ns:List Nat}{out:Value->List (List Value)}(hf:P.funcs[H]?=some fn) (a:Cr P A fn=some (k,d)) (h:Nat.ble ns.length A.n=true)
  (c:∀(b:List Own) (w:World),C4 b ns->CallsD P H (b.map lV).toArray .returning w fun e l w'=>e=.returned (.tuple #[])/\l=.returning/\w'=w)
  (f:∀(F:aA) (b:List Own) (v:Value),PS v->C4 b ns->jz P k (fun _ _ _ _=>False) (fun _ L' _=>L'.sub (List.range' 1000 b.length)=some (List.zipWith qb b (out v))) (fun _ L' _=>L'.sub (List.range' 1000 b.length)=some (List.zipWith qb b (out v))) F (inp b) (put (some d) (.v v) (I0 b.length))) :
  qG P H PS ns out:=by
 unfold Cr at a;split at a
 case h_2=>cases a
 rename_i r o j hb;split at a
 case h_2=>cases a
 rename_i q m h1 h2 h3 h4 h5;split at a
 case h_2=>cases a
 rename_i h6 h7;simp only[aaO,Prod.mk.injEq] at a;obtain⟨rfl,rfl⟩:=a;simp only[aaN] at h7;obtain⟨h7,h8⟩:=h7;have p:o.op=.call {callee:=.builtin .recover,args:=#[],argTypes:=#[]}:=by
  unfold Q7 at h1;split at h1
  ·assumption
  ·cases h1
 exact KS hf hb h6 p h2 h3 (aaR h7) h5 h4 (by simpa using h8) (abb h) c f
end Go.Fr.T
namespace Go.Fr
open Go Go.RowKit
mutual
def G.bulk:G->Nat
 | .int _ _=>1
 | .bool _=>1
 | .str s=>s.size+1
 | .sl _ l=>G.aag l+1
 | .st l=>G.aag l+1
def G.aag:List G->Nat
 | []=>0
 | x::l=>G.bulk x+G.aag l
end
mutual
def iL {H:Type}:DataW H->Nat
 | .lit (.string bytes)=>bytes.length+1
 | .lit _=>1
 | .nil=>1
 | .ptr d=>iL d+1
 | .slice elems spare=>eL elems+eL spare+1
 | .agg parts=>eL parts+1
 | .iface _ d=>iL d+1
 | .map entries=>lX entries+1
 | .held _=>1
def eL {H:Type}:List (DataW H)->Nat
 | []=>0
 | d::r=>iL d+eL r
def lX {H:Type}:List (Lit×DataW H)->Nat
 | []=>0
 | x::r=>sO x+lX r
def sO {H:Type}:Lit×DataW H->Nat
 | (.string bytes,d)=>bytes.length+iL d+1
 | (_,d)=>iL d+1
end
def Ok (P:Program):Nat->TypeId->G->Prop
 | 0,_,_=>False
 | n+1,t,g=>match P.underlying t with
  | some .bool=>∃b,g=.bool b
  | some (.int k)=>∃x,g=.int k x/\(Lit.int k x).wf=true
  | some .string=>∃s,g=.str s
  | some (.slice e)=>∃l,g=.sl (P.cellsOf e) l/\∀x∈l,Ok P n e x
  | some (.struct a)=>∃l,g=.st l/\l.length=a.size/\∀(i:Nat) (f:Field) (x:G),a[i]?=some f->l[i]?=some x->Ok P n f.type x
  | _=>False
def y9 (P:Program):Nat->List Field->Nat->Bool
 | o,[],n=>Nat.beq o n
 | o,f::a,n=>Nat.beq f.offset o&&y9 P (o+P.cellsOf f.type) a n
def Lp (P:Program) (S:List TypeId) (t:TypeId):Bool :=
 match P.underlying t with
 | some .bool=>true
 | some (.int _)=>true
 | some .string=>true
 | some (.slice e)=>fM S e&&Nat.blt 0 (P.cellsOf e)
 | some (.struct a)=>y9 P 0 a.toList (P.cellsOf t)&&a.toList.all fun f=>fM S f.type
 | _=>false
def flat (P:Program) (S:List TypeId):Bool:=S.all (Lp P S)
theorem wj {Q:Nat->G->Prop}:∀(n:Nat),(∀i,i<n->∃g,Q i g)->∃l:List G,l.length=n/\∀i g,l[i]?=some g->Q i g
 | 0,_=>⟨[],rfl,fun i g h=>by simp at h⟩
 | n+1,h=>by
  obtain⟨l,h1,h2⟩:=wj n (fun i hi=>h i (by omega));obtain⟨g,b⟩:=h n (by omega);refine⟨l++[g],by simp[h1],fun i x a=>?_⟩
  by_cases hi:i<l.length
  ·rw[abH hi] at a;exact h2 i x a
  ·rw[abI (by omega)] at a;have:i-l.length=0:=by
    cases e:i-l.length with
    | zero=>rfl
    | succ k=>rw[e] at a;simp at a
   rw[this] at a;simp only[aa4,aaO] at a;subst a;have:i=n:=by omega
   subst this;exact b
theorem za {H:Type}:∀{l:List G}{ds:List (DataW H)},l.length=ds.length->(∀(i:Nat) g d,l[i]?=some g->ds[i]?=some d->g.bulk<=iL d)->G.aag l<=eL ds
 | [],_,_,_=>by simp[G.aag]
 | x::l,[],h,_=>by simp at h
 | x::l,d::ds,h,hb=>by
  simp only[G.aag,eL];have h1:=hb 0 x d (by simp) (by simp);have h2:=za (l:=l) (ds:=ds) (by simpa using h) (fun i g a b hd=>hb (i+1) g a (by simpa using b) (by simpa using hd));omega
section
variable {H:Type}{enc:TypeId×Value->H}{P:Program}{w:World}{base:Nat}{spare:Nat->Bool}{held:Bool}
def qI (w:World):aA:=fun b=>w.heap[b]?
theorem Bp {a:Addr}{n:Nat}{cs:List Value}(h:w.cells? base a n=some cs) (p:0<n):cs.length=n/\dO (qI w) (some a) 0 cs:=by
 obtain⟨_,f,l⟩:=World.cells?_some h;refine⟨f,?_⟩;have h0:=l 0 p;rw[aaQ (by omega)] at h0;have d:a.spot=none:=by simpa[Addr.add] using World.cell?_spot h0
 have k:∃j t fr,w.heap[a.block]?=some (.cells j t fr):=by
  simp only[World.cell?,Addr.add] at h0;split at h0
  ·rename_i c t fr e;exact⟨c,t,fr,e⟩
  ·cases h0
 obtain⟨j,t,fr,hb⟩:=k;refine⟨a,j,t,fr,rfl,hb,d,fun i v m=>?_⟩;have hi:i<n:=by rw[<-f];exact(aaT.1 m).1
 have:=l i hi;obtain⟨b,o,q⟩:=a;simp only at d;subst d;rw[m,dw] at this;simp only[World.cell?] at this;simp only at hb;rw[hb] at this;simpa using this
theorem Cz {F:aA}{a:Addr}{n:Nat}{cs:List Value}(d:a.spot=none) (h:dO F (some (a.add n)) 0 cs):dO F (some a) n cs:=by
 obtain⟨b,o,m⟩:=a;simp only at d;subst d;rw[dw] at h;obtain⟨l,c,t,fr,e,hb,k,f⟩:=h;injection e with e
 subst e;exact⟨_,c,t,fr,rfl,hb,rfl,fun i v j=>by have:=f i v j;simpa[Nat.add_assoc] using this⟩
theorem D9 {F:aA}{a:Addr}{cs:List Value}(h:dO F (some a) 0 cs):a.spot=none:=by
 obtain⟨f,c,t,fr,e,hb,b,d⟩:=h;injection e with e
 subst e;exact b
theorem Pz {S:List TypeId}(hS:flat P S=true):∀(q:Nat) (t:TypeId) (cs:List Value) (x:DataW H×List MemPlace),t∈S->DataW.trod enc P w base spare held q t cs=some x ->
  ∃g,Ok P q t g/\Rd (qI w) g cs/\g.bulk<=iL x.1:=by
 intro q
 induction q with
 | zero=>intro t cs x _ h;simp[DataW.trod] at h
 | succ n ih =>
  intro t cs x ht h;have hf:=aa1.1 hS t ht;simp only[Lp] at hf;split at hf
  ·rename_i p;obtain⟨b,rfl,rfl⟩:=DataW.trod_bool p h;exact⟨.bool b,by simp[Ok,p],by simp[Rd],by simp[G.bulk,iL]⟩
  ·rename_i k p;obtain⟨m,rfl,rfl,hw⟩:=DataW.trod_int p h;exact⟨.int k m,by simp[Ok,p,hw],by simp[Rd,hw],by simp[G.bulk,iL]⟩
  ·rename_i p;obtain⟨s,rfl,rfl,hw⟩:=DataW.trod_string p h;exact⟨.str s,by simp[Ok,p],by simp[Rd],by simp[G.bulk,iL]⟩
  ·rename_i e p;simp only[aaN] at hf;have he:e∈S:=cS.1 hf.1;have v:0<P.cellsOf e:=by simpa using hf.2
   rcases DataW.trod_slice p h with⟨rfl,rfl⟩ | ⟨a,len,cap,elems,bl,m,e1,rfl,rfl,hb,hl,hm,aa,ao,_,_⟩
   ·refine⟨.sl (P.cellsOf e) [],by simp[Ok,p],?_,by simp[G.bulk,G.aag,iL]⟩;rw[QX];exact⟨none,0,rfl,by simp,by simp,fun _=>⟨rfl,rfl⟩,fun j x hx=>by simp at hx⟩
   ·obtain rfl:m=n:=by omega
    have ac:0<len->a.spot=none:=by
     intro h0;have h1:=ao 0 h0;rw[aaQ (by omega)] at h1;obtain⟨es,h2,h3⟩:=Option.bind_eq_some_iff.1 h1;have:=D9 (Bp h2 v).2;simpa[Addr.add] using this
    obtain⟨l,aw,ae⟩:=wj (Q:=fun i g=>Ok P m e g/\(∃es,es.length=P.cellsOf e/\dO (qI w) (some a) (i*P.cellsOf e) es/\Rd (qI w) g es)/\∀y,elems[i]?=some y->g.bulk<=iL y.1) len (by
     intro i hi;have h1:=ao i hi;rw[aaQ (by omega)] at h1;obtain⟨es,h2,h3⟩:=Option.bind_eq_some_iff.1 h1;obtain⟨g,g1,g2,g3⟩:=ih e es _ he h3;obtain⟨g4,g5⟩:=Bp h2 v;refine⟨g,g1,⟨es,g4,Cz (ac (by omega)) g5,g2⟩,fun y r=>?_⟩;rw[aaQ (by omega)] at r;injection r with r
     subst r;exact g3)
    refine⟨.sl (P.cellsOf e) l,?_,?_,?_⟩
    ·simp only[Ok,p];refine⟨l,rfl,fun x hx=>?_⟩;obtain⟨i,hi⟩:=abh.1 hx;exact(ae i x hi).1
    ·rw[QX];exact⟨some a,cap,by rw[aw],by omega,hm,fun e=>(by cases e),fun j x hx=>(ae j x hx).2.1⟩
    ·simp only[G.bulk,iL];have:=za (l:=l) (ds:=elems.map (·.1)) (by simp[aw,aa]) (fun i g d hg hd=>by
      simp only[aa6,Option.map_eq_some_iff] at hd;obtain⟨y,r,rfl⟩:=hd;exact(ae i g hg).2.2 y r)
     omega
  ·rename_i fs p;simp only[aaN] at hf;obtain⟨ad,av⟩:=hf;obtain⟨xs,m,e1,rfl,aa,be,u⟩:=DataW.trod_struct p h;obtain rfl:m=n:=by omega
   have key:∀(fl:List Field) (z:List (DataW H×List MemPlace)) (o:Nat),y9 P o fl (P.cellsOf t)=true->z.length=fl.length->(∀f∈fl,f.type∈S) ->
     (∀(i:Nat) f,fl[i]?=some f->DataW.trod enc P w base spare held m f.type ((cs.drop f.offset).take (P.cellsOf f.type))=z[i]?) ->
     ∃l,l.length=fl.length/\(∀(i:Nat) f g,fl[i]?=some f->l[i]?=some g->Ok P m f.type g)/\mG (qI w) l (cs.drop o)/\G.aag l<=eL (z.map (·.1)):=by
    intro fl
    induction fl with
    | nil =>
     intro z o hc _ _ _;simp only[y9] at hc;have:=aaR hc;refine⟨[],rfl,fun i f g h=>by simp at h,?_,by simp[G.aag]⟩;simp only[mG];rw[List.drop_eq_nil_iff];omega
    | cons f fl aE =>
     intro z o hc r ab u;simp only[y9,aaN] at hc;have ar:=aaR hc.1
     match z,r with
     | y::z,r =>
      have h0:=u 0 f (by simp);simp only[aa4] at h0;obtain⟨g,g1,g2,g3⟩:=ih f.type _ _ (ab f (by simp)) h0;obtain⟨l,l1,l2,l3,l4⟩:=aE z (o+P.cellsOf f.type) hc.2 (by simpa using r) (fun f' c=>ab f' (by simp[c])) (fun i f' c=>by
       have:=u (i+1) f' (by simpa using c);simpa using this)
      refine⟨g::l,by simp[l1],fun i f' g' c ag=>?_,?_,?_⟩
      ·cases i with
       | zero=>simp only[aa4,aaO] at c ag;subst c;subst ag;exact g1
       | succ i=>exact l2 i f' g' (by simpa using c) (by simpa using ag)
      ·simp only[mG];refine⟨(cs.drop o).take (P.cellsOf f.type),cs.drop (o+P.cellsOf f.type),?_,by rw[<-ar];exact g2,l3⟩;rw[<-List.drop_drop,List.take_append_drop]
      ·simp only[G.aag,aaZ,eL];omega
   obtain⟨l,l1,l2,l3,l4⟩:=key fs.toList xs 0 ad (by simp[be]) (fun f hf=>cS.1 (aa1.1 av f hf)) (fun i f hi=>u i f (by simpa using hi));refine⟨.st l,?_,?_,?_⟩
   ·simp only[Ok,p];exact⟨l,rfl,by simpa using l1,fun i f x hi hx=>l2 i f x (by simpa using hi) hx⟩
   ·simp only[Rd];simpa using l3
   ·simp only[G.bulk,iL];omega
  ·cases hf
end
namespace Api
abbrev I (n:Int):G:=.int .i64 n
inductive Ty where
 | mk (kind id:Int) (args:List Ty)
 deriving Inhabited
def Ty.kind:Ty->Int | .mk k _ _=>k
def Ty.id:Ty->Int | .mk _ i _=>i
def Ty.args:Ty->List Ty | .mk _ _ l=>l
mutual
def Ty.g:Ty->G
 | .mk k i l=>.st [I k,I i,.sl 3 (Ty.gs l)]
def Ty.gs:List Ty->List G
 | []=>[]
 | t::l=>t.g::Ty.gs l
end
theorem Ty.aax:∀l:List Ty,Ty.gs l=l.map Ty.g
 | []=>rfl
 | t::l=>by simp[Ty.gs,Ty.aax l]
structure aT where
 param:Int
 trait:Int
def aT.g (b:aT):G:=.st [I b.param,I b.trait]
structure Term where
 kind:Int
 a:Int
 targets:List Int
def Term.g (x:Term):G:=.st [I x.kind,I x.a,.sl 1 (x.targets.map I)]
structure PA where
 op:Int
 dst:Int
 a:Int
 b:Int
 n:Int
 args:List Int
 types:List Ty
def PA.g (x:PA):G:=.st [I x.op,I x.dst,I x.a,I x.b,I x.n,.sl 1 (x.args.map I),.sl 3 (x.types.map Ty.g)]
structure Block where
 code:List PA
 fin:Term
def Block.g (x:Block):G:=.st [.sl 7 (x.code.map PA.g),x.fin.g]
structure PG where
 name:ByteArray
 module:Int
 params:Int
 bounds:List aT
 arity:Int
 result:Ty
 locals:List Ty
 blocks:List Block
 ties:List Int
def PG.g (f:PG):G:=.st [.str f.name,I f.module,I f.params,.sl 2 (f.bounds.map aT.g),I f.arity,f.result.g,.sl 3 (f.locals.map Ty.g),.sl 4 (f.blocks.map Block.g),.sl 1 (f.ties.map I)]
structure Variant where
 name:ByteArray
 fields:List Ty
def Variant.g (x:Variant):G:=.st [.str x.name,.sl 3 (x.fields.map Ty.g)]
structure Data where
 name:ByteArray
 module:Int
 params:Int
 variants:List Variant
 drop:Int
def Data.g (d:Data):G:=.st [.str d.name,I d.module,I d.params,.sl 2 (d.variants.map Variant.g),I d.drop]
structure Impl where
 trait:Int
 module:Int
 params:Int
 bounds:List aT
 type:Ty
 func:Int
def Impl.g (x:Impl):G:=.st [I x.trait,I x.module,I x.params,.sl 2 (x.bounds.map aT.g),x.type.g,I x.func]
structure Prog where
 modules:List ByteArray
 uses:List (List Int)
 datas:List Data
 traits:List ByteArray
 homes:List Int
 impls:List Impl
 funcs:List PG
 main:Int
def Prog.g (p:Prog):G:=.st [.sl 1 (p.modules.map .str),.sl 1 (p.uses.map fun l=>.sl 1 (l.map I)),.sl 5 (p.datas.map Data.g),.sl 1 (p.traits.map .str),.sl 1 (p.homes.map I),.sl 8 (p.impls.map Impl.g),.sl 11 (p.funcs.map PG.g),I p.main]
section
variable {F:aA}{cs:List Value}
end
end Api
end Go.Fr
namespace Go.Fr
open Go Go.RowKit
namespace Api
section
variable {P:Program}
def SL (P:Program) (n:Nat):List TypeId->List G->Prop
 | [],[]=>True
 | t::ts,x::l=>Ok P n t x/\SL P n ts l
 | _,_=>False
theorem Ls {n:Nat}:∀{fl:List Field}{l:List G},l.length=fl.length->(∀(i:Nat) (f:Field) (x:G),fl[i]?=some f->l[i]?=some x->Ok P n f.type x)->SL P n (fl.map (·.type)) l
 | [],[],_,_=>trivial
 | [],x::l,h,_=>by simp at h
 | f::fl,[],h,_=>by simp at h
 | f::fl,x::l,h,a=>⟨a 0 f x (by simp) (by simp),Ls (by simpa using h) fun i c b hf d=>a (i+1) c b (by simpa using hf) (by simpa using d)⟩
theorem ok_int {n:Nat}{t:TypeId}{g:G}{k:IntKind}(h:P.underlying t=some (.int k)) (a:Ok P n t g):∃x,g=.int k x:=by
 cases n with
 | zero=>exact a.elim
 | succ n=>simp only[Ok,h] at a;obtain⟨x,h1,_⟩:=a;exact⟨x,h1⟩
theorem PI {n:Nat}{t:TypeId}{g:G}(h:P.underlying t=some .bool) (a:Ok P n t g):∃x,g=.bool x:=by
 cases n with
 | zero=>exact a.elim
 | succ n=>simp only[Ok,h] at a;exact a
theorem SM {n:Nat}{t:TypeId}{g:G}(h:P.underlying t=some .string) (a:Ok P n t g):∃x,g=.str x:=by
 cases n with
 | zero=>exact a.elim
 | succ n=>simp only[Ok,h] at a;exact a
theorem Hq {b:Type}{f:b->G}:∀{l:List G},(∀x∈l,∃y,x=f y)->∃a:List b,l=a.map f
 | [],_=>⟨[],rfl⟩
 | x::l,h=>by
  obtain⟨y,rfl⟩:=h x (by simp);obtain⟨a,rfl⟩:=Hq (l:=l) (fun z c=>h z (by simp[c]));exact⟨y::a,rfl⟩
theorem SN {n:Nat}{t e:TypeId}{g:G}{sz:Nat}{c:Type}{f:c->G}(h:P.underlying t=some (.slice e)) (b:P.cellsOf e=sz) (a:Ok P n t g) (he:∀m x,m<n->Ok P m e x->∃y,x=f y):∃l:List c,g=.sl sz (l.map f):=by
 cases n with
 | zero=>exact a.elim
 | succ n =>
  simp only[Ok,h] at a;obtain⟨l,rfl,d⟩:=a;obtain⟨j,rfl⟩:=Hq (f:=f) (fun x k=>he n x (by omega) (d x k));exact⟨j,by rw[b]⟩
theorem Uv {n:Nat}{t:TypeId}{g:G}{c:Array Field}{ts:List TypeId}(h:P.underlying t=some (.struct c)) (b:c.toList.map (·.type)=ts) (a:Ok P n t g):∃m l,m<n/\g=.st l/\SL P m ts l:=by
 cases n with
 | zero=>exact a.elim
 | succ n =>
  simp only[Ok,h] at a;obtain⟨l,rfl,d,j⟩:=a;subst b;exact⟨n,l,by omega,rfl,Ls (by simpa using d) fun i f x hf e=>j i f x (by simpa using hf) e⟩
def ug (P:Program) (t:TypeId) (ts:List TypeId):Bool:=match P.underlying t with | some (.struct fs)=>decide (fs.toList.map (·.type)=ts) | _=>false
def sP (P:Program) (t e sz:Nat):Bool:=match P.underlying t with | some (.slice e')=>Nat.beq e' e&&Nat.beq (P.cellsOf e) sz | _=>false
def Wc (P:Program) (t:TypeId):Bool:=match P.underlying t with | some (.int .i64)=>true | _=>false
def W5 (P:Program) (t:TypeId):Bool:=match P.underlying t with | some .string=>true | _=>false
theorem jW {t:TypeId}{ts:List TypeId}(h:ug P t ts=true) {n:Nat}{g:G}(b:Ok P n t g):∃m l,m<n/\g=.st l/\SL P m ts l:=by
 simp only[ug] at h;split at h
 ·rename_i c a;exact Uv a (by simpa using h) b
 ·cases h
theorem eH {t e sz:Nat}(h:sP P t e sz=true) {n:Nat}{g:G}{a:Type}{f:a->G}(c:Ok P n t g) (he:∀m x,m<n->Ok P m e x->∃y,x=f y):∃l:List a,g=.sl sz (l.map f):=by
 simp only[sP] at h;split at h
 ·rename_i d b;simp only[aaN] at h;have h1:=aaR h.1;have h2:=aaR h.2;subst h1;exact SN b h2 c he
 ·cases h
theorem FX {t:TypeId}(h:Wc P t=true) {n:Nat}{g:G}(b:Ok P n t g):∃x,g=I x:=by
 simp only[Wc] at h;split at h
 ·rename_i a;exact ok_int a b
 ·cases h
theorem zb {t:TypeId}(h:W5 P t=true) {n:Nat}{g:G}(b:Ok P n t g):∃x,g=.str x:=by
 simp only[W5] at h;split at h
 ·rename_i a;exact SM a b
 ·cases h
theorem ze {n:Nat}{b:TypeId}{l:List G}(h:SL P n [b] l):∃a,l=[a]/\Ok P n b a:=by
 match l,h with
 | [a],h=>exact⟨a,rfl,h.1⟩
theorem aX {n:Nat}{b:TypeId}{ts:List TypeId}{l:List G}(h:SL P n (b::ts) l):∃a r,l=a::r/\Ok P n b a/\SL P n ts r:=by
 match l,h with
 | a::r,h=>exact⟨a,r,rfl,h.1,h.2⟩
theorem Uw {t e ts:TypeId}(hi:Wc P e=true) (h:ug P t [e,e,ts]=true) (v:sP P ts t 3=true):∀(n:Nat) (g:G),Ok P n t g->∃x:Ty,g=x.g:=by
 intro n
 induction n using Nat.strongRecOn with
 | _ n q =>
  intro g j;obtain⟨m,l,w,rfl,d⟩:=jW h j;obtain⟨a,l,rfl,o,d⟩:=aX d;obtain⟨b,l,rfl,hb,d⟩:=aX d;obtain⟨c,rfl,p⟩:=ze d;obtain⟨k,rfl⟩:=FX hi o;obtain⟨i,rfl⟩:=FX hi hb;obtain⟨xs,rfl⟩:=eH v p (f:=Ty.g) (fun u x s r=>q u (by omega) x r);exact⟨.mk k i xs,by simp[Ty.g,Ty.aax]⟩
structure dP where
 int:TypeId
 str:TypeId
 ints:TypeId
 strs:TypeId
 intss:TypeId
 ty:TypeId
 tys:TypeId
 bound:TypeId
 bounds:TypeId
 term:TypeId
 ins:TypeId
 inss:TypeId
 block:TypeId
 blocks:TypeId
 func:TypeId
 funcs:TypeId
 variant:TypeId
 variants:TypeId
 data:TypeId
 datas:TypeId
 impl:TypeId
 impls:TypeId
 prog:TypeId
def dP.tyOk (P:Program) (d:dP):Bool:=Wc P d.int&&ug P d.ty [d.int,d.int,d.tys]&&sP P d.tys d.ty 3
def dP.aak (P:Program) (d:dP):Bool:=d.tyOk P&&W5 P d.str&&sP P d.ints d.int 1&&ug P d.bound [d.int,d.int]&&sP P d.bounds d.bound 2&&ug P d.term [d.int,d.int,d.ints] &&
 ug P d.ins [d.int,d.int,d.int,d.int,d.int,d.ints,d.tys]&&sP P d.inss d.ins 7&&ug P d.block [d.inss,d.term]&&sP P d.blocks d.block 4 &&
 ug P d.func [d.str,d.int,d.int,d.bounds,d.int,d.ty,d.tys,d.blocks,d.ints]
def dP.aam (P:Program) (d:dP):Bool:=d.aak P&&sP P d.strs d.str 1&&sP P d.intss d.ints 1&&ug P d.variant [d.str,d.tys]&&sP P d.variants d.variant 2&&ug P d.data [d.str,d.int,d.int,d.variants,d.int] &&
 sP P d.datas d.data 5&&ug P d.impl [d.int,d.int,d.int,d.bounds,d.ty,d.int]&&sP P d.impls d.impl 8&&sP P d.funcs d.func 11&&ug P d.prog [d.strs,d.intss,d.datas,d.strs,d.ints,d.impls,d.funcs,d.int]
theorem dP.aat {d:dP}(h:d.aam P=true):d.aak P=true:=by
 simp only[dP.aam,aaN] at h;exact h.1.1.1.1.1.1.1.1.1.1
theorem dP.aas {d:dP}(h:d.aak P=true):d.tyOk P=true:=by
 simp only[dP.aak,aaN] at h;exact h.1.1.1.1.1.1.1.1.1.1
theorem dP.ty' {d:dP}(h:d.tyOk P=true) {n:Nat}{g:G}(a:Ok P n d.ty g):∃x:Ty,g=x.g:=by
 simp only[dP.tyOk,aaN] at h;exact Uw h.1.1 h.1.2 h.2 n g a
theorem dP.i {d:dP}(h:d.tyOk P=true) {n:Nat}{g:G}(a:Ok P n d.int g):∃x:Int,g=I x:=by
 simp only[dP.tyOk,aaN] at h;exact FX h.1.1 a
theorem dP.aaD {d:dP}(h:d.tyOk P=true) {n:Nat}{g:G}(b:Ok P n d.tys g):∃x:List Ty,g=.sl 3 (x.map Ty.g):=by
 have a:=h;simp only[dP.tyOk,aaN] at a;exact eH a.2 b fun m x _ c=>dP.ty' h c
theorem dP.bnd {d:dP}(h:d.aak P=true) {n:Nat}{g:G}(l:Ok P n d.bound g):∃x:aT,g=x.g:=by
 have hf:=h;have e:=dP.aas hf;have a:=hf;simp only[dP.aak,aaN] at a;obtain⟨⟨⟨⟨⟨⟨⟨⟨⟨⟨_,k1⟩,p⟩,f⟩,u⟩,y⟩,v⟩,r⟩,k8⟩,k9⟩,k10⟩:=a;obtain⟨m,t,s,rfl,c⟩:=jW f l;obtain⟨w,q,rfl,k,b⟩:=aX c;obtain⟨v0,rfl⟩:=dP.i e k;obtain⟨o,rfl,j⟩:=ze b;obtain⟨v1,rfl⟩:=dP.i e j;exact⟨⟨v0,v1⟩,rfl⟩
theorem dP.trm {d:dP}(h:d.aak P=true) {n:Nat}{g:G}(p:Ok P n d.term g):∃x:Term,g=x.g:=by
 have hf:=h;have c:=dP.aas hf;have a:=hf;simp only[dP.aak,aaN] at a;obtain⟨⟨⟨⟨⟨⟨⟨⟨⟨⟨_,k1⟩,k⟩,v⟩,k4⟩,s⟩,k6⟩,y⟩,k8⟩,k9⟩,k10⟩:=a;obtain⟨m,l0,z,rfl,j⟩:=jW s p;obtain⟨g0,w,rfl,o,b⟩:=aX j;obtain⟨v0,rfl⟩:=dP.i c o;obtain⟨t,u,rfl,l,e⟩:=aX b;obtain⟨v1,rfl⟩:=dP.i c l;obtain⟨g2,rfl,r⟩:=ze e;obtain⟨v2,rfl⟩:=eH k r (f:=I) fun m x _ q=>dP.i c q;exact⟨⟨v0,v1,v2⟩,rfl⟩
theorem dP.ins' {d:dP}(h:d.aak P=true) {n:Nat}{g:G}(y:Ok P n d.ins g):∃x:PA,g=x.g:=by
 have hf:=h;have a:=dP.aas hf;have b:=hf;simp only[dP.aak,aaN] at b;obtain⟨⟨⟨⟨⟨⟨⟨⟨⟨⟨_,k1⟩,t⟩,k3⟩,k4⟩,k5⟩,k6⟩,k7⟩,k8⟩,k9⟩,k10⟩:=b;obtain⟨m,l0,hm,rfl,o⟩:=jW k6 y;obtain⟨g0,l1,rfl,w,c⟩:=aX o;obtain⟨v0,rfl⟩:=dP.i a w;obtain⟨g1,l2,rfl,v,l⟩:=aX c;obtain⟨v1,rfl⟩:=dP.i a v;obtain⟨g2,l3,rfl,e2,j⟩:=aX l;obtain⟨v2,rfl⟩:=dP.i a e2;obtain⟨g3,l4,rfl,u,k⟩:=aX j;obtain⟨v3,rfl⟩:=dP.i a u;obtain⟨g4,l5,rfl,r,p⟩:=aX k;obtain⟨v4,rfl⟩:=dP.i a r;obtain⟨g5,l6,rfl,e5,e⟩:=aX p;obtain⟨s,rfl⟩:=eH t e5 (f:=I) fun m x _ hx=>dP.i a hx;obtain⟨g6,rfl,z⟩:=ze e;obtain⟨q,rfl⟩:=dP.aaD a z;exact⟨⟨v0,v1,v2,v3,v4,s,q⟩,rfl⟩
theorem dP.blk {d:dP}(h:d.aak P=true) {n:Nat}{g:G}(l:Ok P n d.block g):∃x:Block,g=x.g:=by
 have hf:=h;have r:=dP.aas hf;have a:=hf;simp only[dP.aak,aaN] at a;obtain⟨⟨⟨⟨⟨⟨⟨⟨⟨⟨_,k1⟩,q⟩,s⟩,w⟩,k5⟩,y⟩,e⟩,k8⟩,k9⟩,k10⟩:=a;obtain⟨m,v,u,rfl,c⟩:=jW k8 l;obtain⟨z,t,rfl,k,b⟩:=aX c;obtain⟨v0,rfl⟩:=eH e k (f:=PA.g) fun m x _ o=>dP.ins' hf o;obtain⟨p,rfl,j⟩:=ze b;obtain⟨v1,rfl⟩:=dP.trm hf j;exact⟨⟨v0,v1⟩,rfl⟩
theorem dP.fn {d:dP}(h:d.aak P=true) {n:Nat}{g:G}(hg:Ok P n d.func g):∃x:PG,g=x.g:=by
 have hf:=h;have a:=dP.aas hf;have b:=hf;simp only[dP.aak,aaN] at b;obtain⟨⟨⟨⟨⟨⟨⟨⟨⟨⟨_,k1⟩,w⟩,k3⟩,k4⟩,k5⟩,k6⟩,k7⟩,k8⟩,k9⟩,k10⟩:=b;obtain⟨m,l0,hm,rfl,q⟩:=jW k10 hg;obtain⟨g0,l1,rfl,e0,e⟩:=aX q;obtain⟨v0,rfl⟩:=zb k1 e0;obtain⟨g1,l2,rfl,z,p⟩:=aX e;obtain⟨v1,rfl⟩:=dP.i a z;obtain⟨g2,l3,rfl,e2,l⟩:=aX p;obtain⟨v2,rfl⟩:=dP.i a e2;obtain⟨g3,l4,rfl,y,o⟩:=aX l;obtain⟨v3,rfl⟩:=eH k4 y (f:=aT.g) fun m x _ c=>dP.bnd hf c;obtain⟨g4,l5,rfl,u,r⟩:=aX o;obtain⟨v4,rfl⟩:=dP.i a u;obtain⟨g5,l6,rfl,e5,j⟩:=aX r;obtain⟨v,rfl⟩:=dP.ty' a e5;obtain⟨g6,l7,rfl,e6,k⟩:=aX j;obtain⟨t,rfl⟩:=dP.aaD a e6;obtain⟨g7,l8,rfl,e7,s⟩:=aX k;obtain⟨v7,rfl⟩:=eH k9 e7 (f:=Block.g) fun m x _ c=>dP.blk hf c;obtain⟨g8,rfl,e8⟩:=ze s;obtain⟨v8,rfl⟩:=eH w e8 (f:=I) fun m x _ c=>dP.i a c;exact⟨⟨v0,v1,v2,v3,v4,v,t,v7,v8⟩,rfl⟩
theorem dP.aaM {d:dP}(h:d.aam P=true) {n:Nat}{g:G}(k:Ok P n d.variant g):∃x:Variant,g=x.g:=by
 have h0:=h;have hf:=dP.aat h;have e:=dP.aas hf;have a:=hf;simp only[dP.aak,aaN] at a;obtain⟨⟨⟨⟨⟨⟨⟨⟨⟨⟨_,k1⟩,r⟩,s⟩,k4⟩,k5⟩,k6⟩,v⟩,k8⟩,k9⟩,k10⟩:=a;simp only[dP.aam,aaN] at h;obtain⟨⟨⟨⟨⟨⟨⟨⟨⟨⟨h,t⟩,p2⟩,o⟩,p⟩,p5⟩,p6⟩,w⟩,p8⟩,p9⟩,l⟩:=h;obtain⟨m,z,y,rfl,c⟩:=jW o k;obtain⟨g0,u,rfl,j,b⟩:=aX c;obtain⟨v0,rfl⟩:=zb k1 j;obtain⟨q,rfl,f⟩:=ze b;obtain⟨v1,rfl⟩:=dP.aaD e f;exact⟨⟨v0,v1⟩,rfl⟩
theorem dP.dat {d:dP}(h:d.aam P=true) {n:Nat}{g:G}(t:Ok P n d.data g):∃x:Data,g=x.g:=by
 have h0:=h;have hf:=dP.aat h;have c:=dP.aas hf;have a:=hf;simp only[dP.aak,aaN] at a;obtain⟨⟨⟨⟨⟨⟨⟨⟨⟨⟨_,k1⟩,k2⟩,k3⟩,k4⟩,k5⟩,k6⟩,k7⟩,k8⟩,k9⟩,k10⟩:=a;simp only[dP.aam,aaN] at h;obtain⟨⟨⟨⟨⟨⟨⟨⟨⟨⟨h,p1⟩,p2⟩,p3⟩,o⟩,y⟩,p6⟩,p7⟩,p8⟩,p9⟩,u⟩:=h;obtain⟨m,l0,hm,rfl,l⟩:=jW y t;obtain⟨g0,l1,rfl,s,b⟩:=aX l;obtain⟨v0,rfl⟩:=zb k1 s;obtain⟨g1,l2,rfl,r,k⟩:=aX b;obtain⟨v1,rfl⟩:=dP.i c r;obtain⟨g2,l3,rfl,z,e⟩:=aX k;obtain⟨v2,rfl⟩:=dP.i c z;obtain⟨g3,l4,rfl,q,j⟩:=aX e;obtain⟨v3,rfl⟩:=eH o q (f:=Variant.g) fun m x _ w=>dP.aaM h0 w;obtain⟨g4,rfl,p⟩:=ze j;obtain⟨v,rfl⟩:=dP.i c p;exact⟨⟨v0,v1,v2,v3,v⟩,rfl⟩
theorem dP.imp {d:dP}(h:d.aam P=true) {n:Nat}{g:G}(v:Ok P n d.impl g):∃x:Impl,g=x.g:=by
 have h0:=h;have hf:=dP.aat h;have b:=dP.aas hf;have a:=hf;simp only[dP.aak,aaN] at a;obtain⟨⟨⟨⟨⟨⟨⟨⟨⟨⟨_,k1⟩,k2⟩,k3⟩,w⟩,k5⟩,k6⟩,k7⟩,k8⟩,k9⟩,k10⟩:=a;simp only[dP.aam,aaN] at h;obtain⟨⟨⟨⟨⟨⟨⟨⟨⟨⟨h,p1⟩,p2⟩,p3⟩,p4⟩,p5⟩,p6⟩,s⟩,p8⟩,p9⟩,y⟩:=h;obtain⟨m,l0,hm,rfl,l⟩:=jW s v;obtain⟨g0,l1,rfl,u,c⟩:=aX l;obtain⟨v0,rfl⟩:=dP.i b u;obtain⟨g1,l2,rfl,t,k⟩:=aX c;obtain⟨v1,rfl⟩:=dP.i b t;obtain⟨g2,l3,rfl,e2,e⟩:=aX k;obtain⟨v2,rfl⟩:=dP.i b e2;obtain⟨g3,l4,rfl,r,j⟩:=aX e;obtain⟨v3,rfl⟩:=eH w r (f:=aT.g) fun m x _ hx=>dP.bnd hf hx;obtain⟨g4,l5,rfl,p,o⟩:=aX j;obtain⟨v4,rfl⟩:=dP.ty' b p;obtain⟨g5,rfl,z⟩:=ze o;obtain⟨q,rfl⟩:=dP.i b z;exact⟨⟨v0,v1,v2,v3,v4,q⟩,rfl⟩
theorem dP.prg {d:dP}(h:d.aam P=true) {n:Nat}{g:G}(hg:Ok P n d.prog g):∃x:Prog,g=x.g:=by
 have h0:=h;have hf:=dP.aat h;have c:=dP.aas hf;have b:=hf;simp only[dP.aak,aaN] at b;obtain⟨⟨⟨⟨⟨⟨⟨⟨⟨⟨_,k1⟩,u⟩,k3⟩,k4⟩,k5⟩,k6⟩,k7⟩,k8⟩,k9⟩,k10⟩:=b;simp only[dP.aam,aaN] at h;obtain⟨⟨⟨⟨⟨⟨⟨⟨⟨⟨h,v⟩,p2⟩,p3⟩,p4⟩,p5⟩,p6⟩,p7⟩,p8⟩,p9⟩,q⟩:=h;obtain⟨m,l0,hm,rfl,s⟩:=jW q hg;obtain⟨g0,l1,rfl,e0,e⟩:=aX s;obtain⟨v0,rfl⟩:=eH v e0 (f:=G.str) fun m x _ a=>zb k1 a;obtain⟨g1,l2,rfl,e1,r⟩:=aX e;obtain⟨v1,rfl⟩:=eH p2 e1 (f:=fun(l:List Int)=>G.sl 1 (l.map I)) fun m x _ a=>eH u a (f:=I) fun m x _ a=>dP.i c a;obtain⟨g2,l3,rfl,e2,k⟩:=aX r;obtain⟨v2,rfl⟩:=eH p6 e2 (f:=Data.g) fun m x _ a=>dP.dat h0 a;obtain⟨g3,l4,rfl,e3,p⟩:=aX k;obtain⟨v3,rfl⟩:=eH v e3 (f:=G.str) fun m x _ a=>zb k1 a;obtain⟨g4,l5,rfl,y,t⟩:=aX p;obtain⟨v4,rfl⟩:=eH u y (f:=I) fun m x _ a=>dP.i c a;obtain⟨g5,l6,rfl,e5,j⟩:=aX t;obtain⟨z,rfl⟩:=eH p8 e5 (f:=Impl.g) fun m x _ a=>dP.imp h0 a;obtain⟨g6,l7,rfl,e6,o⟩:=aX j;obtain⟨w,rfl⟩:=eH p9 e6 (f:=PG.g) fun m x _ a=>dP.fn hf a;obtain⟨g7,rfl,e7⟩:=ze o;obtain⟨v7,rfl⟩:=dP.i c e7;exact⟨⟨v0,v1,v2,v3,v4,z,w,v7⟩,rfl⟩
end
end Api
end Go.Fr
namespace Go.Fr.T
open Go Go.RowKit Go.Fr
mutual
def qJ:G->List C
 | .int k n=>[.int k n]
 | .bool b=>[.bool b]
 | .str s=>[.str s]
 | .sl _ l=>[.sl (qK l)]
 | .st l=>lB l
def qK:List G->List (List C)
 | []=>[]
 | x::l=>qJ x::qK l
def lB:List G->List C
 | []=>[]
 | x::l=>qJ x++lB l
end
theorem zf:∀l:List G,qK l=l.map qJ
 | []=>rfl
 | x::l=>by simp only[qK,aaZ,zf l]
theorem CA {a b:List C}(h:eW a=true) (k:eW b=true):eW (a++b)=true:=by
 rw[oh] at *;intro c d;rcases aaV.1 d with d | d
 ·exact h c d
 ·exact k c d
mutual
theorem CB {F:aA}:∀{g:G}{cs:List Value},Rd F g cs->g.bulk<=maxLen->aB F [] (qJ g) cs/\eW (qJ g)=true
 | .int k n,cs,h,hb=>by
  simp only[Rd] at h;obtain⟨rfl,h⟩:=h;simp only[qJ,aB,Rel];exact⟨⟨_,_,rfl,⟨rfl,h⟩,rfl⟩,rfl⟩
 | .bool b,cs,h,hb=>by
  simp only[Rd] at h;subst h;simp only[qJ,aB,Rel];exact⟨⟨_,_,rfl,rfl,rfl⟩,rfl⟩
 | .str s,cs,h,hb=>by
  simp only[Rd] at h;subst h;simp only[G.bulk] at hb;simp only[qJ,aB,Rel];exact⟨⟨_,_,rfl,⟨rfl,by omega⟩,rfl⟩,rfl⟩
 | .sl sz l,cs,h,hb=>by
  simp only[Rd] at h;obtain⟨a,c,rfl,h1,h2,h3,h4⟩:=h;simp only[G.bulk] at hb;have hl:(qK l).length=l.length:=by simp[zf]
  simp only[qJ,aB,Rel];refine⟨⟨_,_,rfl,⟨a,c,by rw[hl],by rw[hl];exact h1,by rw[hl];omega,fun e=>?_,sz,Bq h4 (by omega)⟩,rfl⟩,rfl⟩;obtain⟨e1,e2⟩:=h3 e;subst e1;exact⟨rfl,e2⟩
 | .st l,cs,h,hb=>by
  simp only[Rd] at h;simp only[G.bulk] at hb;simp only[qJ];exact zh h (by omega)
theorem Bq {F:aA}{a:Option Addr}{sz:Nat}:∀{i:Nat}{l:List G},tK F a sz i l->G.aag l<=maxLen->gP F a sz i (qK l)
 | _,[],_,_=>by simp only[qK,gP]
 | i,x::l,h,hb=>by
  simp only[tK] at h;obtain⟨⟨es,h1,h2,h3⟩,h4⟩:=h;simp only[G.aag] at hb;obtain⟨r1,r2⟩:=CB h3 (by omega);simp only[qK,gP];exact⟨⟨es,h1,h2,r2,r1⟩,Bq h4 (by omega)⟩
theorem zh {F:aA}:∀{l:List G}{cs:List Value},mG F l cs->G.aag l<=maxLen->aB F [] (lB l) cs/\eW (lB l)=true
 | [],cs,h,_=>by simp only[mG] at h;subst h;simp only[lB,aB];exact⟨trivial,rfl⟩
 | x::l,cs,h,hb=>by
  simp only[mG] at h;obtain⟨c1,c2,rfl,h1,h2⟩:=h;simp only[G.aag] at hb;obtain⟨r1,r2⟩:=CB h1 (by omega);obtain⟨q1,q2⟩:=zh h2 (by omega);simp only[lB];exact⟨r1.append q1,CA r2 q2⟩
end
open Api
abbrev IC (n:Int):C:=.int .i64 n
def uh (l:List Int):List (List C):=l.map fun n=>[IC n]
def Lu (l:List ByteArray):List (List C):=l.map fun s=>[C.str s]
mutual
def aD:Ty->List C
 | .mk k i l=>[IC k,IC i,.sl (Jc l)]
def Jc:List Ty->List (List C)
 | []=>[]
 | t::l=>aD t::Jc l
end
theorem Ea:∀l:List Ty,Jc l=l.map aD
 | []=>rfl
 | t::l=>by simp only[Jc,aaZ,Ea l]
theorem iM (t:Ty):aD t=[IC t.kind,IC t.id,.sl (t.args.map aD)]:=by
 cases t;simp only[aD,Ea,Ty.kind,Ty.id,Ty.args]
def aW (b:aT):List C:=[IC b.param,IC b.trait]
def Lv (x:Term):List C:=[IC x.kind,IC x.a,.sl (uh x.targets)]
def SQ (x:PA):List C:=[IC x.op,IC x.dst,IC x.a,IC x.b,IC x.n,.sl (uh x.args),.sl (x.types.map aD)]
def FY (x:Block):List C:=[.sl (x.code.map SQ),IC x.fin.kind,IC x.fin.a,.sl (uh x.fin.targets)]
def SR (f:PG):List C:=[.str f.name,IC f.module,IC f.params,.sl (f.bounds.map aW),IC f.arity,IC f.result.kind,IC f.result.id,.sl (f.result.args.map aD),.sl (f.locals.map aD),.sl (f.blocks.map FY),.sl (uh f.ties)]
def uj (x:Variant):List C:=[.str x.name,.sl (x.fields.map aD)]
def lC (d:Api.Data):List C:=[.str d.name,IC d.module,IC d.params,.sl (d.variants.map uj),IC d.drop]
def dN (x:Impl):List C:=[IC x.trait,IC x.module,IC x.params,.sl (x.bounds.map aW),IC x.type.kind,IC x.type.id,.sl (x.type.args.map aD),IC x.func]
def kh (p:Prog):List C:=[.sl (Lu p.modules),.sl (p.uses.map fun l=>[.sl (uh l)]),.sl (p.datas.map lC),.sl (Lu p.traits),.sl (uh p.homes),.sl (p.impls.map dN),.sl (p.funcs.map SR),IC p.main]
theorem iW {a:Type}{f:a->G}{h:a->List C}(hf:∀x,qJ (f x)=h x) (l:List a):qK (l.map f)=l.map h:=by
 rw[zf,abT];exact abX fun x _=>hf x
theorem zi (l:List Int):qK (l.map I)=uh l:=iW (fun _=>rfl) l
theorem SS (l:List ByteArray):qK (l.map .str)=Lu l:=iW (fun _=>rfl) l
mutual
theorem zj:∀t:Ty,qJ t.g=aD t
 | .mk k i l=>by simp only[Ty.g,qJ,lB,aD,Hr l,abn,aa3,abp]
theorem Hr:∀l:List Ty,qK (Ty.gs l)=Jc l
 | []=>rfl
 | t::l=>by simp only[Ty.gs,qK,Jc,zj t,Hr l]
end
theorem xw (l:List Ty):qK (l.map Ty.g)=l.map aD:=iW zj l
theorem vC (b:aT):qJ b.g=aW b:=rfl
theorem Lw (x:Term):qJ x.g=Lv x:=by simp only[Term.g,qJ,lB,Lv,zi,abn,aa3,abp]
theorem PJ (x:PA):qJ x.g=SQ x:=by simp only[PA.g,qJ,lB,SQ,zi,xw,abn,aa3,abp]
theorem Jd (x:Block):qJ x.g=FY x:=by simp only[Block.g,qJ,lB,FY,Lw,Lv,iW PJ,abn,aa3,abp]
theorem PK (f:PG):qJ f.g=SR f:=by simp only[PG.g,qJ,lB,SR,zj,iM,xw,zi,iW vC,iW Jd,abn,aa3,abp]
theorem Eb (x:Variant):qJ x.g=uj x:=by simp only[Variant.g,qJ,lB,uj,xw,abn,aa3,abp]
theorem Ly (x:Api.Data):qJ x.g=lC x:=by simp only[Data.g,qJ,lB,lC,iW Eb,abn,aa3,abp]
theorem LA (x:Impl):qJ x.g=dN x:=by simp only[Impl.g,qJ,lB,dN,zj,iM,iW vC,abn,aa3,abp]
theorem LB (x:Prog):qJ x.g=kh x:=by
 simp only[Prog.g,qJ,lB,kh,zi,SS,iW Ly,iW LA,iW PK,abn,aa3,abp];rw[iW (f:=fun l=>G.sl 1 (l.map I)) (h:=fun l=>[C.sl (uh l)]) (fun l=>by simp only[qJ,zi])]
theorem cA {l:List Ty}{k:Nat}{x:Ty}{K:List C->Prop}(a:l[k]?=some x) (h:K [IC x.kind,IC x.id,.sl (x.args.map aD)]):tL (l.map aD) (k:Int) 3 K:=FP a (iM x) rfl h
end Go.Fr.T
namespace Go.Fr.T
open Go Go.RowKit Go.Fr Go.ChangeShapes Go.WideShapes Go.ChangeAt
def um:G->C
 | .int k n=>.int k n
 | .bool b=>.bool b
 | .str s=>.str s
 | .sl _ l=>.sl (qK l)
 | .st l=>.agg (lB l)
def Ru (P:Program):List TypeId->List G->Prop
 | [],[]=>True
 | t::ts,g::gs=>(∃n,Ok P n t g)/\Ru P ts gs
 | _,_=>False
section
variable {H:Type}{enc:TypeId×Value->H}{P:Program}{W:World}
theorem uo {F:aA}{L:Loc}{c:C}{v:Value}(h:aB F L [c] [v]):Rel F L c v:=by
 simp only[aB] at h;obtain⟨x,y,e,h1,h2⟩:=h;injection e with e1 e2
 subst e1;exact h1
theorem PL {S:List TypeId}(hS:flat P S=true) {t:TypeId}(q:t∈S) {r:Reach}{s:Nat}{u:Nat->Bool}{hd:Bool}{v:Value}{d:DataW H}{ps:List MemPlace}(f:Value.okWide P W r s t v)
  (h:DataW.Trod enc P W 0 u hd t v d ps) (hb:iL d<=maxLen):∃n g,Ok P n t g/\Rel (qI W) [] (um g) v/\g.bulk<=iL d:=by
 obtain⟨o,h⟩:=h;obtain⟨g,h1,h2,h3⟩:=Pz hS o t _ _ q h;refine⟨o,g,h1,?_,h3⟩;have h4:=(CB h2 (abw h3 hb)).1;have hf:=aa1.1 hS t q;cases o with
 | zero=>exact h1.elim
 | succ n =>
 simp only[Lp] at hf;simp only[Ok] at h1;split at hf
 ·rename_i j;obtain⟨b,rfl⟩:=okWide_bool j f;simp only[j] at h1;obtain⟨p,rfl⟩:=h1;exact uo h4
 ·rename_i k j;obtain⟨m,rfl⟩:=okWide_int j f;simp only[j] at h1;obtain⟨p,rfl,_⟩:=h1;exact uo h4
 ·rename_i j;obtain⟨m,rfl⟩:=okWide_string j f;simp only[j] at h1;obtain⟨p,rfl⟩:=h1;exact uo h4
 ·rename_i e j;obtain⟨a,l,c,rfl⟩:=okWide_slice j f;simp only[j] at h1;obtain⟨p,rfl,_⟩:=h1;exact uo h4
 ·rename_i w j;simp only[Value.okWide,j] at f;obtain⟨cs,rfl,_,_⟩:=f;simp only[j] at h1;obtain⟨l,rfl,_⟩:=h1;simp only[um,Rel];exact⟨cs.toList,by simp,h4⟩
 ·cases hf
theorem Br {S:List TypeId}(hS:flat P S=true) {r:Reach}{m:Nat}{s:Nat->Bool}{hd:Bool}:∀{ts:List TypeId}{a:List Value}{ds:List (DataW H)}{ps:List MemPlace},(∀t∈ts,t∈S) ->
  (∀(j:Nat) t v,ts[j]?=some t->a[j]?=some v->Value.okWide P W r m t v)->DataW.TrodAll enc P W 0 s hd ts a ds ps->eL ds<=maxLen ->
  ∃gs,Ru P ts gs/\aB (qI W) [] (gs.map um) a/\G.aag gs<=eL ds
 | [],[],[],_,_,_,_,_=>⟨[],trivial,by simp only[abJ,aB],by simp[G.aag]⟩
 | t::ts,v::a,d::ds,ps,e,f,⟨p,q,h1,h2,_⟩,hb=>by
  simp only[eL] at hb ⊢;obtain⟨n,g,k,o,w⟩:=PL hS (e t (by simp)) (f 0 t v rfl rfl) h1 (by omega);obtain⟨gs,k1,l,u⟩:=Br hS (fun t b=>e t (by simp[b])) (fun j t v b c=>f (j+1) t v (by simpa using b) (by simpa using c)) h2 (by omega);refine⟨g::gs,⟨⟨n,k⟩,k1⟩,?_,by simp only[G.aag];omega⟩;simp only[aaZ,aB];exact⟨v,a,rfl,o,l⟩
 | [],_::_,_,_,_,_,h,_=>h.elim
 | [],[],_::_,_,_,_,h,_=>h.elim
 | _::_,[],_,_,_,_,h,_=>h.elim
 | _::_,_::_,[],_,_,_,h,_=>h.elim
theorem Al {ts:List TypeId}(k:laidOutB P=true) (c:ts.all (fun t=>P.readableRec t&&decide (t<P.types.size))=true) {W':World}(hb:Below W.heap.size W W') {f:Nat->Bool} :
  ∀{a:List Value}{ds:List (DataW H)}{ps:List MemPlace},DataW.TrodAll enc P W 0 (fun _=>true) true ts a ds ps->(∀x∈ps,x.block<W.heap.size)->(∀x∈ps,f x.block=true)->DataW.TrodAll enc P W' 0 f true ts a ds ps:=by
 induction ts with
 | nil =>
  intro a ds ps h _ _
  match a,ds,h with
  | [],[],h=>exact h
 | cons t ts l =>
  intro a ds ps h h1 h2
  match a,ds,h with
  | v::a,d::ds,⟨p,q,k1,j,e⟩ =>
   subst e;simp only[abg,aaN,aa0] at c;refine⟨p,q,WideElems.Trod_stays k c.1.1 c.1.2 k1 (fun x b=>hb.same (h1 x (by simp[b]))) (fun x b=>h2 x (by simp[b])),l (by simpa using c.2) j (fun x b=>h1 x (by simp[b])) (fun x b=>h2 x (by simp[b])),rfl⟩
theorem Am {f:Func}{s:ChangeSpec}{W W':World}{args:Array Value}{v:Value}{ds gs:List (DataW H)}{a pa pv:List MemPlace}
  (o:DataW.Whole enc P f.params.toList s.vars false W args.toList ds gs a)
  (k:∀(b:Nat) (m:Nat->Bool) (hd:Bool),DataW.TrodAll enc P W' b m hd f.resultTypes.toList (v.resultList f.resultTypes.size) (s.fn H (ds++gs)).results [])
  (e:∀m:Nat->Bool,(∀p∈a,m p.block=true)->DataW.TrodAll enc P W' 0 m true f.params.toList args.toList (s.fn H (ds++gs)).args pa)
  (d:∀m:Nat->Bool,(∀p∈a,m p.block=true)->DataW.TrodVars enc P W' m s.vars (s.fn H (ds++gs)).vars pv)
  (l:a=pa++pv) (hb:Below W.heap.size W W')
  (u:∀(j:Nat) (t:TypeId) (r:Value),f.resultTypes[j]?=some t->(v.resultList f.resultTypes.size)[j]?=some r->Value.okWide P W' .any 0 t r) :
  s.post enc P f false true false false W args v W':=by
 have h:∀p∈a,(fun b=>decide (b<W.heap.size)) p.block=true:=fun p c=>by simpa using o.lt p c
 have q:∀p∈a,p.block<W.heap.size:=fun p c=>o.lt p c;refine⟨ds,gs,a,[],pa,pv,o,k _ _ _,e _ h,d _ h,World.keptBut_mono (fun p c=>⟨c,?_⟩) (hb.frame (·∈a)),fun _=>?_⟩
 ·rw[l,aaV] at c;exact Or.inr c
 ·obtain⟨_,_,_,_,_,w,y⟩:=o;refine⟨u,_,_,([]++pa)++pv,⟨[]++pa,pv,trodAll_append (e _ (fun _ _=>rfl)) (k _ _ _),d _ (fun _ _=>rfl),rfl,?_,?_⟩,?_⟩
  ·intro b off c;have n:MemPlace.cell b off∈a:=by rw[l];simpa using c
   rw[hb.frozen (p:=⟨b,off,none⟩) (q _ n)];exact w b off n
  ·intro x;cases x
  ·intro p c _;rw[l];simpa using c
theorem entry {f:FuncId}{ts:List TypeId}{S:List TypeId}(hS:flat P S=true) (q:∀t∈ts,t∈S) {r:Reach}{u:Nat}{args:Array Value}{ds:List (DataW H)}{ps:List MemPlace}
  (d:∀(j:Nat) t v,ts[j]?=some t->args.toList[j]?=some v->Value.okWide P W r u t v) (h:DataW.TrodAll enc P W 0 (fun _=>true) true ts args.toList ds ps) (m:eL ds<=1048576)
  (w:s6 (qI W)) (law:∀gs,Ru P ts gs->G.aag gs<=1048576->CallsT P f (gs.map um) [] (aR [] (.bool true))) :
  Calls P f args W fun e W'=>e=.returned (.bool true)/\Below W.heap.size W W':=by
 obtain⟨gs,k1,p,y⟩:=Br hS q d h (abw m (by decide));have s:=(law gs k1 (by omega)).out (qI W) [] args.toList rfl (fun k=>by rw[show(inp []).get k=none from rfl,show(cO []).get k=none from rfl];trivial) p;have he:∀k,(inp []).get k=none:=fun _=>rfl;have l:St (qI W) (inp []) W:=⟨fun b o h=>h,fun k o h=>(by rw[he] at h;cases h),fun k o g h=>(by rw[he] at h;cases h),fun k x o o' g h=>(by rw[he] at h;cases h),w⟩;refine Calls.mono (s.run W l) ?_;rintro e W' ⟨v,F',Lo,rfl,hs,a,Mo,c,q1,z,n,q4,rfl,rfl⟩;simp only[Rel] at n;subst n;exact⟨rfl,a.os,a.tape,a.output,a.size,fun k m=>a.same k m (by rintro⟨_,_,h,_⟩;cases h)⟩
theorem Ao {f:FuncId}{fn:Func}{s:ChangeSpec}{S:List TypeId}{tb:TypeId}(hl:laidOutB P=true) (hS:flat P S=true) (hm:fn.params.toList.all (fun t=>S.contains t&&(P.readableRec t&&decide (t<P.types.size)))=true)
  (d:fn.resultTypes=#[tb]) (k:P.underlying tb=some .bool) (a:s.vars=[])
  (law:∀gs,Ru P fn.params.toList gs->G.aag gs<=1048576->CallsT P f (gs.map um) [] (aR [] (.bool true)))
  {r:Reach}{b0:Nat}{args:Array Value}{ds gs:List (DataW H)}{c:List MemPlace}(h:s.fn H ds={results:=[.lit (.bool true)],args:=ds})
  (m:∀(j:Nat) t v,fn.params[j]?=some t->args[j]?=some v->Value.okWide P W r b0 t v)
  (w:DataW.Whole enc P fn.params.toList s.vars false W args.toList ds gs c) (hk:eL ds<=1048576) (hG:s6 (qI W):=by exact trivial) :
  Calls P f args W fun e W'=>∃v,e=.returned v/\s.post enc P fn false true false false W args v W':=by
 have l:=w;rw[a] at w;obtain⟨p,q,hA,hV,rfl,ae,ag⟩:=w;obtain⟨rfl,rfl⟩:=trodVars_none hV;have n:=aa1.1 hm;refine(entry hS (fun t u=>by have:=n t u;simp only[aaN,List.contains_iff_mem] at this;exact this.1) (fun j t v h1 h2=>m j t v (by simpa using h1) (by simpa using h2)) hA hk hG law).mono ?_;rintro e W' ⟨rfl,hb⟩;refine⟨_,rfl,Am (pa:=p) (pv:=[]) l ?_ ?_ ?_ rfl hb (ok_one d rfl (okWide_bool_mk k _))⟩
 ·intro b z hd;simp only[abn,h,d];exact trodAll_cons_mk (shut_bool k _) trodAll_mk0
 ·intro z o;simp only[abn,h];exact Al hl (aa1.2 fun t u=>by have:=n t u;simp only[aaN] at this ⊢;exact this.2) hb hA (fun x y=>l.lt x (by simp[y])) (fun x y=>o x (by simp[y]))
 ·intro z o;rw[a];simp only[abn,h];exact rfl
end
end Go.Fr.T
namespace Go.Fr.T
open Go Go.RowKit Go.Fr Go.Fr.Api
def W6 (P:Program) (t:TypeId):Bool:=match P.underlying t with | some .bool=>true | _=>false
theorem SW {P:Program}{t:TypeId}(h:W6 P t=true) {n:Nat}{g:G}(b:Ok P n t g):∃x,g=.bool x:=by
 simp only[W6] at h;split at h
 ·rename_i a;exact PI a b
 ·cases h
theorem oF {P:Program}{t:TypeId}{ts:List TypeId}{gs:List G}(h:Ru P (t::ts) gs):∃g r n,gs=g::r/\Ok P n t g/\Ru P ts r:=by
 cases gs with
 | nil=>exact h.elim
 | cons g r=>obtain⟨⟨n,h1⟩,h2⟩:=h;exact⟨g,r,n,rfl,h1,h2⟩
theorem PN {P:Program}{gs:List G}(h:Ru P [] gs):gs=[]:=by
 cases gs with
 | nil=>rfl
 | cons g r=>exact h.elim
theorem CC {l:List G}:um (.st l)=.agg (qJ (.st l)):=by simp only[um,qJ]
theorem PO (x:Ty):um x.g=.agg (aD x):=by
 rw[<-zj];cases x;exact CC
theorem Je (x:Prog):um x.g=.agg (kh x):=by
 rw[<-LB];exact CC
theorem SX (n:Int):um (I n)=IC n:=rfl
theorem qe {a:Sort _}{p:a->Prop}{K:Prop}(h:∃x,p x) (H:∀x,p x->K):K:=h.elim H
theorem ck {a:Type}{l:List a}{k:Nat}{K:Prop}(h:k<l.length) (H:∀x,l[k]?=some x->x∈l->K):K:=H l[k] (aaQ h) (List.getElem_mem h)
theorem bf {a:Type}{l:List a}{k:Nat}{K:Prop}(h:k<l.length) (H:∀x,l[k]?=some x->x∈l->l.drop k=x::l.drop (k+1)->K):K:=H l[k] (aaQ h) (List.getElem_mem h) (List.drop_eq_getElem_cons h)
section
variable {P:Program}{L:TL}{ρ:aG}
def Such (p:Prop):List TO->C->Prop:=fun Mo v=>Mo=[]/\∃b,v=.bool b/\(b=true->p)
theorem Ux {Lin:List TO}{v:C}{p:Prop}(b:Bool) (hb:aJ Lin (List.range' 1000 Lin.length) []=true) (e:v.aao.ren (bh [] 1000)=.bool b) (a:b=true->p):eS Lin L v (Such p) :=
 ⟨[],[],L,v,v,[],rfl,.inl ⟨rfl,rfl⟩,rfl,rfl,hb,fun _=>⟨rfl,b,e,a⟩⟩
end
end Go.Fr.T
namespace Go.Fr.T
open Go Go.RowKit Go.Fr
theorem CallsT.give {P:Program}{f:Nat}{args:List C}{t sz:Nat}{els:List (List C)}(h:CallsT P f args [] (aR [.row t sz els] (.rw 1000))):CallsT P f args [] (aR [] (.sl els)):=by
 refine⟨fun F Li r y n u=>?_⟩;obtain rfl:Li=[]:=List.length_eq_zero_iff.1 y;have q:=h.out F [] r rfl n u;refine⟨q.ent,gQ.aap,fun w hs=>Calls.mono (q.run w hs) ?_⟩;rintro e w' ⟨v,F',Lo,rfl,l,p,Mo,c,q1,z,x,q4,rfl,rfl⟩;have m:aC (inp Lo) (fun _=>.v undef) (⟨#[],[]⟩:Act):=by
  refine⟨fun j=>?_,fun j k off e=>(by cases e),fun j a i e=>(by cases e)⟩;simp[conc]
 obtain⟨F2,L2,s,g2,g3,g4,g5⟩:=pE (G:=fun _=>none) (k:=1000) l m (τ:=fun _=>.any) ⟨z,fun j=>trivial,fun k g t e=>(by cases e),l.glob⟩ (show(cO [TO.row t sz els]).get 1000=some (.row t sz els) from rfl);refine⟨v,F2,[],rfl,s.part (fun k o e=>by cases e),?_,[],.sl els,rfl,fun k=>trivial,?_,fun i g t cs e=>(by cases e),rfl,rfl⟩
 ·have d:=p.trans g3;exact⟨d.le,d.os,d.tape,d.output,d.size,d.same,d.frz,fun b ⟨k,o,e,_⟩=>(by cases e)⟩
 ·have:=g5 x;have e:(C.rw 1000).frz 1000 els=.sl els:=rfl;rw[e] at this;simp only[Rel] at this ⊢;exact this
end Go.Fr.T
