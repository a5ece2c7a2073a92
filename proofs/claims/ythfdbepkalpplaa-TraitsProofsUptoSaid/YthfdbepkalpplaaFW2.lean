/- Part of the proofs of the statements of this seat. -/
import Derived.Test.YthfdbepkalpplaaFW1
import Derived.Tactics
import Derived.Tactics2
import Derived.Defers
import Derived.Recover
import Derived.OneCell
import Derived.ChangeArms
import Derived.DataReads
import Derived.Carry
import Derived.ChangeSame
import Derived.WalkKit
import Derived.ProofKit
import Derived.OpenShut
set_option maxRecDepth 10000
set_option linter.unusedVariables false
set_option linter.unusedSimpArgs false
namespace Go.Fr.T
open Go Go.RowKit Go.Fr
section
variable {P:Program}{G:Nat->Option (Nat×TypeId)}{F:au}{L:Loc}{ρ:Env}{M:TL}{τ:aK}
def Both (G:Nat->Option (Nat×TypeId)) (K:TK):di:=fun F L ρ=>∃M τ,TS G F L ρ M τ/\K M τ
theorem lp {k:Nat}{a:Option Addr}{c n:Nat}{t sz:Nat}{xs:List Value}(h:L.get k=some (.row (.slice a n c) t sz n xs)):aJ F L (.rw k) (.v (.slice a n c)) :=
 ⟨_,rfl,by simp only[Rel];exact⟨a,c,t,sz,n,xs,rfl,h⟩⟩
theorem Q7 {g:Nat}{F':au}{t:TypeId}{cs:List C}{a:List Value}{b:Nat×Nat}(d:F' g=some (.cells a.toArray t b)) (h1:eH cs=true) (c:ax F' [] cs a):aJ F' L (.pt cs 0) (.v (.pointer (some ⟨g,0,none⟩))) :=
 ⟨g,0,0,a,.inl ⟨rfl,rfl⟩,⟨0,_,t,b,d,rfl,fun i v hi=>by simpa using hi⟩,h1,c⟩
theorem js (he:∀j,aJ F L (τ j) (ρ j)) {sz:Nat}:∀{xs:List X},pW τ sz xs=true->fL L ρ sz xs=true/\aN F sz (uG τ xs) (cellsOf L ρ xs)/\(uG τ xs).length=xs.length
 | [],_=>⟨rfl,by simp only[uG,cellsOf,aN],rfl⟩
 | x::xs,h=>by
  simp only[pW] at h;split at h
  case h_2=>cases h
  rename_i h1 f e k;obtain⟨k1,d,c⟩:=js he h;have b:=ia he h1;have a:(aL (val L ρ x)).length=sz:=by rw[b.len];exact bU f
  refine⟨by simp only[fL,ji a];exact k1,?_,by simp only[uG,aa7,c]⟩;simp only[uG,cellsOf,aN];exact⟨_,_,rfl,a,nH e,kP (jq k b),d⟩
theorem fS {t:Nat}(h:SA t=true):t<1048576/\t≠0:=by
 unfold SA at h;split at h
 ·cases h
 ·rename_i h1;have:=abb h;exact⟨by omega,fun e=>by subst e;simp at h1⟩
theorem FY {t:TypeId}{x:X}{k:Nat}{K:TK}(f:TS G F L ρ M τ) (l:M.get k=none) (m:(cO τ x).okc=true) (a:t<1048576/\t≠0) (h:K (M.set k (.box t (cF (cO τ x)))) (bq (some k) (.own k 0) τ)) (g:Nat) :
  Both G K F (L.set k (.box g t (aL (val L ρ x)))) (put (some k) (.own k 0) ρ):=by
 have b:=bX f.tl l;have d:Ext L (L.set k (.box g t (aL (val L ρ x)))):=by
  intro j p e;refine⟨p,?_,Own.aah p⟩;rw[Loc.aac,q9 (by rintro rfl;rw[b] at e;cases e)];exact e
 have h1:=f.new (au.le_refl F) b (o:=.box g t (aL (val L ρ x))) (to:=.box t (cF (cO τ x))) ⟨⟨a.1,.inl rfl,a.2⟩,(ia f.env m).ext (au.le_refl F) d⟩;exact⟨_,_,h1.put (c:=.own k 0) (sv:=.own k 0) ⟨rfl,g,t,_,by rw[Loc.aac,o5 rfl]⟩ (some k),h⟩
theorem Av {t:TypeId}{zs:List Value}{k:Nat}{K:TK}(d:TS G F L ρ M τ) (e:M.get k=none) (a:t<1048576/\t≠0) (h:K (M.set k (.box t (zs.map rF))) (bq (some k) (.own k 0) τ)) (g:Nat) :
  Both G K F (L.set k (.box g t zs)) (put (some k) (.own k 0) ρ):=by
 have b:=bX d.tl e;have h1:=d.new (au.le_refl F) b (o:=.box g t zs) (to:=.box t (zs.map rF)) ⟨⟨a.1,.inl rfl,a.2⟩,kN zs⟩;exact⟨_,_,h1.put (c:=.own k 0) (sv:=.own k 0) ⟨rfl,g,t,_,by rw[Loc.aac,o5 rfl]⟩ (some k),h⟩
theorem FZ {e n sz:Nat}{xs:List X}{d:Option Nat}{K:TK}(b:TS G F L ρ M τ) (l:pW τ sz xs=true) (j:xs.length=n) (o:n<=maxLen) (h:K M (bq d (.slx (uG τ xs)) τ)) {g:Nat}{F':au}(a:F.le F')
  (m:F' g=some (.cells (cellsOf L ρ xs).toArray e (0,0))):Both G K F' L (put d (.v (.slice (some ⟨g,0,none⟩) n n)) ρ):=by
 obtain⟨k1,k,f⟩:=js b.env l;have hf:dG F' (some ⟨g,0,none⟩) 0 (cellsOf L ρ xs):=⟨_,_,_,_,rfl,m,rfl,fun i v hi=>by simpa using hi⟩;refine⟨_,_,(b.mono a).put (c:=.slx (uG τ xs)) ⟨_,rfl,?_⟩ d,h⟩;simp only[Rel];exact⟨⟨g,0,none⟩,by rw[f,j],by omega,sz,(k.mono a).frz hf⟩
theorem Nh {e n sz:Nat}{xs:List X}{k:Nat}{K:TK}(b:TS G F L ρ M τ) (j:pW τ sz xs=true) (l:xs.length=n) (m:n<=maxLen) (p:M.get k=none) (h:K (M.set k (.row e sz (uG τ xs))) (bq (some k) (.rw k) τ)) (g:Nat) :
  Both G K F (L.set k (.row (.slice (some ⟨g,0,none⟩) n n) e sz n (cellsOf L ρ xs))) (put (some k) (.v (.slice (some ⟨g,0,none⟩) n n)) ρ):=by
 obtain⟨k1,f,d⟩:=js b.env j;have a:=bX b.tl p;have h1:=b.new (au.le_refl F) a (o:=.row (.slice (some ⟨g,0,none⟩) n n) e sz n (cellsOf L ρ xs)) (to:=.row e sz (uG τ xs)) ⟨rfl,rfl,by rw[d,l],⟨m,_,_,rfl,fun e=>(by cases e)⟩,f⟩;exact⟨_,_,h1.put (c:=.rw k) (lp (by rw[Loc.aac,o5 rfl])) (some k),h⟩
theorem rX {e sz:Nat}{k:Nat}{els b:List (List C)}{d:Option Nat}{K:TK}(p:TS G F L ρ M τ) {s:Value}{xs f:List Value}(l:L.get k=some (.row s e sz els.length xs)) (o:aN F sz els xs) (m:aN F sz b f)
  (r:els.length+b.length<=maxLen) (h:K ((M.aad (C.kill k)).set k (.row e sz (els++b))) (bq d (.rw k) fun j=>(τ j).kill k)) {v:Value}(q:∃a c,v=.slice a (els.length+b.length) c/\(a=none->els.length+b.length=0)) :
  Both G K F (L.set k (.row v e sz (els.length+b.length) (xs++f))) (put d (.v v) ρ):=by
 obtain⟨a,c,rfl,n⟩:=q;have h1:=p.aay (k:=k) (o':=.row (.slice a (els.length+b.length) c) e sz (els.length+b.length) (xs++f)) (to:=.row e sz (els++b)) (fun g t cs e=>by rw[l] at e;injection e with e;cases e)
  ⟨rfl,rfl,by simp,⟨r,a,c,rfl,n⟩,o.append m⟩
 exact⟨_,_,h1.put (c:=.rw k) (lp (by rw[Loc.aac,o5 rfl])) d,h⟩
theorem qf {e sz:Nat}{k:Nat}{b:List (List C)}{d:Option Nat}{K:TK}(j:TS G F L ρ M τ) {f:List Value}(l:M.get k=none) (m:aN F sz b f)
  (q:b.length<=maxLen) (h:K (M.set k (.row e sz b)) (bq d (.rw k) τ)) {v:Value}(p:∃a c,v=.slice a (0+b.length) c/\(a=none->0+b.length=0)) :
  Both G K F (L.set k (.row v e sz (0+b.length) ([]++f))) (put d (.v v) ρ):=by
 obtain⟨a,c,rfl,n⟩:=p;have h1:=j.new (au.le_refl F) (bX j.tl l) (o:=.row (.slice a (0+b.length) c) e sz (0+b.length) ([]++f)) (to:=.row e sz b) ⟨rfl,rfl,by simp,⟨by omega,a,c,rfl,n⟩,m⟩;exact⟨_,_,h1.put (c:=.rw k) (lp (by rw[Loc.aac,o5 rfl])) d,h⟩
theorem tE {x:X}{k e sz:Nat}{els:List (List C)}(d:TS G F L ρ M τ) (o:cO τ x=.rw k) (h:M.get k=some (.row e sz els)) :
  ∃a c xs,ev ρ x=.v (.slice a els.length c)/\L.get k=some (.row (.slice a els.length c) e sz els.length xs)/\aN F sz els xs/\els.length<=maxLen:=by
 obtain⟨a,c,r,j,n,m,q,f⟩:=EO d.env o;obtain⟨v,xs,b,⟨p,_⟩,l⟩:=mg d.tl h;rw[f] at b;injection b with b
 injection b with q1 q2 q3 q4 q5
 subst q2 q3 q4 q5;exact⟨a,c,_,q,f,l,p⟩
set_option maxHeartbeats 1000000 in
theorem Dc {e sz b:Nat}{s x:X}{d:Option Nat}{K:TK}(l:TS G F L ρ M τ) (h:MU e sz b (cO τ s) (cO τ x) d M τ K):∃sv xv,ev ρ s=.v sv/\ev ρ x=.v xv/\FI F L e sz b sv xv fun L1 v=>Both G K F L1 (Fr.put d (.v v) ρ):=by
 have he:=l.env;simp only[MU,fQ] at h;split at h
 ·rename_i k f hs n;split at h
  case h_2=>exact h.elim
  rename_i e' aE els p;split at h
  case h_2=>exact h.elim
  rename_i h1 h2;obtain rfl:=aaR h1;obtain rfl:=aaR h2;obtain⟨g1,m,r,g4⟩:=h;obtain⟨a,c,xs,e1,e2,hr,hm⟩:=tE l hs p;obtain⟨a',q,an,z,e4,e5,e6,e7⟩:=lm he n;obtain⟨w,y1,y2,y3⟩:=jr e7 g1;exact⟨_,_,e1,z,k,els.length,xs,f.length,w,.inl e2,⟨a',q,rfl,y1,y2.imp id .inl⟩,y3.ones,m,r,fun v hv=>rX l e2 hr y3 m g4 hv⟩
 ·rename_i f k hs n;split at h
  case h_2=>exact h.elim
  rename_i p;obtain⟨g1,m,r,g4⟩:=h;obtain⟨a',q,an,z,e4,e5,e6,e7⟩:=lm he n;obtain⟨w,y1,y2,y3⟩:=jr e7 g1;simp only[abN] at m r;exact⟨_,_,tu he hs,z,k,0,[],f.length,w,.inr (.inl ⟨bX l.tl p,rfl,rfl,rfl⟩),⟨a',q,rfl,y1,y2.imp id .inl⟩,y3.ones,m,r,fun v hv=>qf l p y3 (by omega) g4 hv⟩
 ·rename_i els f k hs n;split at h
  case h_2=>exact h.elim
  rename_i p;obtain⟨g0,bk,g1,m,r,g4⟩:=h;obtain⟨a,cm,e1,hm,e2⟩:=BL he hs;obtain⟨a',q,an,z,e4,e5,e6,e7⟩:=lm he n;obtain⟨w,y1,y2,y3⟩:=jr e7 g1;obtain⟨xs,x1,x2,x3⟩:=jr e2 bk;refine⟨_,_,e1,z,k,els.length,xs,f.length,w,.inr (.inr ⟨bX l.tl p,a,rfl,g0,x1,x2⟩),⟨a',q,rfl,y1,y2.imp id .inl⟩,y3.ones,m,r,fun v hv=>?_⟩;obtain⟨av,cv,rfl,hn⟩:=hv;have h1:=l.new (au.le_refl F) (bX l.tl p) (o:=.row (.slice av (els.length+f.length) cv) e sz (els.length+f.length) (xs++w)) (to:=.row e sz (els++f)) ⟨rfl,rfl,by simp,⟨m,av,cv,rfl,hn⟩,x3.append y3⟩;exact⟨_,_,h1.put (c:=.rw k) (lp (by rw[Loc.aac,o5 rfl])) _,g4⟩
 ·rename_i k k' hs n;have n:=BK n;split at h
  case h_2=>exact h.elim
  rename_i e' aE els bp az f p t;split at h
  case h_2=>exact h.elim
  rename_i h1 h2 h3;obtain rfl:=aaR h1;obtain rfl:=aaR h2;obtain rfl:=aaR h3;obtain⟨g1,m,r,g4⟩:=h;obtain⟨a,c,xs,e1,e2,hr,hm⟩:=tE l hs p;obtain⟨a',q,w,z,e4,j,bd⟩:=tE l n t;refine⟨_,_,e1,z,k,els.length,xs,f.length,w,.inl e2,⟨a',q,rfl,hU j,?_⟩,j.ones,m,r,fun v hv=>rX l e2 hr j m g4 hv⟩;cases a' with
  | some ad=>exact .inr (.inr ⟨k',_,_,_,_,_,ad,q,e4,rfl,rfl,fun i u hu=>hu⟩)
  | none =>
   obtain⟨v,bm,q1,⟨_,a2,c2,y,q3⟩,q4⟩:=mg l.tl t;rw[e4] at q1;injection q1 with q1
   injection q1 with r1 r2 r3 r4 r5
   rw[<-r1] at y;injection y with y
   have hz:=q3 y.symm;have hl:=hU j;refine .inr (.inl ⟨hz,List.length_eq_zero_iff.1 (by rw[hl,hz];simp)⟩)
 ·rename_i k' k hs n;have n:=BK n;split at h
  case h_2=>exact h.elim
  rename_i bp az f p t;split at h
  case h_2=>exact h.elim
  rename_i h3;obtain rfl:=aaR h3;obtain⟨g1,m,r,g4⟩:=h;obtain⟨a',q,w,z,e4,j,bd⟩:=tE l n t;simp only[abN] at m r;refine⟨_,_,tu he hs,z,k,0,[],f.length,w,.inr (.inl ⟨bX l.tl p,rfl,rfl,rfl⟩),⟨a',q,rfl,hU j,?_⟩,j.ones,m,r,fun v hv=>qf l p j (by omega) g4 hv⟩;cases a' with
  | some ad=>exact .inr (.inr ⟨k',_,_,_,_,_,ad,q,e4,rfl,rfl,fun i u hu=>hu⟩)
  | none =>
   obtain⟨v,bm,q1,⟨_,a2,c2,y,q3⟩,q4⟩:=mg l.tl t;rw[e4] at q1;injection q1 with q1
   injection q1 with r1 r2 r3 r4 r5
   rw[<-r1] at y;injection y with y
   have hz:=q3 y.symm;have hl:=hU j;refine .inr (.inl ⟨hz,List.length_eq_zero_iff.1 (by rw[hl,hz];simp)⟩)
 ·exact h.elim
theorem Ni {e sz b:Nat}{zs:List Value}{s x:X}{d:Option Nat}{K:TK}(f:TS G F L ρ M τ) (h:bN P (.app e sz b zs s x) d M τ K):evalOp P (.app e sz b zs s x) d F L ρ (Both G K):=by
 obtain⟨sv,k,j,c,a⟩:=Dc f h;simp only[evalOp,j,c];exact a
theorem JZ {e sz b:Nat}{zs:List Value}{s x:X}{d:Option Nat}{K:TK}(l:TS G F L ρ M τ) (h:bN P (.appX e sz b zs s x) d M τ K):evalOp P (.appX e sz b zs s x) d F L ρ (Both G K):=by
 obtain⟨sv,u,t,o,⟨c,n,xs,m,a,h1,p,f,r,j,k⟩⟩:=Dc l h;simp only[evalOp,t,o];exact⟨c,n,xs,m,a,h1,p,f,r,j,fun v q _=>k v q⟩
set_option maxHeartbeats 1000000 in
theorem J0 {e sz b:Nat}{zs:List Value}{s x:X}{d:Option Nat}{K:TK}(l:TS G F L ρ M τ) (h:bN P (.appD e sz b zs s x) d M τ K):evalOp P (.appD e sz b zs s x) d F L ρ (Both G K):=by
 have he:=l.env;simp only[bN,fQ,eX,eS] at h;simp only[evalOp];split at h
 ·rename_i k f q u;split at h
  case h_2=>exact h.elim
  rename_i e' aw els m;split at h
  case h_2=>exact h.elim
  rename_i h1 h2;obtain rfl:=aaR h1;obtain rfl:=aaR h2;obtain⟨w,j,p,g4⟩:=h;obtain⟨a,c,xs,e1,e2,hr,hm⟩:=tE l q m;obtain⟨a',z,t,r,e4,e5,e6,e7⟩:=lm he u;obtain⟨n,y1,y2,y3⟩:=jr e7 w;rw[e1,r];exact⟨k,els.length,xs,f.length,n,.inl e2,⟨a',z,rfl,y1,y2⟩,y3.ones,j,p,fun v y _=>rX l e2 hr y3 j g4 y⟩
 ·rename_i f k q u;split at h
  case h_2=>exact h.elim
  rename_i m;obtain⟨w,j,p,g4⟩:=h;obtain⟨a',z,t,r,e4,e5,e6,e7⟩:=lm he u;obtain⟨n,y1,y2,y3⟩:=jr e7 w;simp only[abN] at j p;rw[tu he q,r];exact⟨k,0,[],f.length,n,.inr (.inl ⟨rfl,bX l.tl m,rfl,rfl,rfl⟩),⟨a',z,rfl,y1,y2⟩,y3.ones,j,p,fun v y _=>qf l m y3 (by omega) g4 y⟩
 ·rename_i els f k q u;split at h
  case h_2=>exact h.elim
  rename_i m;obtain⟨g0,ad,w,j,p,g4⟩:=h;obtain⟨a,be,e1,hm,e2⟩:=BL he q;obtain⟨a',z,t,r,e4,e5,e6,e7⟩:=lm he u;obtain⟨n,y1,y2,y3⟩:=jr e7 w;obtain⟨xs,x1,x2,x3⟩:=jr e2 ad;rw[e1,r];refine⟨k,els.length,xs,f.length,n,.inr (.inr ⟨rfl,bX l.tl m,a,rfl,g0,x1,x2⟩),⟨a',z,rfl,y1,y2⟩,y3.ones,j,p,fun v y _=>?_⟩;obtain⟨av,cv,rfl,hn⟩:=y;have h1:=l.new (au.le_refl F) (bX l.tl m) (o:=.row (.slice av (els.length+f.length) cv) e sz (els.length+f.length) (xs++n)) (to:=.row e sz (els++f)) ⟨rfl,rfl,by simp,⟨j,av,cv,rfl,hn⟩,x3.append y3⟩;exact⟨_,_,h1.put (c:=.rw k) (lp (by rw[Loc.aac,o5 rfl])) _,g4⟩
 ·exact h.elim
theorem Aw {n:Nat}{y x:X}{d:Option Nat}{K:TK}(w:TS G F L ρ M τ) (h:storeT false n y x d M τ K):evalOp P (.store n y x) d F L ρ (Both G K):=by
 have he:=w.env;simp only[storeT,fQ,eX,eS] at h;simp only[evalOp];split at h
 ·rename_i k off h1 h2 s hy;split at h
  case h_2=>exact h.elim
  rename_i t cs hk;split at h
  case h_2=>exact h.elim
  rename_i hl;obtain⟨g,ty,vs,hL,q,r⟩:=kV w.tl hk;have l:=ia he h1;have o:gQ (aL (val L ρ x)) n=true:=ji (by rw[l.len];exact bU h2);have ho:=wA (nI l s);rw[o,ho,(je he hy).1];simp only[hL];have al:=(q.drop off).take n;rw[oe r.2.2 (ji (by rw[al.len];exact bU hl))];have h4:=w.turn (o':=.box g ty (bP vs off (aL (val L ρ x)))) (to:=.box t (jd cs off (cF (cO τ x)))) hL ⟨rfl,rfl⟩ (fun g' t' cs' e=>by injection e with a b c;subst a b;exact⟨_,rfl⟩)
   (fun L' hx=>⟨r,(mN q l).ext (au.le_refl F) hx⟩)
  exact⟨_,_,h4.put (c:=.und) (sv:=.v undef) ⟨_,rfl,by simp only[Rel]⟩ d,h⟩
 ·rename_i k j off h1 h2 s hy;split at h
  case h_2=>exact h.elim
  rename_i t sz els h0 hk hp;obtain⟨r0,es,r1,r2,r3⟩:=h;obtain⟨ad,t',f,m,c,ar,e1,e2⟩:=wz he hy;obtain⟨v,xs,e3,⟨hm,q6⟩,q⟩:=mg w.tl hk;rw[e2] at e3;injection e3 with e3
  injection e3 with q1 q2 q3 q4 q5
  subst q1 q2 q3 q4 q5;have l:=ia he h1;have p:(aL (val L ρ x)).length=n:=by rw[l.len];exact bU h2
  have o:gQ (aL (val L ρ x)) n=true:=ji p;have ho:=wA (nI l s);rw[o,ho,e1];have bk:es.length=f:=by
   obtain⟨us,u1,_,u3,_⟩:=q.at r1;rw[<-u1,u3.len]
  have hn:off+n<=f:=abb r0;have u:=q.set (ds:=(cF (cO τ x)).map C.can) (us:=aL (val L ρ x)) (off:=off) r1 (by rw[p];exact hn) (kP (jq hp l)) (nH s);have z:j<els.length:=(aaU.1 r1).1;have av:=hU q;have h4:=w.turn (o':=.row (.slice (some ad) els.length c) t' f els.length (bP ar (j*f+off) (aL (val L ρ x)))) (to:=.row t' f (els.set j (jd es off ((cF (cO τ x)).map C.can)))) e2 ⟨rfl,rfl,rfl⟩
   (fun g' bi cs' e=>by cases e) (fun L' hx=>⟨rfl,rfl,by simp,⟨hm,_,_,rfl,fun e=>(by cases e)⟩,u⟩)
  refine⟨k,_,_,_,_,_,ad,c,e2,rfl,rfl,?_,nI l s,_,_,h4.put (c:=.und) (sv:=.v undef) ⟨_,rfl,by simp only[Rel]⟩ d,r3 es r1⟩;rw[av,p];have:(j+1)*f<=els.length*f:=Nat.mul_le_mul_right _ z;rw[Nat.add_mul] at this;omega
 ·exact h.elim
theorem xN {n:Nat}{y x:X}{d:Option Nat}{K:TK}(o:TS G F L ρ M τ) (h:storeT true n y x d M τ K):evalOp P (.storeD n y x) d F L ρ (Both G K):=by
 have he:=o.env;simp only[storeT,fQ,eX,eS] at h;simp only[evalOp];split at h
 ·rename_i k off h1 z r u;split at h
  case h_2=>exact h.elim
  rename_i t cs s;split at h
  case h_2=>exact h.elim
  rename_i hl;obtain⟨g,ty,vs,q,p,f⟩:=kV o.tl s;have m:=ia he h1;have j:gQ (aL (val L ρ x)) n=true:=ji (by rw[m.len];exact bU z);have w:=wA (nI m r);rw[j,w,(je he u).1];simp only[q];have l:=(p.drop off).take n;rw[oe f.2.2 (ji (by rw[l.len];exact bU hl))];have h4:=o.turn (o':=.box g ty (bP vs off (aL (val L ρ x)))) (to:=.box t (jd cs off (cF (cO τ x)))) q ⟨rfl,rfl⟩ (fun g' t' cs' e=>by injection e with a b c;subst a b;exact⟨_,rfl⟩)
   (fun L' hx=>⟨f,(mN p m).ext (au.le_refl F) hx⟩)
  exact⟨_,_,h4.put (c:=.und) (sv:=.v undef) ⟨_,rfl,by simp only[Rel]⟩ d,h⟩
 ·exact h.elim
 ·exact h.elim
theorem HM {e sz b:Nat}{zs:List Value}{l c:X}{d:Option Nat}{K:TK}(j:TS G F L ρ M τ) (h:bN P (.makeS e sz b zs l c) d M τ K):evalOp P (.makeS e sz b zs l c) d F L ρ (Both G K):=by
 have he:=j.env;simp only[bN,fQ,eX,eS] at h;simp only[evalOp];split at h
 case h_2=>exact h.elim
 rename_i k1 n k2 m k hl x;split at h
 case h_2=>exact h.elim
 rename_i v h1 y;rw[(gq he hl).1,(gq he x).1];have f:=bX j.tl v;simp only[f];obtain⟨z,p,w,q,u⟩:=h;refine⟨z,p,w,q,fun g=>?_⟩;have r:ax F [] ((zs.map rF).map C.can) zs:=kP (kN zs);have a:∀i:Nat,aN F sz (List.replicate i ((zs.map rF).map C.can)) (List.replicate i zs).flatten:=by
  intro i
  induction i with
  | zero=>simp only[List.replicate_zero,List.flatten_nil,aN]
  | succ i t =>
   simp only[ab4,List.flatten_cons,aN];exact⟨zs,_,rfl,by have:=bU h1;simpa using this,nH y,r,t⟩
 have s:=j.new (au.le_refl F) f (o:=.row (.slice (some ⟨g,0,none⟩) n.toNat m.toNat) e sz n.toNat (List.replicate n.toNat zs).flatten) (to:=.row e sz (List.replicate n.toNat ((zs.map rF).map C.can)))
  ⟨rfl,rfl,by simp,⟨abx (Int.toNat_le_toNat p) q,_,_,rfl,fun e=>(by cases e)⟩,a _⟩
 exact⟨_,_,s.put (c:=.rw k) (lp (by rw[Loc.aac,o5 rfl])) (some k),u⟩
end
section
variable {P:Program}{G:Nat->Option (Nat×TypeId)}{F:au}{L:Loc}{ρ:Env}{M:TL}{τ:aK}
theorem BN:∀{ks:List Nat}{i j m:Nat},bA ks i j=some m->∃n,ks[n]?=some j/\m=i+n
 | [],_,_,_,h=>by simp[bA] at h
 | k::ks,i,j,m,h=>by
  simp only[bA] at h;cases a:Nat.beq j k with
  | true =>
   have:=aaR a;subst this;rw[a] at h;injection h with h
   exact⟨0,by simp,by omega⟩
  | false =>
   rw[a] at h;obtain⟨n,h1,b⟩:=BN h;exact⟨n+1,by simpa using h1,by omega⟩
theorem nL {ko:List Nat}{j m:Nat}(h:aI ko j=some m):1000<=j/\ko[j-1000]?=some m:=by
 simp only[aI] at h;split at h
 ·rename_i h1;exact⟨abb h1,h⟩
 ·cases h
theorem cJ:∀{l:List Nat},aP l=true->l.Nodup
 | [],_=>List.nodup_nil
 | k::l,h=>by
  simp only[aP] at h;split at h
  ·cases h
  ·rename_i h1;exact List.nodup_cons.2 ⟨fun a=>(by rw[cH.2 a] at h1;cases h1),cJ h⟩
theorem J1 {L':Loc}{f:Nat->Option Nat}(hf:∀j m,f j=some m->∀o,L.get j=some o->L'.get m=some o) (c:C) (v:Value) (d:c.leaf=true) (h:Rel F L c v):Rel F L' (wo f c) v:=by
 cases c<;>simp only[C.leaf,aa5] at d<;>simp only[wo]
 case rw j =>
  simp only[Rel] at h;obtain⟨a,c,t,sz,n,xs,rfl,h⟩:=h;cases b:f j with
  | none=>simp only[Rel]
  | some m=>simp only[Rel];exact⟨a,c,t,sz,n,xs,rfl,hf j m b _ h⟩
 case own j off =>
  simp only[Rel] at h;obtain⟨g,t,cs,h,rfl⟩:=h;cases b:f j with
  | none=>simp only[Rel]
  | some m=>simp only[Rel];exact⟨g,t,cs,hf j m b _ h,rfl⟩
 case mpr j =>
  simp only[Rel] at h;obtain⟨g,cs,h,rfl⟩:=h;cases b:f j with
  | none=>simp only[Rel]
  | some m=>simp only[Rel];exact⟨g,cs,hf j m b _ h,rfl⟩
 case ownv=>exact h.elim
 case elr=>exact h.elim
 all_goals
  exact bH (au.le_refl F) (fun k e=>by rcases e with⟨off,e⟩ | e | e<;>cases e) rfl h
theorem Rel.ren {L':Loc}{f:Nat->Option Nat}(hf:∀j m,f j=some m->∀o,L.get j=some o->L'.get m=some o) {c:C}{v:Value}(h:Rel F L c v):Rel F L' (c.ren f) v:=Rel.mp (J1 hf) 3 h
theorem cD.ren {L':Loc}{f:Nat->Option Nat}(hf:∀j m,f j=some m->∀o,L.get j=some o->L'.get m=some o):∀{o:TO}{p:Own},cD F L o p->cD F L' (o.aad (C.ren f)) p
 | .box t cs,.box g a d,r=>⟨r.1,r.2.map fun c _ v h=>h.ren hf⟩
 | .row t sz els,.row v a b n xs,r=>r
 | .box _ _,.row ..,r=>r.elim
 | .row ..,.box ..,r=>r.elim
 | .map _,.row ..,r=>r.elim
 | .map es,.box g a d,r=>r
theorem j5 (f:bM F L M):∀{ks:List Nat}{Lin:List TO},M.sub ks=some Lin->∃Li,L.sub ks=some Li/\Li.length=Lin.length/\∀(i:Nat) o p,Lin[i]?=some o->Li[i]?=some p->cD F L o p
 | [],Lin,h=>by simp only[TL.sub,aaO] at h;subst h;exact⟨[],rfl,rfl,by simp⟩
 | k::ks,Lin,h=>by
  simp only[TL.sub] at h;split at h
  case h_2=>cases h
  rename_i o l h1 q;injection h with h
  subst h;obtain⟨Li,r,n,j⟩:=j5 f q;rcases dQ (f k) with⟨a,e⟩ | ⟨o',p,a,e,m⟩
  ·rw[h1] at a;cases a
  ·rw[h1] at a;injection a with a
   subst a;refine⟨p::Li,by simp only[Loc.sub,e,r],by simp[n],fun i b d hi c=>?_⟩;cases i with
   | zero=>simp only[aa6,aaO] at hi c;subst hi;subst c;exact m
   | succ i=>exact j i b d (by simpa using hi) (by simpa using c)
theorem lq {ks:List Nat}{Li:List Own}(a:L.sub ks=some Li):∀j m,bA ks 1000 j=some m->∀o,L.get j=some o->(inp Li).get m=some o:=by
 intro j m h o b;obtain⟨n,h1,rfl⟩:=BN h;obtain⟨_,c⟩:=ct a;rw[aF,o5 (by omega),show 1000+n-1000=n by omega,<-c n j h1];exact b
theorem kW (f:bM F L M) {ks:List Nat}{Lin:List TO}{Li:List Own}(e:Li.length=Lin.length) (c:L.sub ks=some Li) (d:∀(i:Nat) o p,Lin[i]?=some o->Li[i]?=some p->cD F L o p) :
  bM F (inp Li) (cC (Lin.map (TO.aad (C.ren (bA ks 1000))))):=by
 intro k;rw[ck,aF];split
 ·rw[aa9];cases b:Lin[k-1000]? with
  | none =>
   have:Li[k-1000]?=none:=by rw[abA] at b ⊢;omega
   rw[this];trivial
  | some o =>
   have a:k-1000<Li.length:=by have:=(aaU.1 b).1;omega
   rw[aaQ a];exact(d _ _ _ b (aaQ a)).ren (lq c)
 ·trivial
def lu (L:Loc) (k:Nat):Loc:=match L.get k with | some (.row ..)=>L.del k | _=>L
def mq:List Nat->Loc->Loc
 | [],L=>L
 | k::ks,L=>mq ks (lu L k)
theorem uP (k:Nat):(∀c v,c.leaf=true->Rel F L c v->Rel F (lu L k) (fP k c) v)/\(∀c sv,c.leaf=true->aJ F L c sv->aJ F (lu L k) (fP k c) sv):=by
 by_cases a:∃v t sz n xs,L.get k=some (.row v t sz n xs)
 ·obtain⟨v,t,sz,n,xs,a⟩:=a;have e:lu L k=L.del k:=by simp only[lu,a]
  rw[e];have h1:∀g t cs,L.get k≠some (.box g t cs):=fun g t cs h=>by rw[a] at h;injection h with h;cases h
  have b:∀j,j≠k->∀o,L.get j=some o->∃o',(L.del k).get j=some o'/\Own.like o o':=fun j d o l=>⟨o,by rw[Loc.aaf,q9 d];exact l,Own.aah o⟩;exact⟨nK h1 b (au.le_refl F),oG h1 b (au.le_refl F)⟩
 ·have e:lu L k=L:=by
   simp only[lu];split
   ·rename_i h;exact vv ⟨_,_,_,_,_,h⟩ a
   ·rfl
  rw[e];refine⟨fun c v f h=>?_,fun c sv f h=>?_⟩
  ·cases c<;>simp only[fP]<;>first
    | exact h
    | exact h.elim
    | (split<;>first | exact h | (simp only[Rel];done))
  ·cases c<;>simp only[fP]<;>first
    | exact h
    | (split<;>first | exact h | trivial)
theorem Rel.kills:∀(ks:List Nat) {L:Loc}{c:C}{v:Value},Rel F L c v->Rel F (mq ks L) (C.kills ks c) v
 | [],L,c,v,h=>h
 | k::ks,L,c,v,h=>Rel.kills ks (Rel.mp (uP k).1 3 h)
theorem aJ.kills:∀(ks:List Nat) {L:Loc}{c:C}{sv:SV},aJ F L c sv->aJ F (mq ks L) (C.kills ks c) sv
 | [],L,c,sv,h=>h
 | k::ks,L,c,sv,h=>aJ.kills ks (aJ.mp (uP k).1 (uP k).2 3 h)
theorem cD.kills (ks:List Nat) {L:Loc}:∀{o:TO}{p:Own},cD F L o p->cD F (mq ks L) (o.aad (C.kills ks)) p
 | .box t cs,.box g a d,r=>⟨r.1,r.2.map fun c _ v h=>h.kills ks⟩
 | .row t sz els,.row v a b n xs,r=>r
 | .box _ _,.row ..,r=>r.elim
 | .row ..,.box ..,r=>r.elim
 | .map _,.row ..,r=>r.elim
 | .map es,.box g a d,r=>r
theorem Df {k j:Nat}{o:Own}(h:(lu L k).get j=some o):L.get j=some o/\(j=k->∃g t cs,o=.box g t cs):=by
 unfold lu at h;split at h
 ·rw[Loc.aaf] at h;split at h
  ·cases h
  ·rename_i b;exact⟨h,fun e=>vv e b⟩
 ·rename_i a;refine⟨h,fun e=>?_⟩;subst e;cases o with
  | box g t cs=>exact⟨g,t,cs,rfl⟩
  | row v t sz n xs=>exact vv h (a v t sz n xs)
theorem oH:∀{ks:List Nat}{L:Loc}{j:Nat}{o:Own},(mq ks L).get j=some o->L.get j=some o/\(j∈ks->∃g t cs,o=.box g t cs)
 | [],L,j,o,h=>⟨h,by simp⟩
 | k::ks,L,j,o,h=>by
  obtain⟨h1,c⟩:=oH (ks:=ks) h;obtain⟨b,d⟩:=Df h1;exact⟨b,fun a=>by
   rcases aaW.1 a with e | e
   ·exact d e
   ·exact c e⟩
theorem xO (ks:List Nat) (M:TL) (k:Nat):(TL.kills ks M).get k=(M.get k).map (TO.aad (C.kills ks)):=by
 cases ks with
 | nil =>
  simp only[TL.kills];cases M.get k with
  | none=>rfl
  | some o =>
   cases o with
   | box t cs =>
    have e:(C.kills []:C->C)=id:=rfl;simp[TO.aad,e]
   | row t sz els=>rfl
   | map es=>rfl
 | cons a ks=>exact qe _ _ _
theorem xP (ks:List Nat) (τ:aK) (j:Nat):dh ks τ j=(τ j).kills ks:=by cases ks<;>rfl
def BO:TO->Bool
 | .row _ _ _=>true
 | _=>false
theorem gb:∀{Lin:List TO}{ks ko:List Nat},aG Lin ks ko=true->∀(i:Nat) o,Lin[i]?=some o->BO o=false->∃k,ks[i]?=some k/\ko[i]?=some k
 | [],_,_,_,i,o,e,_=>by simp at e
 | .box d f::l,[],ko,h,i,o,e,_=>by cases ko<;>simp[aG] at h
 | .box d f::l,k::ks,[],h,i,o,e,_=>by simp[aG] at h
 | .box d f::l,k::ks,c::ko,h,i,o,e,a=>by
  simp only[aG] at h;split at h
  case h_2=>cases h
  rename_i b;have:=aaR b;subst this;cases i with
  | zero=>exact⟨k,by simp,by simp⟩
  | succ i=>simpa using gb h i o (by simpa using e) a
 | .map es::l,[],ko,h,i,o,e,_=>by cases ko<;>simp[aG] at h
 | .map es::l,k::ks,[],h,i,o,e,_=>by simp[aG] at h
 | .map es::l,k::ks,c::ko,h,i,o,e,a=>by
  simp only[aG] at h;split at h
  case h_2=>cases h
  rename_i b;have:=aaR b;subst this;cases i with
  | zero=>exact⟨k,by simp,by simp⟩
  | succ i=>simpa using gb h i o (by simpa using e) a
 | .row ..::l,k::ks,c::ko,h,i,o,e,a=>by
  simp only[aG] at h;cases i with
  | zero =>
   simp only[aa6,aaO] at e;subst e;cases a
  | succ i=>simpa using gb h i o (by simpa using e) a
 | .row ..::l,k::ks,[],h,i,o,e,a=>by
  simp only[aG] at h;cases i with
  | zero =>
   simp only[aa6,aaO] at e;subst e;cases a
  | succ i =>
   obtain⟨c,h1,j⟩:=gb h i o (by simpa using e) a;simp at j
 | .row ..::l,[],ko,h,i,o,e,_=>by simp[aG] at h
theorem xQ {Lin:List TO}{ks ko:List Nat}(h:aG Lin ks ko=true) (i:Nat) (t:TypeId) (cs:List C) (e:Lin[i]?=some (.box t cs)):∃k,ks[i]?=some k/\ko[i]?=some k:=gb h i _ e rfl
theorem qQ {M:TL}{ks:List Nat}:∀{ko:List Nat},jv M ks ko=true->∀k∈ko,k∈ks\/M.get k=none
 | [],_,k,a=>by simp at a
 | k0::ko,h,k,a=>by
  simp only[jv] at h;rcases aaW.1 a with e | e
  ·subst e;split at h
   ·rename_i h1;exact .inl (cH.1 h1)
   ·rename_i h1 b;exact .inr b
   ·cases h
  ·split at h
   ·exact qQ h k e
   ·exact qQ h k e
   ·cases h
theorem dV {ko:List Nat}{Lo:List Own}{L:Loc}(c:ko.Nodup) (d:ko.length=Lo.length) {i k:Nat}{o:Own}(b:ko[i]?=some k) (e:Lo[i]?=some o):(L.puts ko Lo).get k=some o:=by
 rcases cL ko Lo L k c d with⟨_,a⟩ | ⟨f,h1,a,_⟩
 ·exact vv (aaZ b) a
 ·have:=Ac c h1 b;subst this;rw[a,e]
theorem rY {k:Nat}{t sz:Nat}{els:List (List C)}(h:M.get k=some (.row t sz els)):∀{ks:List Nat},k∈ks->k∈rowsOf M ks
 | [],a=>by cases a
 | j::ks,a=>by
  simp only[rowsOf];rcases aaW.1 a with rfl | a
  ·rw[h];simp
  ·split
   ·exact abj _ (rY h a)
   ·exact rY h a
theorem xR {ks:List Nat}{k:Nat}{o:Own}(f:bM F L M) (e:k∈ks) (h:L.get k=some o) (hb:k∈rowsOf M ks->∃g t cs,o=.box g t cs):∃g t cs,o=.box g t cs:=by
 rcases dQ (f k) with⟨d,a⟩ | ⟨q,p,d,a,c⟩
 ·rw[h] at a;cases a
 ·rw[h] at a;injection a with a
  subst a;cases q with
  | row t sz els=>exact hb (rY d e)
  | box t cs =>
   cases o with
   | row=>exact c.elim
   | box g b cs'=>exact⟨g,b,cs',rfl⟩
  | map es =>
   cases o with
   | row=>exact c.elim
   | box g b cs'=>exact⟨g,b,cs',rfl⟩
theorem qR {f:Nat}{args:List C}{vs:List Value}{ks ko:List Nat}{Lin:List TO}{R:List TO->C->Prop}{K:TL->aK->C->Prop}(z:TS G F L ρ M τ) (ha:ax F L args vs)
  (h1:M.sub ks=some Lin) (h2:aP ks=true) (h3:aP ko=true) (h4:jv M ks ko=true) (h5:aG Lin ks ko=true)
  (h6:CallsT P f (args.map fun c=>c.aaj.ren (bA ks 1000)) (Lin.map (TO.aad (C.ren (bA ks 1000)))) R)
  (h7:∀v Mo,R Mo v->Wf v->(∀o∈Mo,o.Wf)->ko.length=Mo.length/\K (((M.aae ks).kills (rowsOf M ks)).puts ko (Mo.map (TO.aad (C.ren (aI ko))))) (dh (rowsOf M ks) τ) (v.ren (aI ko)).slt) :
  dO P f vs F L (fun F' L' v=>∃M' al c,TS G F' L' ρ M' al/\aJ F' L' c (.v v)/\K M' al c):=by
 obtain⟨Li,e1,e2,e3⟩:=j5 z.tl h1;have hn:=cJ h2;have l:=cJ h3;have ag:∀k,k∈ko->k∈ks\/L.get k=none:=fun k n=>(qQ h4 k n).imp id fun e=>bX z.tl e;have aw:=ct e1;refine⟨ks,ko,Li,gC Li R,e1,hn,l,ag,h6.out F Li vs (by simp[e2]) (kW z.tl e2 e1 e3) ?_,?_⟩
 ·exact ha.map fun c _ v hc=>(iX hc).ren (lq e1)
 ·rintro v F' Lo hF ⟨Mo,c,q1,q2,q3,q4,q5⟩;have bb:∀o∈Mo,o.Wf:=by
   intro o u;obtain⟨i,hi⟩:=abh.1 u;have d:i<Lo.length:=by rw[<-q1];exact(aaU.1 hi).1
   have:=q2 (1000+i);rw[ck,aF,o5 (by omega),o5 (by omega),show 1000+i-1000=i by omega,hi,aaQ d] at this;exact cD.wf this
  obtain⟨k1,k2⟩:=h7 c Mo q5 q3.wf bb;have b:ko.length=Lo.length:=by rw[k1,q1]
  have a:∀k g t cs,k∈ks->L.get k=some (.box g t cs)->∃cs',Loc.get ((L.aae ks).puts ko Lo) k=some (.box g t cs'):=by
   intro k g t cs n hg;obtain⟨i,hi⟩:=abh.1 n;have w:Li[i]?=some (.box g t cs):=by rw[<-aw.2 i k hi];exact hg
   have d:i<Lin.length:=by rw[<-e2];exact(aaU.1 w).1
   have hr:=e3 i _ _ (aaQ d) w;cases hL:Lin[i] with
   | row=>rw[hL] at hr;exact hr.elim
   | box t' cs' =>
    obtain⟨k',q,b2⟩:=xQ h5 i t' cs' (by rw[aaQ d,hL]);rw[hi] at q;injection q with q
    subst q;obtain⟨ab,ae⟩:=q4 i g t cs w;exact⟨ab,dV l b b2 ae⟩
   | map es =>
    obtain⟨k',q,b2⟩:=gb h5 i (.map es) (by rw[aaQ d,hL]) rfl;rw[hi] at q;injection q with q
    subst q;obtain⟨ab,ae⟩:=q4 i g t cs w;exact⟨ab,dV l b b2 ae⟩
  refine⟨b,a,?_⟩;generalize s:(L.aae ks).puts ko Lo=L' at a
  -- what was there before
  have x:∀k,k∉ks->∀o,L.get k=some o->L'.get k=some o:=by
   intro k n o u;rw[<-s];rcases cL ko Lo (L.aae ks) k l b with⟨a1,a2⟩ | ⟨i,a1,a2,a3⟩
   ·rw[a1,eO,q9 n];exact u
   ·rcases ag k (aaZ a1) with e | e
    ·exact vv e n
    ·rw[u] at e;cases e
  have aa:Ext (mq (rowsOf M ks) L) L':=by
   intro k o u;obtain⟨g1,g2⟩:=oH u
   by_cases n:k∈ks
   ·obtain⟨g,t,cs,rfl⟩:=xR z.tl n g1 g2;obtain⟨cs',h⟩:=a k g t cs n g1;exact⟨_,h,rfl,rfl⟩
   ·exact⟨o,x k n o g1,Own.aah o⟩
  have r:∀j m,aI ko j=some m->∀o,(inp Lo).get j=some o->L'.get m=some o:=by
   intro j m hj o u;obtain⟨a1,a2⟩:=nL hj;rw[aF,o5 a1] at u;rw[<-s];exact dV l b a2 u
  refine⟨_,_,_,⟨fun k=>?_,fun j=>?_,fun k g t e=>?_,z.glob.mono hF⟩,kC (q3.ren r),k2⟩
  ·rcases nJ ko (Mo.map (TO.aad (C.ren (aI ko)))) ((M.aae ks).kills (rowsOf M ks)) k l (by simp[k1]) with⟨a1,a2⟩ | ⟨i,a1,a2,a3⟩
   ·have ad:L'.get k=(L.aae ks).get k:=by
     rw[<-s];rcases cL ko Lo (L.aae ks) k l b with⟨q,_⟩ | ⟨i,q,_,_⟩
     ·exact q
     ·exact vv (aaZ q) a2
    rw[a1,ad,xO,qP,eO];split
    ·trivial
    ·rcases dQ (z.tl k) with⟨c1,c2⟩ | ⟨o,p,c1,c2,hr⟩
     ·rw[c1,c2];trivial
     ·rw[c1,c2];exact(hr.kills (rowsOf M ks)).ext hF aa
   ·rw[a2,aa9];have d:i<Mo.length:=by simpa using a3
    have y:i<Lo.length:=by omega
    have ad:L'.get k=some (Lo[i]):=by rw[<-s];exact dV l b a1 (aaQ y)
    rw[ad,aaQ d];have:=q2 (1000+i);rw[ck,aF,o5 (by omega),o5 (by omega),show 1000+i-1000=i by omega,aaQ d,aaQ y] at this;exact cD.ren r this
  ·rw[xP];exact((z.env j).kills (rowsOf M ks)).ext hF aa
  ·obtain⟨cs,h⟩:=z.kp k g t e
   by_cases n:k∈ks
   ·exact a k g t cs n h
   ·exact⟨cs,x k n _ h⟩
theorem uQ {f:Nat}{args:List C}{vs:List Value}{ks:List Nat}{Lin:List TO}{R:List TO->C->Prop}{K:TL->aK->C->Prop}(ht:TS G F L ρ M τ) (ha:ax F L args vs)
  (h1:M.sub ks=some Lin) (h2:aP ks=true) (h6:iD P f (args.map fun c=>c.aaj.ren (bA ks 1000)) (Lin.map (TO.aad (C.ren (bA ks 1000)))) R)
  (h7:∀v Mo,R Mo v->Wf v->(∀o∈Mo,o.Wf)->ks.length=Mo.length/\K ((M.aae ks).puts ks (Mo.map (TO.aad (C.ren (aI ks))))) τ (v.ren (aI ks)).slt) :
  dO P f vs F L (fun F' L' v=>∃M' ad c,TS G F' L' ρ M' ad/\aJ F' L' c (.v v)/\K M' ad c):=by
 obtain⟨Li,e1,e2,e3⟩:=j5 ht.tl h1;have q:=cJ h2;have ac:=ct e1;refine⟨ks,ks,Li,_,e1,q,q,fun k d=>.inl d,h6.out F Li vs (by simp[e2]) (kW ht.tl e2 e1 e3) ?_,?_⟩
 ·exact ha.map fun c _ v hc=>(iX hc).ren (lq e1)
 ·rintro v F' Lo hF ⟨⟨Mo,c,q1,q2,q3,q4,q5⟩,bt,ag⟩;have aw:∀o∈Mo,o.Wf:=by
   intro o s;obtain⟨i,hi⟩:=abh.1 s;have r:i<Lo.length:=by rw[<-q1];exact(aaU.1 hi).1
   have:=q2 (1000+i);rw[ck,aF,o5 (by omega),o5 (by omega),show 1000+i-1000=i by omega,hi,aaQ r] at this;exact cD.wf this
  obtain⟨k1,k2⟩:=h7 c Mo q5 q3.wf aw;have a:ks.length=Lo.length:=by rw[k1,q1]
  have b:∀k g t cs,k∈ks->L.get k=some (.box g t cs)->∃cs',Loc.get ((L.aae ks).puts ks Lo) k=some (.box g t cs'):=by
   intro k g t cs d hg;obtain⟨i,hi⟩:=abh.1 d;have aa:Li[i]?=some (.box g t cs):=by rw[<-ac.2 i k hi];exact hg
   obtain⟨an,aE⟩:=q4 i g t cs aa;exact⟨an,dV q a hi aE⟩
  refine⟨a,b,?_⟩;generalize l:(L.aae ks).puts ks Lo=L' at b;have u:∀k,k∉ks->∀o,L.get k=some o->L'.get k=some o:=by
   intro k d o s;rw[<-l];rcases cL ks Lo (L.aae ks) k q a with⟨a1,y⟩ | ⟨i,a1,y,a3⟩
   ·rw[a1,eO,q9 d];exact s
   ·exact vv (aaZ a1) d
  have x:Ext L L':=by
   intro k o s
   by_cases d:k∈ks
   ·obtain⟨i,hi⟩:=abh.1 d;have aa:Li[i]?=some o:=by rw[<-ac.2 i k hi];exact s
    obtain⟨o',h1,h2⟩:=ag i o aa;exact⟨o',by rw[<-l];exact dV q a hi h1,h2⟩
   ·exact⟨o,u k d o s,Own.aah o⟩
  have n:∀j m,aI ks j=some m->∀o,(inp Lo).get j=some o->L'.get m=some o:=by
   intro j m hj o s;obtain⟨a1,y⟩:=nL hj;rw[aF,o5 a1] at s;rw[<-l];exact dV q a y s
  refine⟨_,_,_,⟨fun k=>?_,fun j=>(ht.env j).ext hF x,fun k g t e=>?_,ht.glob.mono hF⟩,kC (q3.ren n),k2⟩
  ·rcases nJ ks (Mo.map (TO.aad (C.ren (aI ks)))) (M.aae ks) k q (by simp[k1]) with⟨a1,y⟩ | ⟨i,a1,y,a3⟩
   ·have z:L'.get k=(L.aae ks).get k:=by
     rw[<-l];rcases cL ks Lo (L.aae ks) k q a with⟨b1,_⟩ | ⟨i,b1,_,_⟩
     ·exact b1
     ·exact vv (aaZ b1) y
    rw[a1,z,qP,eO];split
    ·trivial
    ·rcases dQ (ht.tl k) with⟨c1,c2⟩ | ⟨o,p,c1,c2,hr⟩
     ·rw[c1,c2];trivial
     ·rw[c1,c2];exact hr.ext hF x
   ·rw[y,aa9];have r:i<Mo.length:=by simpa using a3
    have w:i<Lo.length:=by omega
    have z:L'.get k=some (Lo[i]):=by rw[<-l];exact dV q a a1 (aaQ w)
    rw[z,aaQ r];have:=q2 (1000+i);rw[ck,aF,o5 (by omega),o5 (by omega),show 1000+i-1000=i by omega,aaQ r,aaQ w] at this;exact cD.ren n this
  ·obtain⟨cs,h⟩:=ht.kp k g t e
   by_cases d:k∈ks
   ·exact b k g t cs d h
   ·exact⟨cs,u k d _ h⟩
theorem qU {ks:List Nat}:∀{ko:List Nat},(∀k∈ko,k∈ks)->jv M ks ko=true
 | [],_=>rfl
 | k::ko,h=>by
  simp only[jv,cH.2 (h k (by simp))];exact qU fun j a=>h j (by simp[a])
def Vj (hb:List (Nat×Nat)) (L:Loc):Prop:=∀k n,(k,n)∈hb->∃g t cs,L.get k=some (.box g t cs)/\cs.length=n
def EQ (F':au) (L':Loc) (M':TL):Prop:=∀k o,M'.get k=some o->∃p,L'.get k=some p/\cD F' L' o p
theorem Ay {F':au}{L':Loc}{M':TL}(h:bM F' L' M'):EQ F' L' M':=fun k o e=>by
 rcases dQ (h k) with⟨a,b⟩ | ⟨o',p,a,b,c⟩
 ·rw[e] at a;cases a
 ·rw[e] at a;injection a with a
  subst a;exact⟨p,b,c⟩
def Nj (PS:nG) (F':au) (L':Loc) (v:Value):Prop:=∀s,PS.st=some s->∃M',EQ F' L' M'/\s M' v
theorem Nj.no {PS:nG}(h:PS.st=none) {F':au}{L':Loc}{v:Value}:Nj PS F' L' v:=fun s e=>by rw[h] at e;cases e
def zu (G:Nat->Option (Nat×TypeId)) (PS:nG) (F':au) (L':Loc) (v:Value):Prop:=Kp G L'/\PS.ps v/\Vj PS.hb L'/\Nj PS F' L' v
theorem Dg:∀{hb:List (Nat×Nat)}{ks:List Nat},jw M ks hb=true->∀k n,(k,n)∈hb->k∉ks/\∃t cs,M.get k=some (.box t cs)/\cs.length=n
 | [],ks,_,k,n,h=>by cases h
 | (j,m)::l,ks,h,k,n,a=>by
  simp only[jw] at h;split at h
  case h_2=>cases h
  rename_i t cs h1 d;split at h
  case h_2=>cases h
  rename_i c;rcases aaW.1 a with e | a
  ·simp only[Prod.mk.injEq] at e;obtain⟨rfl,rfl⟩:=e;exact⟨fun b=>(by rw[cH.2 b] at h1;cases h1),t,cs,d,bU c⟩
  ·exact Dg h k n a
theorem Nk {hb:List (Nat×Nat)}{ks:List Nat}{L':Loc}(e:bM F L M) (h:jw M ks hb=true) (c:∀k g t cs,k∉ks->L.get k=some (.box g t cs)->L'.get k=some (.box g t cs)):Vj hb L':=by
 intro k n l;obtain⟨h1,t,cs,j,b⟩:=Dg h k n l;obtain⟨g,ty,a,f,d,_⟩:=kV e j;exact⟨g,ty,a,c k g ty a h1 f,by rw[d.len,b]⟩
theorem qV {ks ko:List Nat}{Lin:List TO}{Li:List Own}{R:List TO->C->Prop}{K:TL->aK->C->Prop}(ht:TS G F L ρ M τ)
  (h2:aP ks=true) (h3:aP ko=true) (h4:jv M ks ko=true) (h5:aG Lin ks ko=true) (e1:L.sub ks=some Li) (e2:Li.length=Lin.length) (e3:∀(i:Nat) o p,Lin[i]?=some o->Li[i]?=some p->cD F L o p)
  (h7:∀v Mo,R Mo v->Wf v->(∀o∈Mo,o.Wf)->ko.length=Mo.length/\K (((M.aae ks).kills (rowsOf M ks)).puts ko (Mo.map (TO.aad (C.ren (aI ko))))) (dh (rowsOf M ks) τ) (v.ren (aI ko)).slt) :
  ∀v F' Lo,F.le F'->gC Li R F' Lo v->ko.length=Lo.length/\(∀k g t cs,k∈ks->L.get k=some (.box g t cs)->∃cs',Loc.get ((L.aae ks).puts ko Lo) k=some (.box g t cs')) /\
   ∃M' ae c,TS G F' ((L.aae ks).puts ko Lo) ρ M' ae/\aJ F' ((L.aae ks).puts ko Lo) c (.v v)/\K M' ae c:=by
 have hn:=cJ h2;have f:=cJ h3;have ao:∀k,k∈ko->k∈ks\/L.get k=none:=fun k l=>(qQ h4 k l).imp id fun e=>bX ht.tl e;have ar:=ct e1;rintro v F' Lo hF ⟨Mo,c,q1,q2,q3,q4,q5⟩;have az:∀o∈Mo,o.Wf:=by
  intro o s;obtain⟨i,hi⟩:=abh.1 s;have d:i<Lo.length:=by rw[<-q1];exact(aaU.1 hi).1
  have:=q2 (1000+i);rw[ck,aF,o5 (by omega),o5 (by omega),show 1000+i-1000=i by omega,hi,aaQ d] at this;exact cD.wf this
 obtain⟨k1,k2⟩:=h7 c Mo q5 q3.wf az;have b:ko.length=Lo.length:=by rw[k1,q1]
 have a:∀k g t cs,k∈ks->L.get k=some (.box g t cs)->∃cs',Loc.get ((L.aae ks).puts ko Lo) k=some (.box g t cs'):=by
  intro k g t cs l hg;obtain⟨i,hi⟩:=abh.1 l;have u:Li[i]?=some (.box g t cs):=by rw[<-ar.2 i k hi];exact hg
  have d:i<Lin.length:=by rw[<-e2];exact(aaU.1 u).1
  have hr:=e3 i _ _ (aaQ d) u;cases hL:Lin[i] with
  | row=>rw[hL] at hr;exact hr.elim
  | box t' cs' =>
   obtain⟨k',n,b2⟩:=xQ h5 i t' cs' (by rw[aaQ d,hL]);rw[hi] at n;injection n with n
   subst n;obtain⟨z,ac⟩:=q4 i g t cs u;exact⟨z,dV f b b2 ac⟩
  | map es =>
   obtain⟨k',n,b2⟩:=gb h5 i (.map es) (by rw[aaQ d,hL]) rfl;rw[hi] at n;injection n with n
   subst n;obtain⟨z,ac⟩:=q4 i g t cs u;exact⟨z,dV f b b2 ac⟩
 refine⟨b,a,?_⟩;generalize r:(L.aae ks).puts ko Lo=L' at a
 -- what was there before
 have w:∀k,k∉ks->∀o,L.get k=some o->L'.get k=some o:=by
  intro k l o s;rw[<-r];rcases cL ko Lo (L.aae ks) k f b with⟨a1,a2⟩ | ⟨i,a1,a2,a3⟩
  ·rw[a1,eO,q9 l];exact s
  ·rcases ao k (aaZ a1) with e | e
   ·exact vv e l
   ·rw[s] at e;cases e
 have y:Ext (mq (rowsOf M ks) L) L':=by
  intro k o s;obtain⟨g1,g2⟩:=oH s
  by_cases l:k∈ks
  ·obtain⟨g,t,cs,rfl⟩:=xR ht.tl l g1 g2;obtain⟨cs',h⟩:=a k g t cs l g1;exact⟨_,h,rfl,rfl⟩
  ·exact⟨o,w k l o g1,Own.aah o⟩
 have q:∀j m,aI ko j=some m->∀o,(inp Lo).get j=some o->L'.get m=some o:=by
  intro j m hj o s;obtain⟨a1,a2⟩:=nL hj;rw[aF,o5 a1] at s;rw[<-r];exact dV f b a2 s
 refine⟨_,_,_,⟨fun k=>?_,fun j=>?_,fun k g t e=>?_,ht.glob.mono hF⟩,kC (q3.ren q),k2⟩
 ·rcases nJ ko (Mo.map (TO.aad (C.ren (aI ko)))) ((M.aae ks).kills (rowsOf M ks)) k f (by simp[k1]) with⟨a1,a2⟩ | ⟨i,a1,a2,a3⟩
  ·have ab:L'.get k=(L.aae ks).get k:=by
    rw[<-r];rcases cL ko Lo (L.aae ks) k f b with⟨n,_⟩ | ⟨i,n,_,_⟩
    ·exact n
    ·exact vv (aaZ n) a2
   rw[a1,ab,xO,qP,eO];split
   ·trivial
   ·rcases dQ (ht.tl k) with⟨c1,c2⟩ | ⟨o,p,c1,c2,hr⟩
    ·rw[c1,c2];trivial
    ·rw[c1,c2];exact(hr.kills (rowsOf M ks)).ext hF y
  ·rw[a2,aa9];have d:i<Mo.length:=by simpa using a3
   have x:i<Lo.length:=by omega
   have ab:L'.get k=some (Lo[i]):=by rw[<-r];exact dV f b a1 (aaQ x)
   rw[ab,aaQ d];have:=q2 (1000+i);rw[ck,aF,o5 (by omega),o5 (by omega),show 1000+i-1000=i by omega,aaQ d,aaQ x] at this;exact cD.ren q this
 ·rw[xP];exact((ht.env j).kills (rowsOf M ks)).ext hF y
 ·obtain⟨cs,h⟩:=ht.kp k g t e
  by_cases l:k∈ks
  ·exact a k g t cs l h
  ·exact⟨cs,w k l _ h⟩
theorem xS {PS:nG}{Pp:Value->Prop}{f:Nat}{args:List C}{u:List Value}{ks ko:List Nat}{Lin:List TO}{R:List TO->C->Prop}{K:TL->aK->C->Prop}(a:TS G F L ρ M τ) (ha:ax F L args u)
  (h1:M.sub ks=some Lin) (z:aP ks=true) (x:aP ko=true) (h4:jv M ks ko=true) (h5:aG Lin ks ko=true) (r:jw M ks PS.hb=true)
  (h6:CallsTX P f (args.map fun c=>c.aaj.ren (bA ks 1000)) (Lin.map (TO.aad (C.ren (bA ks 1000)))) R Pp) (n:∀v,Pp v->PS.ps v) (p:PS.st=none)
  (h7:∀v Mo,R Mo v->Wf v->(∀o∈Mo,o.Wf)->ko.length=Mo.length/\K (((M.aae ks).kills (rowsOf M ks)).puts ko (Mo.map (TO.aad (C.ren (aI ko))))) (dh (rowsOf M ks) τ) (v.ren (aI ko)).slt) :
  ∃Li,L.sub ks=some Li/\ks.Nodup/\ko.Nodup/\(∀k,k∈ko->k∈ks\/L.get k=none)/\n8 P f u.toArray F Li (gC Li R) Pp/\(∀v F' L',xh ks L L'->Pp v->zu G PS F' L' v) /\
  ∀v F' Lo,F.le F'->gC Li R F' Lo v->ko.length=Lo.length/\(∀k g t cs,k∈ks->L.get k=some (.box g t cs)->∃cs',Loc.get ((L.aae ks).puts ko Lo) k=some (.box g t cs')) /\
   ∃M' d c,TS G F' ((L.aae ks).puts ko Lo) ρ M' d/\aJ F' ((L.aae ks).puts ko Lo) c (.v v)/\K M' d c:=by
 obtain⟨Li,j,s,y⟩:=j5 a.tl h1;have hn:=cJ z;have w:=cJ x;have m:∀k,k∈ko->k∈ks\/L.get k=none:=fun k l=>(qQ h4 k l).imp id fun e=>bX a.tl e;have ae:=ct j;refine⟨Li,j,hn,w,m,h6.out F Li u (by simp[s]) (kW a.tl s j y) ?_,fun v F' L' b hv=>⟨fun k g t e=>let⟨cs,h⟩:=a.kp k g t e;let⟨cs',h',_⟩:=b k g t cs h;⟨cs',h'⟩,n v hv,Nk a.tl r fun k g t cs l e=>let⟨cs',h',q⟩:=b k g t cs e;by rw[h',q l],Nj.no p⟩,?_⟩
 ·exact ha.map fun c _ v hc=>(iX hc).ren (lq j)
 ·exact qV a z x h4 h5 j s y h7
theorem Az {PS:nG}{Pp:Value->Prop}{f:Nat}{args:List C}{h:List Value}{ks ko:List Nat}{Lin:List TO}{R:List TO->C->Prop}{K:TL->aK->C->Prop}(u:TS G F L ρ M τ) (n:ax F L args h)
  (h1:M.sub ks=some Lin) (w:aP ks=true) (k:aP ko=true) (z:jv M ks ko=true) (q:aG Lin ks ko=true) (e:jw M ks PS.hb=true)
  (s:CallsTX P f (args.map fun c=>c.aaj.ren (bA ks 1000)) (Lin.map (TO.aad (C.ren (bA ks 1000)))) R Pp) (b:∀v,Pp v->PS.ps v) (d:PS.st=none)
  (x:∀v Mo,R Mo v->Wf v->(∀o∈Mo,o.Wf)->ko.length=Mo.length/\K (((M.aae ks).kills (rowsOf M ks)).puts ko (Mo.map (TO.aad (C.ren (aI ko))))) (dh (rowsOf M ks) τ) (v.ren (aI ko)).slt) :
  fG P (zu G PS) f h F L (fun F' L' v=>∃M' a c,TS G F' L' ρ M' a/\aJ F' L' c (.v v)/\K M' a c):=by
 obtain⟨Li,p,j,t,q4,r,m,l⟩:=xS u n h1 w k z q e s b d x;exact⟨ks,ko,Li,gC Li R,fun _ _=>Pp,p,j,t,q4,r.toS,fun v F' Lo _ _ hb y=>m v F' _ hb y,l⟩
theorem jI:∀{Lin:List TO}{ks ko:List Nat},aG Lin ks ko=true->aG Lin ks ks=true
 | [],ks,ko,h=>by simp only[aG]
 | .box t cs::l,[],ko,h=>by simp only[aG] at h;cases h
 | .map es::l,[],ko,h=>by simp only[aG] at h;cases h
 | .row t sz els::l,[],ko,h=>by simp only[aG] at h;cases h
 | .box t cs::l,k::ks,[],h=>by simp only[aG] at h;cases h
 | .map es::l,k::ks,[],h=>by simp only[aG] at h;cases h
 | .box t cs::l,k::ks,a::ko,h=>by
  have e:Nat.beq k k=true:=by simp
  simp only[aG] at h ⊢;split at h
  ·rw[e];exact jI h
  ·cases h
 | .map es::l,k::ks,a::ko,h=>by
  have e:Nat.beq k k=true:=by simp
  simp only[aG] at h ⊢;split at h
  ·rw[e];exact jI h
  ·cases h
 | .row t sz els::l,k::ks,[],h=>by
  simp only[aG] at h ⊢;exact jI h
 | .row t sz els::l,k::ks,a::ko,h=>by
  simp only[aG] at h ⊢;exact jI h
theorem AA {ps:Value->Prop}{hb:List (Nat×Nat)}{st:TL->Value->Prop}{PS:nG}{Pp:List TO->Value->Prop}{f:Nat}{args:List C}{vs:List Value}{ks ko:List Nat}{Lin:List TO}{R:List TO->C->Prop}{K:TL->aK->C->Prop}(l:TS G F L ρ M τ) (ha:ax F L args vs)
  (am:PS=⟨ps,hb,some st⟩) (h1:M.sub ks=some Lin) (j:aP ks=true) (h3:aP ko=true) (h4:jv M ks ko=true) (h5:aG Lin ks ko=true) (ae:jw M ks hb=true)
  (h6:CallsTS P f (args.map fun c=>c.aaj.ren (bA ks 1000)) (Lin.map (TO.aad (C.ren (bA ks 1000)))) R Pp)
  (ab:∀v Mo,Pp Mo v->(∀o∈Mo,o.Wf)->ks.length=Mo.length->ps v/\st (((M.aae ks).kills (rowsOf M ks)).puts ks (Mo.map (TO.aad (C.ren (aI ks))))) v)
  (h7:∀v Mo,R Mo v->Wf v->(∀o∈Mo,o.Wf)->ko.length=Mo.length/\K (((M.aae ks).kills (rowsOf M ks)).puts ko (Mo.map (TO.aad (C.ren (aI ko))))) (dh (rowsOf M ks) τ) (v.ren (aI ko)).slt) :
  fG P (zu G PS) f vs F L (fun F' L' v=>∃M' d c,TS G F' L' ρ M' d/\aJ F' L' c (.v v)/\K M' d c):=by
 subst am;obtain⟨Li,m,x,z⟩:=j5 l.tl h1;have hn:=cJ j;have an:=cJ h3;have aa:∀k,k∈ko->k∈ks\/L.get k=none:=fun k p=>(qQ h4 k p).imp id fun e=>bX l.tl e;obtain⟨ag,ad⟩:=ct m;refine⟨ks,ko,Li,gC Li R,_,m,hn,an,aa,h6.out F Li vs (by simp[x]) (kW l.tl x m z) (ha.map fun c _ v hc=>(iX hc).ren (lq m)),?_,qV l j h3 h4 h5 m x z h7⟩;rintro v F' Lo hF n r ⟨Mo,q1,q2,q3⟩;have ac:∀o∈Mo,o.Wf:=by
  intro o ho;obtain⟨i,hi⟩:=abh.1 ho;have a:i<Lo.length:=by rw[<-q1];exact(aaU.1 hi).1
  have:=q2 (1000+i);rw[ck,aF,o5 (by omega),o5 (by omega),show 1000+i-1000=i by omega,hi,aaQ a] at this;exact cD.wf this
 obtain⟨p1,p2⟩:=ab v Mo q3 ac (by omega);have w:gC Li (fun Mo' _=>Mo'=Mo) F' Lo undef:=by
  refine⟨Mo,.any,q1,q2,by simp only[Rel],fun i g t cs e=>?_,rfl⟩;have a:i<ks.length:=by rw[<-ag];exact(aaU.1 e).1
  have u:=ad i _ (aaQ a);rw[e] at u;obtain⟨cs',h,_⟩:=r _ g t cs u;have j:Loc.get ((L.aae ks).puts ks Lo) ks[i]=Lo[i]?:=by
   have b:i<Lo.length:=by omega
   rw[aaQ b];exact dV hn n (aaQ a) (aaQ b)
  exact⟨cs',by rw[<-j];exact h⟩
 have y:aG Lin ks ks=true:=jI h5;obtain⟨_,_,M',d,c,t1,_,rfl⟩:=qV (K:=fun M' _ _=>M'=((M.aae ks).kills (rowsOf M ks)).puts ks (Mo.map (TO.aad (C.ren (aI ks))))) l j j (qU fun k p=>p) y m x z
  (fun v' Mo' e _ _=>by subst e;exact⟨by omega,rfl⟩) undef F' Lo hF w
 exact⟨t1.kp,p1,Nk l.tl ae fun k g t cs p e=>(let⟨cs',h',q⟩:=r k g t cs e;by rw[h',q p]),fun s e=>by injection e with e;subst e;exact⟨_,Ay t1.tl,p2⟩⟩
theorem TS.same {L2:Loc}(b:TS G F L ρ M τ) (a:L.sameAs L2):TS G F L2 ρ M τ:=by
 have he:Ext L L2:=fun k o e=>⟨o,by rw[a k];exact e,Own.aah o⟩;refine⟨fun k=>?_,fun j=>(b.env j).ext (au.le_refl F) he,fun k g t e=>?_,b.glob⟩
 ·rcases dQ (b.tl k) with⟨d,c⟩ | ⟨o,p,d,c,f⟩
  ·rw[a k,d,c];trivial
  ·rw[a k,d,c];exact f.ext (au.le_refl F) he
 ·obtain⟨cs,h⟩:=b.kp k g t e;exact⟨cs,by rw[a k];exact h⟩
theorem xT:∀{ks a:List Nat},qb ks a=true->∀k∈ks,k∉a
 | [],a,_,k,h=>by cases h
 | j::ks,a,h,k,b=>by
  simp only[qb] at h;split at h
  ·cases h
  ·rename_i c;rcases aaW.1 b with rfl | b
   ·intro d;rw[cH.2 d] at c;cases c
   ·exact xT h k b
theorem xU {PS:nG}{s:List Nat}{f:Nat}{args:List C}{q:List Value}{K:TL->aK->C->Prop}(ht:TS G F L ρ M τ) (ha:ax F L args q) (h:oF P PS s f args M τ K) (l:PS.st=none) :
  kH P (zu G PS) s f q F L (fun F' L' v=>∃M' b c,TS G F' L' ρ M' b/\aJ F' L' c (.v v)/\K M' b c):=by
 obtain⟨ks,Lin,R,Pp,h1,p,h0,h5,m,h6,j,h7⟩:=h;have h4:jv M ks ks=true:=qU (fun k x=>x);obtain⟨Li,q1,n,q3,q4,q5,z,y⟩:=xS ht ha h1 p p h4 h5 m h6 j l h7;refine⟨ks,Li,gC Li R,fun _ _=>Pp,q1,n,xT h0,q5.toS,fun v F' L' Lo _ _ d hp=>z v F' L' d hp,fun v F' Lo u r=>?_⟩;obtain⟨a1,a2,M',b,c,w,a4,a5⟩:=y v F' Lo u r;have a:=qM (L:=L) n a1;refine⟨a1,fun i g t cs e=>?_,fun _=>⟨M',b,c,w.same a,a4.ext (au.le_refl F') fun k o e=>⟨o,by rw[a k];exact e,Own.aah o⟩,a5⟩⟩;obtain⟨Mo,c',_,_,_,b4,_⟩:=r;exact b4 i g t cs e
theorem vB {ps:Value->Prop}{hb:List (Nat×Nat)}{st:TL->Value->Prop}{PS:nG}{fb:List Nat}{f:Nat}{args:List C}{vs:List Value}{K:TL->aK->C->Prop}(w:TS G F L ρ M τ) (ha:ax F L args vs) (ag:PS=⟨ps,hb,some st⟩) (h:tj P ps hb st fb f args M τ K) :
  kH P (zu G PS) fb f vs F L (fun F' L' v=>∃M' l c,TS G F' L' ρ M' l/\aJ F' L' c (.v v)/\K M' l c):=by
 subst ag;obtain⟨ks,Lin,R,Pp,h1,h2,h0,h5,ad,h6,z,h7⟩:=h;have h4:jv M ks ks=true:=qU (fun k b=>b);obtain⟨Li,r,e2,e3⟩:=j5 w.tl h1;have hn:=cJ h2;obtain⟨bt,bi⟩:=ct r;refine⟨ks,Li,gC Li R,_,r,hn,xT h0,h6.out F Li vs (by simp[e2]) (kW w.tl e2 r e3) (ha.map fun c _ v hc=>(iX hc).ren (lq r)),?_,fun v F' Lo hF hR=>?_⟩
 ·rintro v F' L' Lo hF ac x ⟨Mo,q1,q2,q3⟩;have al:∀o∈Mo,o.Wf:=by
   intro o y;obtain⟨i,hi⟩:=abh.1 y;have d:i<Lo.length:=by rw[<-q1];exact(aaU.1 hi).1
   have:=q2 (1000+i);rw[ck,aF,o5 (by omega),o5 (by omega),show 1000+i-1000=i by omega,hi,aaQ d] at this;exact cD.wf this
  obtain⟨y1,y2⟩:=ct ac;obtain⟨p1,p2⟩:=z v Mo q3 al (by omega);have p:∀j m,aI ks j=some m->∀o,(inp Lo).get j=some o->L'.get m=some o:=by
   intro j m hj o y;obtain⟨a1,u⟩:=nL hj;rw[aF,o5 a1] at y;rw[y2 _ _ u];exact y
  refine⟨fun k g t e=>let⟨cs,h⟩:=w.kp k g t e;let⟨cs',h',_⟩:=x k g t cs h;⟨cs',h'⟩,p1,Nk w.tl ad fun k g t cs b e=>(let⟨cs',h',q⟩:=x k g t cs e;by rw[h',q b]),fun s e=>?_⟩;injection e with e
  subst e;refine⟨_,fun k o b=>?_,p2⟩;rcases nJ ks (Mo.map (TO.aad (C.ren (aI ks)))) [] k hn (by simp;omega) with⟨a1,u⟩ | ⟨i,a1,u,a3⟩
  ·rw[a1] at b;cases b
  ·rw[u,aa9] at b;have d:i<Mo.length:=by simpa using a3
   have n:i<Lo.length:=by omega
   rw[aaQ d] at b;injection b with b
   subst b;refine⟨Lo[i],by rw[y2 _ _ a1];exact aaQ n,?_⟩;have:=q2 (1000+i);rw[ck,aF,o5 (by omega),o5 (by omega),show 1000+i-1000=i by omega,aaQ d,aaQ n] at this;exact cD.ren p this
 ·obtain⟨a1,u,M',l,c,a3,a4,a5⟩:=qV w h2 h2 h4 h5 r e2 e3 h7 v F' Lo hF hR;have a:=qM (L:=L) hn a1;refine⟨a1,fun i g t cs e=>?_,fun _=>⟨M',l,c,a3.same a,a4.ext (au.le_refl F') fun k o e=>⟨o,by rw[a k];exact e,Own.aah o⟩,a5⟩⟩;obtain⟨Mo,c',_,_,_,b4,_⟩:=hR;exact b4 i g t cs e
end
section
variable {P:Program}{G:Nat->Option (Nat×TypeId)}{F:au}{L:Loc}{ρ:Env}{M:TL}{τ:aK}{a:Act}{w:World}
theorem Dh {F':au}(l:F.le F') {k:Nat}{a:Option Addr}{c:Nat}{t sz:Nat}{els:List (List C)}{xs:List Value}(n:L.get k=some (.row (.slice a els.length c) t sz els.length xs))
  (s:Rel F' (L.del k) (.sl els) (.slice a els.length c)):(∀d v,C.leaf d=true->Rel F L d v->Rel F' (L.del k) (mM k els d) v)/\(∀d sv,C.leaf d=true->aJ F L d sv->aJ F' (L.del k) (mM k els d) sv):=by
 have m:∀j,j≠k->∀o,L.get j=some o->∃o',(L.del k).get j=some o'/\Own.like o o':=fun j f o y=>⟨o,by rw[Loc.aaf,q9 f];exact y,Own.aah o⟩;have b:∀g t cs,L.get k≠some (.box g t cs):=fun g t cs h=>by rw[n] at h;injection h with h;cases h
 constructor
 ·intro d v q h;cases d<;>simp only[C.leaf,aa5] at q
  case rw j =>
   simp only[mM];cases f:Nat.beq j k with
   | true =>
    have:=aaR f;subst this;simp only[Rel] at h;obtain⟨a',z,u,p,x,r,rfl,h⟩:=h;rw[n] at h;injection h with h
    injection h with q1 q2 q3 q4 q5
    rw[<-q1];exact s
   | false =>
    have:=nK b m l (.rw j) v rfl h;simpa only[fP,f] using this
  all_goals
   have:=nK b m l _ v rfl h;simpa only[fP,mM] using this
 ·intro d sv q h;cases d<;>simp only[C.leaf,aa5] at q
  case rw j =>
   simp only[mM];cases f:Nat.beq j k with
   | true =>
    have:=aaR f;subst this;simp only[aJ,Rel] at h;obtain⟨v,e,a',z,u,p,x,r,rfl,h⟩:=h;rw[n] at h;injection h with h
    injection h with q1 q2 q3 q4 q5
    rw[<-q1] at e;exact⟨_,e,s⟩
   | false =>
    have:=oG b m l (.rw j) sv rfl h;simpa only[fP,f] using this
  all_goals
   have:=oG b m l _ sv rfl h;simpa only[fP,mM] using this
theorem cD.frz {F':au}(b:F.le F') {k:Nat}{els:List (List C)}(l:∀d v,C.leaf d=true->Rel F L d v->Rel F' (L.del k) (mM k els d) v):∀{o:TO}{p:Own},cD F L o p->cD F' (L.del k) (o.aad (C.frz k els)) p
 | .box t cs,.box g e j,r=>⟨r.1,r.2.map fun c _ v h=>Rel.mp l 3 h⟩
 | .row t sz els,.row v e f n xs,r=>⟨r.1,r.2.1,r.2.2.1,r.2.2.2.1,r.2.2.2.2.mono b⟩
 | .box _ _,.row ..,r=>r.elim
 | .row ..,.box ..,r=>r.elim
 | .map _,.row ..,r=>r.elim
 | .map es,.box g e j,r=>⟨r.1,r.2.mono b⟩
theorem rZ {k:Nat}{t sz:Nat}{els:List (List C)}(z:St F L w) (he:aA L ρ a) (n:TS G F L ρ M τ) (hk:M.get k=some (.row t sz els)) :
  ∃F' L',St F' L' w/\aA L' ρ a/\Step F L w F' L' w/\TS G F' L' ρ ((M.del k).aad (C.frz k els)) (fun j=>(τ j).frz k els)/\(∀{c v},Rel F L c v->Rel F' L' (c.frz k els) v):=by
 obtain⟨v,xs,u,⟨hm,r,cv,rfl,y⟩,hr⟩:=mg n.tl hk;obtain⟨F',L',g1,g2,g3,f,b,rfl⟩:=qI (KK:=fun F' L'=>F.le F'/\QE F' (.slice r els.length cv) sz els.length xs/\L'=L.del k) z he ⟨_,_,_,_,_,u,fun F' f b=>⟨f,b,rfl⟩⟩;have m:Rel F' (L.del k) (.sl els) (.slice r els.length cv):=by
  simp only[Rel];rcases b with⟨d,l,x⟩ | ⟨ad,c2,d,l,x⟩
  ·injection d with q1 q2 q3
   have:els=[]:=List.length_eq_zero_iff.1 q2;subst this;exact⟨r,cv,rfl,by simp,by simp,fun _=>⟨rfl,q3⟩,sz,by simp only[gk]⟩
  ·injection d with q1 q2 q3
   subst q1 q3;exact⟨some ad,cv,rfl,x,hm,fun e=>(by cases e),sz,(hr.mono f).frz l⟩
 obtain⟨q,l2⟩:=Dh f u m;refine⟨F',L.del k,g1,g2,g3,⟨fun j=>?_,fun j=>aJ.mp q l2 3 (n.env j),fun j g t e=>?_,n.glob.mono f⟩,fun h=>Rel.mp q 3 h⟩
 ·rw[qe,TL.aaf,Loc.aaf];split
  ·trivial
  ·rcases dQ (n.tl j) with⟨d,l⟩ | ⟨o,p,d,l,s⟩
   ·rw[d,l];trivial
   ·rw[d,l];exact s.frz f q
 ·obtain⟨cs,h⟩:=n.kp j g t e;exact⟨cs,by rw[Loc.aaf,q9 (by rintro rfl;rw[u] at h;injection h with h;cases h)];exact h⟩
def xV (k g:Nat):SV->SV
 | .own b off=>match Nat.beq b k with | true=>.v (.pointer (some ⟨g,off,none⟩)) | false=>.own b off
 | .v x=>.v x
 | .el a i=>.el a i
theorem J2 {F':au}(m:F.le F') {k g:Nat}{t:TypeId}{r:List Value}{es:List C}(u:L.get k=some (.box g t r)) (hg:F' g=some (.cells r.toArray t (0,0))) (h1:eH es=true) (z:ax F' [] es r) :
  (∀d v,C.leaf d=true->Rel F L d v->Rel F' (L.del k) (qN k es d) v)/\(∀d sv,C.leaf d=true->aJ F L d sv->aJ F' (L.del k) (qN k es d) (xV k g sv)):=by
 have q:∀j,j≠k->∀o,L.get j=some o->∃o',(L.del k).get j=some o'/\Own.like o o':=fun j f o ho=>⟨o,by rw[Loc.aaf,q9 f];exact ho,Own.aah o⟩;have p:∀o,MT F' g o o r:=fun o=>⟨0,_,t,(0,0),hg,by omega,fun i v hi=>by simpa using hi⟩;constructor
 ·intro d v hc h;cases d<;>simp only[C.leaf,aa5] at hc<;>simp only[qN]
  case own j off =>
   cases f:Nat.beq j k with
   | true =>
    have:=aaR f;subst this;simp only[Rel] at h ⊢;obtain⟨g',y,cs,e,rfl⟩:=h;rw[u] at e;injection e with e
    injection e with e1 e2 e3
    subst e1;exact⟨_,_,r,rfl,p off,h1,z⟩
   | false=>exact bH m (fun s e=>by
     rcases e with⟨off,e⟩ | e | e
     ·injection e with e;subst e;exact q j (f9 f)
     ·cases e
     ·cases e) rfl h
  case rw j =>
   refine bH m (fun s e=>?_) rfl h;rcases e with⟨off,e⟩ | e | e
   ·cases e
   ·injection e with e
    subst e;refine q j ?_;rintro rfl;simp only[Rel] at h;obtain⟨a',c',y,ag,n',ar,rfl,h⟩:=h;rw[u] at h;injection h with h
    cases h
   ·cases e
  case mpr j =>
   cases f:Nat.beq j k with
   | true=>simp only[Rel]
   | false=>exact bH m (fun s e=>by
     rcases e with⟨off,e⟩ | e | e
     ·cases e
     ·cases e
     ·injection e with e;subst e;exact q j (f9 f)) rfl h
  case ownv=>exact h.elim
  case elr=>exact h.elim
  all_goals
   exact bH m (fun s e=>by rcases e with⟨off,e⟩ | e | e<;>cases e) rfl h
 ·intro d sv hc h;have keep:∀{c:C},(∀j off,c≠.own j off)->c.leaf=true->c≠.any->aJ F L c sv->xV k g sv=sv:=by
   intro c an hl ac hv;cases sv with
   | v x=>rfl
   | el a i=>rfl
   | own k' off =>
    exfalso;cases c<;>simp only[C.leaf,aa5] at hl<;>first
     | exact an _ _ rfl
     | exact ac rfl
     | (obtain⟨v,e,_⟩:=hv;cases e;done)
     | (obtain⟨b,o,j,us,e | e,_⟩:=hv
        ·cases e.1
        ·cases e)
     | (obtain⟨ad,t,sz,n,c,xs,e,_⟩:=hv;cases e;done)
     | (obtain⟨v,e | ⟨b,o,j,e,_⟩,_⟩:=hv
        ·cases e
        ·cases e)
  cases d<;>simp only[C.leaf,aa5] at hc<;>simp only[qN]
  case any=>trivial
  case own j off =>
   obtain⟨rfl,g',y,cs,e⟩:=h;simp only[xV];cases f:Nat.beq j k with
   | true =>
    have:=aaR f;subst this;exact⟨g,off,0,r,.inl ⟨rfl,rfl⟩,p off,h1,z⟩
   | false =>
    obtain⟨o',q1,q2⟩:=q j (f9 f) _ e;cases o' with
    | row=>exact q2.elim
    | box g2 t2 ae=>exact⟨rfl,g2,t2,ae,q1⟩
  case ownv j off =>
   rw[keep (c:=.ownv j off) (fun _ _ e=>by cases e) rfl (fun e=>by cases e) h];cases f:Nat.beq j k with
   | true =>
    have:=aaR f;subst this;obtain⟨v,ao,l⟩:=h;simp only[Rel] at l;obtain⟨g',y,cs,e,rfl⟩:=l;rw[u] at e;injection e with e
    injection e with e1 e2 e3
    subst e1;rcases ao with rfl | ⟨b,o,i,rfl,e⟩
    ·exact⟨g,off,0,r,.inl ⟨rfl,rfl⟩,p off,h1,z⟩
    ·injection e with e
     injection e with e
     injection e with q1 q2 q3
     subst q1 q2;exact⟨g,o,i,r,.inr rfl,p (o+i),h1,z⟩
   | false =>
    refine dB m (fun s e=>?_) rfl h;rcases e with⟨off,e⟩ | ⟨off,e⟩ | e | ⟨a,b,e⟩ | e<;>first | cases e;done | skip
    injection e with e
    subst e;exact q j (f9 f)
  case rw j =>
   rw[keep (c:=.rw j) (fun _ _ e=>by cases e) rfl (fun e=>by cases e) h];refine dB m (fun s e=>?_) rfl h;rcases e with⟨off,e⟩ | ⟨off,e⟩ | e | ⟨a,b,e⟩ | e<;>first | cases e;done | skip
   injection e with e
   subst e;refine q j ?_;rintro rfl;obtain⟨v,_,l⟩:=h;simp only[Rel] at l;obtain⟨a',c',y,ag,n',ar,rfl,h⟩:=l;rw[u] at h;injection h with h
   cases h
  case elr j a b =>
   rw[keep (c:=.elr j a b) (fun _ _ e=>by cases e) rfl (fun e=>by cases e) h];refine dB m (fun s e=>?_) rfl h;rcases e with⟨off,e⟩ | ⟨off,e⟩ | e | ⟨a,b,e⟩ | e<;>first | cases e;done | skip
   injection e with e
   subst e;refine q j ?_;rintro rfl;obtain⟨ad,t,sz,n,c,xs,_,h⟩:=h;rw[u] at h;injection h with h
   cases h
  case mpr j =>
   rw[keep (c:=.mpr j) (fun _ _ e=>by cases e) rfl (fun e=>by cases e) h];cases f:Nat.beq j k with
   | true=>trivial
   | false =>
    refine dB m (fun s e=>?_) rfl h;rcases e with⟨off,e⟩ | ⟨off,e⟩ | e | ⟨a,b,e⟩ | e<;>first | cases e;done | skip
    injection e with e
    subst e;exact q j (f9 f)
  all_goals
   rw[keep (fun _ _ e=>by cases e) rfl (fun e=>by cases e) h];exact dB m (fun s e=>by rcases e with⟨off,e⟩ | ⟨off,e⟩ | e | ⟨a,b,e⟩ | e<;>cases e) rfl h
theorem J3 (k g:Nat) (ρ:Env) (j:Nat):wL k g ρ j=xV k g (ρ j):=by
 simp only[wL,xV];cases ρ j<;>rfl
theorem ER {k:Nat}{t:TypeId}{cs:List C}(hs:St F L w) (he:aA L ρ a) (l:TS G F L ρ M τ) (hk:M.get k=some (.box t cs)) (h1:eH cs=true) (h2:iL cs=true) (hG:G k=none) :
  ∃F' L' ρ',St F' L' w/\aA L' ρ' a/\Step F L w F' L' w/\TS G F' L' ρ' ((M.del k).aad (C.frb k cs)) (fun j=>(τ j).frb k cs):=by
 obtain⟨g,ty,vs,z,hr,q⟩:=kV l.tl hk;obtain⟨F',d,hg,g1,g2,g3⟩:=rP hs he z;rw[jn q.2.2] at hg;obtain⟨y,l2⟩:=J2 (F:=F) d z hg h1 ((jq h2 hr).mono d);refine⟨F',L.del k,_,g1,g2,g3,⟨fun j=>?_,fun j=>?_,fun j g t e=>?_,l.glob.mono d⟩⟩
 ·rw[qe,TL.aaf,Loc.aaf];split
  ·trivial
  ·rcases dQ (l.tl j) with⟨u,r⟩ | ⟨o,p,u,r,b⟩
   ·rw[u,r];trivial
   ·rw[u,r];cases o with
    | row t sz els =>
     cases p with
     | box=>exact b.elim
     | row v x ae n xs=>exact⟨b.1,b.2.1,b.2.2.1,b.2.2.2.1,b.2.2.2.2.mono d⟩
    | box t cs =>
     cases p with
     | row=>exact b.elim
     | box g x us=>exact⟨b.1,b.2.map fun c _ v h=>Rel.mp y 3 h⟩
    | map es =>
     cases p with
     | row=>exact b.elim
     | box g x us=>exact⟨b.1,b.2.mono d⟩
 ·rw[J3];have m:=l.env j;cases f:(τ j).leaf with
  | true =>
   have e:(τ j).frb k cs=qN k cs (τ j):=wq f;simp only[e];exact l2 _ _ f m
  | false =>
   generalize ρ j=sv at m;generalize τ j=c at f m;have h':∃v,sv=.v v/\Rel F L c v:=by
    cases c<;>first | exact m | cases f
   obtain⟨v,rfl,hv⟩:=h';have s:Rel F' (L.del k) (c.frb k cs) v:=Rel.mp y 3 hv;cases c<;>first | exact⟨v,rfl,s⟩ | cases f
 ·obtain⟨cs,h⟩:=l.kp j g t e;exact⟨cs,by rw[Loc.aaf,q9 (by rintro rfl;rw[hG] at e;cases e)];exact h⟩
theorem oI:∀{o:List Nat}{F:au}{L:Loc}{M:TL}{τ:aK}{args:List C}{f:List Value}{K:TL->aK->List C->Prop},St F L w->aA L ρ a->TS G F L ρ M τ->ax F L args f->xE o M τ args K ->
  ∃F' L' M' e b,St F' L' w/\aA L' ρ a/\Step F L w F' L' w/\TS G F' L' ρ M' e/\ax F' L' b f/\K M' e b
 | [],F,L,M,τ,args,f,K,j,he,n,m,h=>⟨F,L,M,τ,args,j,he,Step.refl _ _ _,n,m,h⟩
 | k::o,F,L,M,τ,args,f,K,j,he,n,m,h=>by
  simp only[xE] at h;split at h
  case h_2=>exact h.elim
  rename_i t sz els q;obtain⟨F1,L1,g1,x,u,g4,p⟩:=rZ j he n q;obtain⟨F2,L2,M2,l,d,k1,z,r,k4,s,k6⟩:=oI g1 x g4 (m.map fun c _ v y=>p y) h;exact⟨F2,L2,M2,l,d,k1,z,u.trans r,k4,s,k6⟩
def tF (L:Loc):TL->Loc
 | []=>[]
 | (k,o)::l=>(k,match L.get k with
  | some p=>p
  | none=>match o with
   | .row t sz _=>.row (.slice none 0 0) t sz 0 []
   | .box _ _=>.row (.slice none 0 0) 0 0 0 []
   | .map _=>.row (.slice none 0 0) 0 0 0 [])::tF L l
theorem lz:∀(M1:TL) (k:Nat),(tF L M1).get k=match M1.get k with
  | some o=>some (match L.get k with | some p=>p | none=>match o with | .row t sz _=>.row (.slice none 0 0) t sz 0 [] | .box _ _=>.row (.slice none 0 0) 0 0 0 [] | .map _=>.row (.slice none 0 0) 0 0 0 [])
  | none=>none
 | [],k=>rfl
 | (j,o)::l,k=>by
  simp only[tF,Loc.get,TL.get];cases h:Nat.beq j k with
  | true=>have:=aaR h;subst this;rfl
  | false=>exact lz l k
theorem Di:∀{l:TL}{M1:TL},gives M M1 l->∀{k o},l.get k=some o->(∃p,M.get k=some p/\Vg M M1 p o)\/(M.get k=none/\∃t sz,o=.row t sz [])
 | [],M1,h,k,o,e=>by cases e
 | (j,p)::l,M1,h,k,o,e=>by
  simp only[gives] at h;simp only[TL.get] at e;split at e
  ·rename_i b;have:=aaR b;subst this;injection e with e
   subst e;exact h.1
  ·exact Di h.2 e
theorem uR (c:bM F L M) {M1:TL}:∀{l:TL},gives M M1 l->L.gives (tF L l)
 | [],h=>trivial
 | (j,p)::l,h=>by
  simp only[gives] at h;refine⟨?_,uR c h.2⟩;rcases h.1 with⟨q,b,f⟩ | ⟨b,t,sz,rfl⟩
  ·rcases dQ (c j) with⟨e,d⟩ | ⟨o,m,e,d,k⟩
   ·rw[e] at b;cases b
   ·simp only[d];exact .inl trivial
  ·have:=bX c b;simp only[this];exact .inr ⟨trivial,t,sz,rfl⟩
theorem vC {L':Loc}{M1:TL}(t:∀k o,M1.get k≠none->L.get k=some o->L'.get k=some o):∀(n:Nat) {c:C}{v:Value},fk M1 n c=true->Rel F L c v->Rel F L' c v:=by
 have f:∀{c:C}{v:Value},c.leaf=true->qO M1 c=true->Rel F L c v->Rel F L' c v:=by
  intro c v d b h;refine bH (au.le_refl F) (fun k e o s=>⟨o,t k o ?_ s,Own.aah o⟩) d h;rcases e with⟨off,rfl⟩ | rfl | rfl
  ·simp only[qO] at b;intro e;rw[e] at b;cases b
  ·simp only[qO] at b;intro e;rw[e] at b;cases b
  ·simp only[qO] at b;intro e;rw[e] at b;cases b
 intro n
 induction n with
 | zero =>
  intro c v b h;cases d:c.leaf
  ·cases c<;>simp only[C.leaf,Bool.true_eq_false] at d<;>simp only[fk,aa5] at b
  ·refine f d ?_ h;cases c<;>simp only[C.leaf,aa5] at d<;>simpa only[fk] using b
 | succ n r =>
  intro c v b h;have all:∀{cs:List C}{l:List Value},cs.all (fk M1 n)=true->ax F L cs l->ax F L' cs l:=by
   intro cs l h1 j;have:=j.map (g:=id) (F':=F) (L':=L') (fun c d v u=>r (aa1.1 h1 c d) u);simpa using this
  cases d:c.leaf
  ·cases c<;>simp only[C.leaf,Bool.true_eq_false] at d<;>simp only[fk,aaN] at b<;>simp only[Rel] at h ⊢
   ·obtain⟨m,p,h1,j,q⟩:=h;exact⟨m,p,h1,all b.1 j,all b.2 q⟩
   ·obtain⟨l,h1,j⟩:=h;exact⟨l,h1,all b j⟩
   ·obtain⟨l,h1,j⟩:=h;exact⟨l,h1,all b j⟩
  ·refine f d ?_ h;cases c<;>simp only[C.leaf,aa5] at d<;>simpa only[fk] using b
theorem qW (l:bM F L M) {M1:TL}{c f:C}{v:Value}(h:MR M M1 c f) (b:Rel F L c v):Rel F (tF L M1) f v:=by
 rcases h with rfl | ⟨rfl,j⟩ | ⟨rfl,rfl⟩ | ⟨rfl,k,t,sz,rfl,h1,d⟩ | ⟨els,rfl,rfl⟩
 ·simp only[Rel]
 ·refine vC (fun k o h1 d=>?_) 3 j b;rw[lz];cases e:M1.get k with
  | none=>exact vv e h1
  | some q=>simp only[d]
 ·exact tC (c:=.nils) (by simpa only[Rel] using b)
 ·simp only[Rel] at b ⊢;subst b;refine⟨none,0,t,sz,0,[],rfl,?_⟩;rw[lz,d];simp only[bX l h1]
 ·simpa only[Rel] using uO b
theorem Dj (k:bM F L M) {M1:TL}:∀{cs cs':List C}{b:List Value},JQ M M1 cs cs'->ax F L cs b->ax F (tF L M1) cs' b
 | [],cs',b,h,d=>by simp only[JQ] at h;subst h;simpa only[ax] using d
 | c::cs,cs',b,h,d=>by
  simp only[JQ] at h;obtain⟨n,m,rfl,h1,l⟩:=h;simp only[ax] at d ⊢;obtain⟨v,e,rfl,j,f⟩:=d;exact⟨v,e,rfl,qW k h1 j,Dj k l f⟩
theorem Nl (l:bM F L M) {M1:TL}{o o':TO}{p:Own}(h:Vg M M1 o o') (b:cD F L o p):cD F (tF L M1) o' p:=by
 rcases h with⟨rfl,d⟩ | ⟨t,cs,cs',rfl,rfl,h⟩
 ·cases o with
  | row t sz els=>cases p with
   | row=>exact b
   | box=>exact b.elim
  | map es=>cases p with
   | row=>exact b.elim
   | box=>exact b
  | box t cs=>cases p with
   | row=>exact b.elim
   | box g f n =>
    simp only[P3] at d;refine⟨b.1,?_⟩;have:=b.2.map (g:=id) (F':=F) (L':=tF L M1) (fun c j v r=>vC (fun k o h1 m=>by
     rw[lz];cases e:M1.get k with
     | none=>exact vv e h1
     | some q=>simp only[m]) 3 (aa1.1 d c j) r)
    simpa using this
 ·cases p with
  | row=>exact b.elim
  | box g f n=>exact⟨b.1,Dj l h b.2⟩
theorem xW (c:bM F L M) {M1:TL}(h:gives M M1 M1):bM F (tF L M1) M1:=by
 intro k;rw[lz];cases e:M1.get k with
 | none=>trivial
 | some o =>
  rcases Di h e with⟨q,b,l⟩ | ⟨b,t,sz,rfl⟩
  ·rcases dQ (c k) with⟨d,f⟩ | ⟨q',p,d,f,j⟩
   ·rw[d] at b;cases b
   ·rw[d] at b;injection b with b
    subst b;simp only[f];exact Nl c l j
  ·simp only[bX c b];exact⟨rfl,rfl,rfl,⟨by simp,none,0,rfl,fun _=>rfl⟩,by simp only[aN]⟩
theorem xX (c:St F L w) (b:bM F L M) {M1:TL}(h:gives M M1 M1):St F (tF L M1) w/\Step F L w F (tF L M1) w:=⟨c.gives (uR b h),rQ (uR b h)⟩
theorem mr:∀{l M1:TL},oE l M1=true->∀{k o},l.get k=some o->BO o=false->∃o',M1.get k=some o'
 | [],M1,h,k,o,e,_=>by cases e
 | (j,.box n f)::l,M1,h,k,o,e,b=>by
  simp only[oE] at h;split at h
  case h_2=>cases h
  rename_i p m h1;simp only[TL.get] at e;split at e
  ·rename_i c;have:=aaR c;subst this;exact⟨_,h1⟩
  ·exact mr h e b
 | (j,.map es)::l,M1,h,k,o,e,b=>by
  simp only[oE] at h;split at h
  case h_2=>cases h
  rename_i d h1;simp only[TL.get] at e;split at e
  ·rename_i c;have:=aaR c;subst this;exact⟨_,h1⟩
  ·exact mr h e b
 | (j,.row ..)::l,M1,h,k,o,e,b=>by
  simp only[oE] at h;simp only[TL.get] at e;split at e
  ·injection e with e;subst e;cases b
  ·exact mr h e b
theorem xY:∀{l M1:TL},covers l M1=true->∀{k o},l.get k=some o->∃o',M1.get k=some o'
 | [],M1,h,k,o,e=>by cases e
 | (j,p)::l,M1,h,k,o,e=>by
  simp only[covers] at h;split at h
  case h_2=>cases h
  rename_i q h1;simp only[TL.get] at e;split at e
  ·rename_i b;have:=aaR b;subst this;exact⟨_,h1⟩
  ·exact xY h e
theorem J4 {L':Loc}(he:aA L ρ a) (h:∀k g t cs,L.get k=some (.box g t cs)->∃cs',L'.get k=some (.box g t cs')):aA L' ρ a:=by
 refine⟨fun t=>?_,fun t k off e=>?_,he.el⟩
 ·rw[he.eq t];cases e:ρ t with
  | v x=>rfl
  | el a j=>rfl
  | own k off =>
   obtain⟨g,ty,cs,c⟩:=he.own t k off e;obtain⟨cs',b⟩:=h _ _ _ _ c;simp only[conc,c,b]
 ·obtain⟨g,ty,cs,c⟩:=he.own t k off e;obtain⟨cs',b⟩:=h _ _ _ _ c;exact⟨g,ty,cs',b⟩
theorem qg (l:St F L w) (he:aA L ρ a) (c:TS G F L ρ M τ) {M1:TL}(h:gives M M1 M1) (n:covers M M1=true) :
  St F (tF L M1) w/\aA (tF L M1) ρ a/\Step F L w F (tF L M1) w/\TS G F (tF L M1) ρ M1 τ/\Ext L (tF L M1):=by
 obtain⟨h1,r⟩:=xX l c.tl h;have b:∀k o,L.get k=some o->(tF L M1).get k=some o:=by
  intro k o e;rcases dQ (c.tl k) with⟨f,d⟩ | ⟨q,p,f,d,s⟩
  ·rw[d] at e;cases e
  ·obtain⟨o',m⟩:=xY n f;rw[lz,m];simp only[e]
 refine⟨h1,J4 he fun k g t cs e=>⟨cs,b _ _ e⟩,r,⟨xW c.tl h,fun j=>(c.env j).ext (au.le_refl F) fun k o e=>⟨o,b k o e,Own.aah o⟩,fun k g t e=>?_,c.glob⟩,fun k o e=>⟨o,b k o e,Own.aah o⟩⟩;obtain⟨cs,h⟩:=c.kp k g t e;exact⟨cs,b _ _ h⟩
theorem Q8 {F:au}{args:List C}{b:List Value}(ha:ax F L args b):ax F (inp []) (args.map fun c=>c.aaj.ren (bA [] 1000)) b :=
 ha.map fun c _ v d=>(iX d).ren (fun j m e=>by cases e)
theorem Vk {F:au}{L:Loc}{args:List C}{f:List Value}{d:Nat}{o:Own}(k:L.get d=some o) (ha:ax F L args f):ax F (inp [o]) (args.map fun c=>c.aaj.ren (bA [d] 1000)) f :=
 ha.map fun c _ v h=>(iX h).ren (fun j m e o' b=>by
  obtain⟨n,h1,rfl⟩:=BN e;cases n with
  | zero =>
   simp only[aa6,aaO] at h1;subst h1;rw[k] at b;injection b with b
   subst b;rfl
  | succ n=>simp at h1)
theorem ES:bM F (inp []) (cC []):=fun k=>by rw[ck,aF];split<;>simp[xG]
theorem gC.aao {Li:List Own}{R:List TO->C->Prop}:∀F G L v,au.le F G->gC Li R F L v->gC Li R G L v:=by
 rintro F G L v b ⟨Mo,c,h,d,f,j,e⟩;exact⟨Mo,c,h,d.mono b,f.mono b,j,e⟩
theorem uS {f:Nat}{args:List C}{vs:List Value}{d:Option Nat}{K:TL->aK->C->Prop}(u:TS G F L ρ M τ) (ha:ax F L args vs) (h:uJ P f args M τ d K) :
  dI P f vs F L d (fun F' L' v=>∃M' aE c,TS G F' L' ρ M' aE/\aJ F' L' c (.v v)/\K M' aE c):=by
 cases h with
 | frz R h k =>
  refine .frz (gC [] R) (h.out F [] vs rfl ES (Q8 ha)) ?_;rintro v F' Lo l ⟨Mo,c,q,r,b,q4,q5⟩;obtain⟨rfl,k2⟩:=k c Mo q5 b.wf;have:Lo=[]:=List.length_eq_zero_iff.1 (by rw[<-q];rfl);subst this;exact⟨rfl,fun _=>⟨M,τ,_,u.mono l,kC (b.ext (au.le_refl F') (fun k o e=>by rw[aF] at e;split at e<;>simp at e)),k2⟩⟩
 | own R k h hd hk kk =>
  refine .own (gC [] R) k (h.out F [] vs rfl ES (Q8 ha)) hd (bX u.tl hk) ?_;rintro v F' Lo l ⟨Mo,c,q,r,b,q4,q5⟩;have bs:∀o∈Mo,o.Wf:=by
   intro o ho;obtain⟨i,hi⟩:=abh.1 ho;have bj:i<Lo.length:=by rw[<-q];exact(aaU.1 hi).1
   have:=r (1000+i);rw[ck,aF,o5 (by omega),o5 (by omega),show 1000+i-1000=i by omega,hi,aaQ bj] at this;exact cD.wf this
  obtain⟨o,rfl,k2⟩:=kk c Mo q5 b.wf bs
  match Lo,q with
  | [p],_ =>
   have n:∀j m,aI [k] j=some m->∀o,(inp [p]).get j=some o->(L.set k p).get m=some o:=by
    intro j m hj o ho;obtain⟨a1,a2⟩:=nL hj;rw[aF,o5 a1] at ho;have:j-1000=0:=by have:=(aaU.1 a2).1;simp at this;omega
    rw[this] at ho a2;simp at ho a2;subst ho a2;rw[Loc.aac,o5 rfl]
   have aw:=r 1000;rw[ck,aF,o5 (by omega),o5 (by omega)] at aw;refine⟨p,rfl,fun _=>⟨_,τ,_,u.new l (bX u.tl hk) (cD.ren n aw),kC (b.ren n),k2⟩⟩
 | row R y t sz els an hk h kk =>
  obtain⟨rv,xs,hL,⟨hm,av,cv,rfl,bz⟩,hr⟩:=mg u.tl hk;refine .row (fun F' Lo v=>Lo=[]/\gC [] R F' [] v) y _ t sz els.length xs ⟨an,fun F1 F2 L v bm s=>⟨s.1,gC.aao _ _ _ _ bm s.2⟩,fun w hs=>?_⟩ hL ?_
  ·have bd:aA (inp [.row (.slice av els.length cv) t sz els.length xs]) (fun _=>.v undef) (⟨#[],[]⟩:Act):=by
    refine⟨fun j=>?_,fun j k off e=>(by cases e),fun j a i e=>(by cases e)⟩;simp[conc]
   obtain⟨F2,L2,g1,_,g3,l,z,rfl⟩:=qI (k:=1000) (KK:=fun F' L'=>F.le F'/\QE F' (.slice av els.length cv) sz els.length xs/\L'=(inp [.row (.slice av els.length cv) t sz els.length xs]).del 1000) hs bd ⟨_,_,_,_,_,rfl,fun F' l z=>⟨l,z,rfl⟩⟩;have ao:Rel F2 (L.del y) (.sl els) (.slice av els.length cv):=by
    simp only[Rel];rcases z with⟨e1,e2,e3⟩ | ⟨ad,c2,e1,e2,e3⟩
    ·injection e1 with q r b
     have:els=[]:=List.length_eq_zero_iff.1 r;subst this;exact⟨av,cv,rfl,by simp,by simp,fun _=>⟨rfl,b⟩,sz,by simp only[gk]⟩
    ·injection e1 with q r b
     subst q b;exact⟨some ad,cv,rfl,e3,hm,fun e=>(by cases e),sz,(hr.mono l).frz e2⟩
   obtain⟨l1,_⟩:=Dh l hL ao;have bk:ax F2 (L.del y) (args.map (C.frz y els)) vs:=ha.map fun c _ v hc=>Rel.mp l1 3 hc;have am:=Q8 bk;rw[abS] at am;refine((h.out F2 [] vs rfl ES am).run w g1).mono ?_;rintro e w' ⟨v,F',Lo,rfl,bu,bo,s⟩;have bt:Lo=[]:=by
    obtain⟨Mo,c,q,r,b,q4,q5⟩:=s;obtain⟨rfl,_⟩:=kk c Mo q5 b.wf;exact List.length_eq_zero_iff.1 (by rw[<-q];rfl)
   subst bt;exact⟨v,F',[],rfl,bu,g3.trans bo,rfl,s⟩
  ·rintro v F' Lo l ⟨rfl,Mo,c,q,r,b,q4,q5⟩;obtain⟨rfl,k2⟩:=kk c Mo q5 b.wf;refine⟨rfl,fun _=>⟨_,_,_,(u.mono l).aay (k:=y) (o':=.row (.slice none 0 0) t sz 0 []) (to:=.row t sz []) (fun g t' cs e=>by rw[hL] at e;injection e with e;cases e) ⟨rfl,rfl,rfl,⟨abe _,none,0,rfl,fun _=>rfl⟩,by simp only[aN]⟩,kC (b.ext (au.le_refl F') (fun k o e=>by rw[aF] at e;split at e<;>simp at e)),k2⟩⟩
 | lent y t sz els x hk h k =>
  obtain⟨rv,xs,hL,ab,hr⟩:=mg u.tl hk;refine .lent (fun F' v=>Rel F' (inp []) x v) y rv t sz els.length xs (h.out F rv xs vs ⟨rfl,rfl,rfl,ab,hr⟩ (Vk hL ha)) hL fun v F' l s _=>?_;exact⟨M,τ,_,u.mono l,kC (s.ext (au.le_refl F') (fun k o e=>by rw[aF] at e;split at e<;>simp at e)),k s.wf⟩
def j6:dN->Bool
 | .call _ _=>true
 | .callV _ _=>true
 | _=>false
theorem TS.aap {F:au}{L:Loc}{ρ:Env}{M:TL}{τ:aK}{K:TK}{d:Option Nat}(b:TS G F L ρ M τ) {c:C}{sv:SV}(e:aJ F L c sv) (h:K M (bq d c τ)):Both G K F L (Fr.put d sv ρ):=⟨_,_,b.put e d,h⟩
theorem jt (h:∀j,aJ F L (τ j) (ρ j)) {d e:List C}{b c:List Value}(h1:ax F L d b) (f:ax F L e c) (args:List X):ax F L (d++eY τ args++e) (b.toArray.toList++bn L ρ args++c.toArray.toList):=by
 simpa using(h1.append (dM h args)).append f
theorem dO.imp {f:Nat}{args:List Value}{F:au}{L:Loc}{K K':au->Loc->Value->Prop}(h:dO P f args F L K) (j:∀F' L' v,K F' L' v->K' F' L' v):dO P f args F L K':=by
 obtain⟨ks,ko,Lin,R,h1,m,e,o,k,l⟩:=h;exact⟨ks,ko,Lin,R,h1,m,e,o,k,fun v F' Lo d n=>let⟨a,b,c⟩:=l v F' Lo d n;⟨a,b,j _ _ _ c⟩⟩
theorem dI.imp' {f:Nat}{args:List Value}{F:au}{L:Loc}{d:Option Nat}{K K':au->Loc->Value->Prop}(h:dI P f args F L d K) (p:∀F' L' v,K F' L' v->K' F' L' v):dI P f args F L d K':=by
 cases h with
 | frz R h k=>exact .frz R h fun v F' Lo e l=>let⟨a,b⟩:=k v F' Lo e l;⟨a,fun j=>p _ _ _ (b j)⟩
 | own R k h s c m=>exact .own R k h s c fun v F' Lo e l=>let⟨o,a,b⟩:=m v F' Lo e l;⟨o,a,fun j=>p _ _ _ (b j)⟩
 | row R q r t sz n xs h c m=>exact .row R q r t sz n xs h c fun v F' Lo e l=>let⟨a,b⟩:=m v F' Lo e l;⟨a,fun j=>p _ _ _ (b j)⟩
 | lent R q r t sz n xs h c m=>exact .lent R q r t sz n xs h c fun v F' e l j=>p _ _ _ (m v F' e l j)
theorem J5 {op:BinOp}{k:IntKind}{a b:Int}{K K':Value->Prop}(h:binI op k a b K) (c:∀v,K v->K' v):binI op k a b K':=by
 cases op<;>simp only[binI] at h ⊢<;>first
  | exact h.elim
  | exact⟨c _ h.out⟩
  | exact⟨h.ne,⟨c _ h.out.out⟩⟩
  | exact⟨h.ne,c _ h.out⟩
  | exact c _ h
theorem Nm {op:BinOp}{k:IntKind}{a b:Int}{K K':Value->Prop}(h:shI op k a b K) (c:∀v,K v->K' v):shI op k a b K':=by
 cases op<;>simp only[shI] at h ⊢<;>first
  | exact h.elim
  | exact⟨h.1,⟨c _ h.2.out⟩⟩
  | exact⟨h.1,c _ h.2⟩
theorem J6 {op:BinOp}{a b:ByteArray}{K K':Value->Prop}(h:binS op a b K) (c:∀v,K v->K' v):binS op a b K':=by
 cases op<;>simp only[binS] at h ⊢<;>first
  | exact h.elim
  | exact c _ h
  | exact⟨h.1,c _ h.2⟩
theorem Dk {o:dN}{V V':SV->Prop}{F:au}{L:Loc}{ρ:Env}(h:aH o F L ρ V) (d:∀v,V v->V' v):aH o F L ρ V':=by
 have load:∀{a:Option Addr}{j n:Nat}{g:List Value->SV},jW F L a j n (fun cs=>V (g cs))->jW F L a j n (fun cs=>V' (g cs)):=fun h=>⟨let⟨cs,h1,e,f⟩:=h.out;⟨cs,h1,e,d _ f⟩⟩;have loadD:∀{a:Option Addr}{j n:Nat}{g:List Value->SV},ja F a j n (fun cs=>V (g cs))->ja F a j n (fun cs=>V' (g cs)):=fun h=>⟨let⟨cs,h1,e,f⟩:=h.out;⟨cs,h1,e,d _ f⟩⟩;cases o<;>simp only[aH] at h ⊢<;>first
  | exact h.elim
  | exact d _ h
  | skip
 case pick c a b =>
  generalize ev ρ c=z at h ⊢;split at h<;>first | exact h.elim | exact d _ h
 case build zs ps =>
  generalize built L ρ zs ps=z at h ⊢;split at h<;>first | exact h.elim | exact d _ h
 case load agg n x =>
  generalize ev ρ x=z at h ⊢;split at h
  ·rename_i k off;generalize L.get k=y at h ⊢;split at h
   ·rename_i t cs;generalize jg t ((cs.drop off).take n) n=b at h ⊢;cases b
    ·exact h.elim
    ·exact d _ h
   ·exact h.elim
  ·exact load h
  ·exact load h
  ·exact h.elim
 case loadR agg n x =>
  generalize ev ρ x=z at h ⊢;split at h
  ·rename_i k off;generalize L.get k=y at h ⊢;split at h
   ·rename_i t cs;generalize jg t ((cs.drop off).take n) n=b at h ⊢;cases b
    ·exact h.elim
    ·exact d _ h
   ·exact h.elim
  ·exact load h
  ·exact load h
  ·exact h.elim
 case loadD agg n x =>
  generalize ev ρ x=z at h ⊢;split at h
  ·rename_i k off;generalize L.get k=y at h ⊢;split at h
   ·rename_i t cs;generalize jg t ((cs.drop off).take n) n=b at h ⊢;cases b
    ·exact h.elim
    ·exact d _ h
   ·exact h.elim
  ·exact loadD h
  ·exact loadD h
  ·exact h.elim
 case gload g =>
  obtain⟨v,t,fr,h1,e⟩:=h;exact⟨v,t,fr,h1,d _ e⟩
 case loadF agg n x =>
  generalize ev ρ x=z at h ⊢;split at h
  ·exact loadD h
  ·exact loadD h
  ·exact h.elim
 case loadK key agg n x =>
  generalize ev ρ x=z at h ⊢;split at h
  ·rename_i k off;generalize Nat.beq k key=q at h ⊢;cases q
   ·exact h.elim
   ·simp only[] at h ⊢;generalize L.get k=y at h ⊢;split at h
    ·rename_i t cs;generalize jg t ((cs.drop off).take n) n=b at h ⊢;cases b
     ·exact h.elim
     ·exact d _ h
    ·exact h.elim
  ·exact h.elim
 case mlook str ok z0 x i =>
  generalize ev ρ x=z at h ⊢;split at h
  ·obtain⟨k,cs,h1,e,⟨f⟩⟩:=h;exact⟨k,cs,h1,e,⟨f.imp (fun⟨i,v,p,m⟩=>⟨i,v,p,d _ m⟩) fun⟨p,m⟩=>⟨p,d _ m⟩⟩⟩
  ·exact h.elim
 case mkif t x =>
  generalize ev ρ x=z at h ⊢;split at h<;>first | exact h.elim | exact d _ h
 case nilck x =>
  generalize ev ρ x=z at h ⊢;split at h<;>first
   | exact h.elim
   | exact d _ h
   | exact⟨h.1,d _ h.2⟩
   | (split at h
      ·exact⟨h.1,d _ h.2⟩
      ·exact h.elim)
 case bin op x y =>
  generalize ev ρ x=z at h ⊢;generalize ev ρ y=z' at h ⊢;split at h
  ·rename_i k a s b;generalize Jb op=q at h ⊢;cases q
   ·generalize pG k s=r at h ⊢;cases r
    ·exact h.elim
    ·exact J5 h fun v=>d _
   ·exact Nm h fun v=>d _
  ·exact J6 h fun v=>d _
  ·exact h.elim
 case eqB neg x y =>
  generalize ev ρ x=z at h ⊢;generalize ev ρ y=z' at h ⊢;split at h<;>first | exact h.elim | exact d _ h
 case eqS neg x y =>
  generalize ev ρ x=z at h ⊢;generalize ev ρ y=z' at h ⊢;split at h<;>first | exact h.elim | exact d _ h
 case tas t z x =>
  generalize ev ρ x=y at h ⊢;split at h<;>first
   | exact d _ h
   | (split at h<;>exact d _ h)
   | exact h.elim
 case eqN neg x =>
  generalize ev ρ x=z at h ⊢;split at h<;>first | exact h.elim | exact d _ h
 case eqA neg ks x y =>
  generalize ev ρ x=z at h ⊢;generalize ev ρ y=z' at h ⊢;split at h
  case h_2=>exact h.elim
  rename_i cs ds;generalize iU ks cs.toList ds.toList true=q at h ⊢;cases q with
  | none=>exact h.elim
  | some b=>exact d _ h
 case un op x =>
  generalize ev ρ x=z at h ⊢;split at h<;>first | exact h.elim | exact d _ h | exact⟨d _ h.out⟩
 case conv k x =>
  generalize ev ρ x=z at h ⊢;split at h<;>first | exact h.elim | exact⟨d _ h.out⟩
 case slc sz x lo hi =>
  generalize ev ρ x=z at h ⊢;split at h
  ·rename_i a n c;generalize mY ρ 0 lo=y at h ⊢;generalize mY ρ n hi=y' at h ⊢;split at h
   ·exact⟨h.lo,h.le,h.hi,d _ h.out⟩
   ·exact h.elim
  ·exact h.elim
 case fieldA off x =>
  generalize ev ρ x=z at h ⊢;split at h<;>first | exact h.elim | exact d _ h
 case idxA sz x i =>
  generalize ev ρ x=z at h ⊢;generalize ev ρ i=z' at h ⊢;split at h
  ·exact⟨h.ne,h.lo,h.hi,d _ h.out⟩
  ·exact h.elim
 case extr x i =>
  generalize ev ρ x=z at h ⊢;split at h
  ·rename_i u;generalize u.toList[i]?=y at h ⊢;cases y
   ·exact h.elim
   ·exact d _ h
  ·exact h.elim
 case len x =>
  generalize ev ρ x=z at h ⊢;split at h<;>first | exact h.elim | exact d _ h
 case mm mx args =>
  generalize args.map (ev ρ)=z at h ⊢;split at h
  ·rename_i k a l;generalize PN mx a l=y at h ⊢;cases y
   ·exact h.elim
   ·exact d _ h
  ·exact h.elim
theorem Q9 {o:dN}{d:Option Nat}{K:TK}{F:au}{L:Loc}{ρ:Env}{M:TL}{τ:aK}(b:TS G F L ρ M τ) (h:outT o M τ fun v=>K M (bq d v τ)):aH o F L ρ (fun v=>Both G K F L (Fr.put d v ρ)) :=
 Dk (Vi b h) fun sv ⟨c,f,e⟩=>b.aap f e
set_option maxHeartbeats 1000000 in
theorem Nn {F:au}{L:Loc}{ρ:Env}{K:di}{n:Nat}{a x:X}{d:Option Nat}(h:evalOp P (.store n a x) d F L ρ K):evalOp P (.storeX n a x) d F L ρ K:=by
 simp only[evalOp] at h ⊢;split at h
 ·split at h
  ·split at h
   ·exact fun _=>h
   ·exact h.elim
  ·exact h.elim
 ·exact⟨let⟨k,v,t,sz,m,xs,ad,c,h1,h2,h3,h4,h5,h6⟩:=h.out;⟨k,v,t,sz,m,xs,ad,c,h1,h2,h3,h4,h5,fun _=>h6⟩⟩
 ·exact⟨let⟨k,v,t,sz,m,xs,ad,c,h1,h2,h3,h4,h5,h6⟩:=h.out;⟨k,v,t,sz,m,xs,ad,c,h1,h2,h3,h4,h5,fun _=>h6⟩⟩
 ·exact h.elim
theorem Np {str:Bool}{c:C}(h:JP str c=true):(∃n,str=false/\c=.int .i64 n)\/∃s,str=true/\c=.str s:=by
 unfold JP at h;split at h
 ·exact .inl ⟨_,rfl,rfl⟩
 ·exact .inr ⟨_,rfl,rfl⟩
 ·cases h
theorem F4 {F:au}{str:Bool}{key c:C}{kv v:Value}(j:Rel F [] key kv) (o:Rel F [] c v):∀{es b:List (C×C)}{m:List Value},fC F es m->EJ str key c es=some b->∃f,wK str kv v m=some f/\fC F b f
 | [],b,m,h,e=>by
  simp only[fC] at h;subst h;simp only[EJ,aaO] at e;subst e;exact⟨_,rfl,by simp only[fC];exact⟨kv,v,[],rfl,j,o,rfl⟩⟩
 | (k,d)::l,b,m,h,e=>by
  simp only[fC] at h;obtain⟨u,x,f,rfl,h1,s,p⟩:=h;simp only[EJ] at e;split at e
  ·rename_i n;injection e with e
   subst e;exact⟨_,by simp only[wK,qd n j h1];rfl,by simp only[fC];exact⟨kv,v,f,rfl,j,o,p⟩⟩
  ·rename_i n;split at e
   case h_2=>cases e
   rename_i z y;injection e with e
   subst e;obtain⟨q,t,r⟩:=F4 j o p y;exact⟨_,by simp only[wK,qd n j h1,t];rfl,by simp only[fC];exact⟨u,x,q,rfl,h1,s,r⟩⟩
  ·cases e
theorem HN {F:au}{L:Loc}{c:C}{v:Value}(h:Rel F L c.cel v) (b:iL (cF c)=true):Rel F [] c.cel.aaj v:=by
 have leaf:iL [c]=true->Rel F L c v->Rel F [] c v:=fun b h=>by
  have:=jq (L':=[]) b (show ax F L [c] [v] by simp only[ax];exact⟨v,[],rfl,h,rfl⟩);simp only[ax] at this;obtain⟨u,us,e,h1,_⟩:=this;injection e with e1 e2
  rw[e1];exact h1
 cases c
 case agg cs =>
  simp only[C.cel,cF] at h b ⊢;refine iX ?_;simp only[Rel] at h ⊢;obtain⟨f,h1,d⟩:=h;exact⟨f,h1,jq b d⟩
 case ownv k o=>simp[cF,iL,C.pure,C.aal] at b
 case elr k j o=>simp[cF,iL,C.pure,C.aal] at b
 all_goals
  simp only[C.cel,cF] at h b ⊢;exact iX (leaf b h)
theorem J7 {o:dN}{d:Option Nat}{K:TK}{F:au}{L:Loc}{ρ:Env}{M:TL}{τ:aK}(ho:j6 o=false) (l:TS G F L ρ M τ) (h:bN P o d M τ K):evalOp P o d F L ρ (Both G K):=by
 have he:=l.env;cases o
 case call=>cases ho
 case callV=>cases ho
 case box t x =>
  simp only[bN,fQ,eX,eS] at h;simp only[evalOp];split at h
  case h_2=>exact h.elim
  rename_i k;split at h
  case h_2=>exact h.elim
  rename_i q hc hb;simp only[bX l.tl q];exact fun g=>FY l q hc (fS hb) h g
 case boxD t x =>
  simp only[bN,fQ,eX,eS] at h;simp only[evalOp];split at h
  case h_2=>exact h.elim
  rename_i k;split at h
  case h_2=>exact h.elim
  rename_i q hc hb;simp only[bX l.tl q];exact fun g _=>FY l q hc (fS hb) h g
 case boxF t x =>
  simp only[bN,fQ,eX,eS] at h;simp only[evalOp];split at h
  case h_2=>exact h.elim
  rename_i h1 j m;intro g F' hF hg;exact(l.mono hF).aap (Q7 hg (nH j) (kP ((jq m (ia he h1)).mono hF))) h
 case alloc t zs =>
  simp only[bN,fQ,eX,eS] at h;simp only[evalOp];split at h
  case h_2=>exact h.elim
  rename_i k;split at h
  case h_2=>exact h.elim
  rename_i q hb;simp only[bX l.tl q];exact fun g=>Av l q (fS hb) h g
 case allocD t zs =>
  simp only[bN,fQ,eX,eS] at h;simp only[evalOp];split at h
  case h_2=>exact h.elim
  rename_i k;split at h
  case h_2=>exact h.elim
  rename_i q hb;simp only[bX l.tl q];exact fun g _=>Av l q (fS hb) h g
 case mkF e n sz xs =>
  simp only[bN,fQ,eX,eS] at h;simp only[evalOp];split at h
  case h_2=>exact h.elim
  rename_i h1 j m;rw[(js he h1).1];exact fun g F' hF hg=>FZ l h1 (aaR j) (abb m) h hF hg
 case mkFD e n sz xs =>
  simp only[bN,fQ,eX,eS] at h;simp only[evalOp];split at h
  case h_2=>exact h.elim
  rename_i h1 j m;rw[(js he h1).1];exact fun g F' hF hg _=>FZ l h1 (aaR j) (abb m) h hF hg
 case mkR e n sz xs =>
  simp only[bN,fQ,eX,eS] at h;simp only[evalOp];split at h
  case h_2=>exact h.elim
  rename_i k h1 j m;split at h
  case h_2=>exact h.elim
  rename_i q;rw[(js he h1).1];simp only[bX l.tl q];exact fun g=>Nh l h1 (aaR j) (abb m) q h g
 case makeS=>exact HM l h
 case store n y x=>exact Aw l h
 case storeD n y x=>exact xN l h
 case storeK key n y x =>
  simp only[bN] at h;split at h
  case h_2=>exact h.elim
  rename_i k off hy;split at h
  case h_2=>exact h.elim
  rename_i hb;obtain⟨n',a',x',k',bu,g,t,cs,ho,e1,e2,e3,e4,e5,hK⟩:=iB (P:=P) rfl (xN l h);rcases ho with ho | ho
  ·injection ho with q1 q2 q3
   subst q1 q2 q3;rw[(je he hy).1] at e3;injection e3 with q1 q2
   subst q1 q2;have hb:=aaR hb;subst hb;exact gY (.inr rfl) e1 e2 (je he hy).1 e4 e5 hK
  ·cases ho
 case makeSD e sz n zs =>
  simp only[bN] at h;split at h
  case h_2=>exact h.elim
  rename_i k;split at h
  case h_2=>exact h.elim
  rename_i q h1 j m;have r:=bX l.tl q;have s:zs.length=sz:=by have:=bU h1;simpa using this
  simp only[evalOp,r,ji s,m];intro g _;have hz:ax F [] ((zs.map rF).map C.can) zs:=kP (kN zs);have ag:eH (zs.map rF)=true->∀i:Nat,aN F sz (List.replicate i ((zs.map rF).map C.can)) (List.replicate i zs).flatten:=by
   intro j i
   induction i with
   | zero=>simp only[List.replicate_zero,List.flatten_nil,aN]
   | succ i ih =>
    simp only[ab4,List.flatten_cons,aN];exact⟨zs,_,rfl,s,nH j,hz,ih⟩
  have z:∀i:Nat,i=n->aN F sz (List.replicate i ((zs.map rF).map C.can)) (List.replicate i zs).flatten:=by
   intro i hi;rw[abp] at j;rcases j with j | j
   ·have j:=aaR j;rw[hi,j];simp only[List.replicate_zero,List.flatten_nil,aN]
   ·exact ag j i
  have m:=l.new (au.le_refl F) r (o:=.row (.slice (some ⟨g,0,none⟩) n n) e sz n (List.replicate n zs).flatten) (to:=.row e sz (List.replicate n ((zs.map rF).map C.can)))
   ⟨rfl,rfl,by simp,⟨abb m,_,_,rfl,fun e=>(by cases e)⟩,z _ rfl⟩
  exact⟨_,_,m.put (c:=.rw k) (lp (by rw[Loc.aac,o5 rfl])) (some k),h⟩
 case makeSV e sz b zs x =>
  simp only[bN] at h;split at h
  case h_2=>exact h.elim
  rename_i ki n k hx;split at h
  case h_2=>exact h.elim
  rename_i q h1 j;have r:=bX l.tl q;have s:zs.length=sz:=by have:=bU h1;simpa using this
  obtain⟨m1,_,m3,m4,h⟩:=h;have hv:val L ρ x=.int ki n:=by rw[val,(gq he hx).1];rfl
  have am:sO b (val L ρ x)=true:=by
   rw[hv,sO,aaN,aaN];exact⟨⟨Nat.ble_eq_true_of_le m3,Nat.ble_eq_true_of_le m4⟩,aaS m1⟩
  have hc:lN (val L ρ x)=n.toNat:=by rw[hv];rfl
  simp only[evalOp,r,ji s,am];rw[hc];intro g _;have hz:ax F [] ((zs.map rF).map C.can) zs:=kP (kN zs);have z:∀i:Nat,aN F sz (List.replicate i ((zs.map rF).map C.can)) (List.replicate i zs).flatten:=by
   intro i
   induction i with
   | zero=>simp only[List.replicate_zero,List.flatten_nil,aN]
   | succ i ih =>
    simp only[ab4,List.flatten_cons,aN];exact⟨zs,_,rfl,s,nH j,hz,ih⟩
  have m:=l.new (au.le_refl F) r (o:=.row (.slice (some ⟨g,0,none⟩) n.toNat n.toNat) e sz n.toNat (List.replicate n.toNat zs).flatten) (to:=.row e sz (List.replicate n.toNat ((zs.map rF).map C.can)))
   ⟨rfl,rfl,by simp,⟨m4,_,_,rfl,fun e=>(by cases e)⟩,z _⟩
  exact⟨_,_,m.put (c:=.rw k) (lp (by rw[Loc.aac,o5 rfl])) (some k),h⟩
 case callD f args =>
  simp only[bN,fQ,eX,eS] at h;simp only[evalOp];refine dI.imp' (uS l (dM he args) h) ?_;rintro F' L' v ⟨M',p,c,h1,j,m⟩;exact h1.aap j m
 case callVD f args =>
  simp only[bN,fQ,eX,eS] at h;simp only[evalOp];split at h
  ·rename_i f' fi ca hx;obtain⟨bb,bp,e1,h1,j⟩:=uN he hx;rw[e1];refine dI.imp' (uS l (jt he h1 j args) h) ?_;rintro F' L' v ⟨M',p,c,h1,j,m⟩;exact h1.aap j m
  ·rename_i nm c hx;split at h
   case h_2=>exact h.elim
   rename_i t c;obtain⟨u,e1,hr⟩:=xK he hx;simp only[Rel] at hr;obtain⟨u',rfl,hu⟩:=hr;obtain⟨f',hm,h⟩:=h;have e2:rL P (ev ρ f)=some (f',[u'],[]):=by rw[e1];simp only[rL,hm]
   rw[e2];have ao:ax F L (c::eY τ args) ([u']++bn L ρ args++[]):=by
    rw[abo];simp only[aa4,abr,ax];exact⟨_,_,rfl,hu.lift,dM he args⟩
   refine dI.imp' (uS l ao h) ?_;rintro F' L' v ⟨M',p,c,h1,j,m⟩;exact h1.aap j m
  ·exact h.elim
 case callO f args =>
  simp only[bN,fQ,eX,eS] at h;simp only[evalOp];cases h with
  | mk h =>
   obtain⟨ks,ko,Lin,R,h1,j,m,h4,h5,h6,h7⟩:=h;refine dO.imp (qR (K:=fun M' p v=>K M' (bq d v p)) l (dM he args) h1 j m h4 h5 h6 h7) ?_;rintro F' L' v ⟨M',p,c,h1,j,m⟩ _;exact h1.aap j m
  | inpl ks Lin R h1 j m h4 =>
   refine dO.imp (uQ (K:=fun M' p v=>K M' (bq d v p)) l (dM he args) h1 j m h4) ?_;rintro F' L' v ⟨M',p,c,h1,j,m⟩ _;exact h1.aap j m
 case callVO f args =>
  simp only[bN,fQ,eX,eS] at h;simp only[evalOp];split at h
  case h_2=>exact h.elim
  rename_i f' fi ca hx;obtain⟨bb,bp,e1,g1,g2⟩:=uN he hx;rw[e1];cases h with
  | mk h =>
   obtain⟨ks,ko,Lin,R,h1,j,m,h4,h5,h6,h7⟩:=h;refine dO.imp (qR (K:=fun M' p v=>K M' (bq d v p)) l (jt he g1 g2 args) h1 j m h4 h5 h6 h7) ?_;rintro F' L' v ⟨M',p,c,h1,j,m⟩ _;exact h1.aap j m
  | inpl ks Lin R h1 j m h4 =>
   refine dO.imp (uQ (K:=fun M' p v=>K M' (bq d v p)) l (jt he g1 g2 args) h1 j m h4) ?_;rintro F' L' v ⟨M',p,c,h1,j,m⟩ _;exact h1.aap j m
 case app=>exact Ni l h
 case appX=>exact JZ l h
 case appD=>exact J0 l h
 case mkmap =>
  simp only[bN] at h;simp only[evalOp];split at h
  case h_2=>exact h.elim
  rename_i k;split at h
  case h_2=>exact h.elim
  rename_i q;have r:=bX l.tl q;simp only[r];intro g;have h1:=l.new (au.le_refl F) r (o:=.box g 0 []) (to:=.map []) ⟨rfl,rfl⟩;exact⟨_,_,h1.put (c:=.mpr k) (sv:=.v (.map (some g))) ⟨_,rfl,by simp only[Rel];exact⟨g,[],by rw[Loc.aac,o5 rfl],rfl⟩⟩ (some k),h⟩
 case mrange=>exact h.elim
 case mnext=>exact h.elim
 case mentry=>exact h.elim
 case mupd str x i v =>
  simp only[bN] at h;simp only[evalOp];split at h
  case h_2=>exact h.elim
  rename_i k hx;split at h
  case h_2=>exact h.elim
  rename_i es q aw am hp;obtain⟨bo,az,h⟩:=h;obtain⟨g,cs,e1,e2⟩:=FW he hx;obtain⟨g',vs,e3,hE⟩:=JY l.tl q;rw[e2] at e3;injection e3 with e3
  injection e3 with q1 q2 q3
  subst q1 q3;rw[e1];have aE:Rel F [] (cO τ i) (val L ρ i)/\eU str (val L ρ i) (val L ρ i)=some true:=by
   rcases Np aw with⟨n,rfl,e⟩ | ⟨t,rfl,e⟩
   ·obtain⟨e2,w⟩:=gq he e;simp only[e,val,e2,conc,Rel,eU,decide_true];exact⟨⟨trivial,w⟩,trivial⟩
   ·obtain⟨e2,w⟩:=wu he e;simp only[e,val,e2,conc,Rel,eU,decide_true];exact⟨⟨trivial,w⟩,trivial⟩
  have bc:Rel F [] ((cO τ v).cel.aaj) (val L ρ v):=by
   have bm:=ia he am;have cr:=jq (L':=[]) hp bm;exact HN (BJ he v) hp
  obtain⟨cs',an,be⟩:=F4 aE.1 bc hE az;refine⟨k,cs,e2,hE.isMap,aE.2,cs',an,?_⟩;have h4:=l.turn (o':=.box g 0 cs') (to:=.map bo) e2 ⟨rfl,rfl⟩ (fun g' t' cl e=>by injection e with a b c;subst a b;exact⟨_,rfl⟩) (fun _ _=>⟨rfl,be⟩);exact h4.aap (c:=.und) (sv:=.v undef) ⟨_,rfl,by simp only[Rel]⟩ h
 case storeX n a x=>exact Nn (Aw l h)
 all_goals
  simp only[bN,fQ,eX,eS] at h;simp only[evalOp];exact Q9 (d:=d) (K:=K) l h
end
section
variable {P:Program}{PS:nG}{G:Nat->Option (Nat×TypeId)}{F:au}{L:Loc}{ρ:Env}{M:TL}{τ:aK}{a:Act}{w:World}{Q:Exit->Act->World->Prop}{o:Oper}
theorem j7 {L2:Loc}(he:aA L ρ a) (b:aA L2 ρ a):∀xs:List X,bn L2 ρ xs=bn L ρ xs
 | []=>rfl
 | x::xs=>by
  have:val L2 ρ x=val L ρ x:=by
   cases x with
   | t n=>exact(b.eq n).symm.trans (he.eq n)
   | c v=>rfl
   | fn f=>rfl
   | mt d n =>
    simp only[val,ev];cases ρ n<;>rfl
  simp only[bn,this,j7 he b xs]
theorem mO {f:Nat}{args:List C}{t:List Value}{K:TL->aK->C->Prop}(e:St F L w) (he:aA L ρ a) (s:TS G F L ρ M τ) (n:ax F L args t) (h:qa P f args M τ K) :
  ∃F' L',St F' L' w/\aA L' ρ a/\Step F L w F' L' w/\dO P f t F' L' (fun F' L' v=>∃M' b c,TS G F' L' ρ M' b/\aJ F' L' c (.v v)/\K M' b c):=by
 cases h with
 | inpl ks Lin R h1 h2 h3 h4=>exact⟨F,L,e,he,Step.refl _ _ _,uQ s n h1 h2 h3 h4⟩
 | mk h =>
 obtain⟨fz,ks,ko,h⟩:=h;obtain⟨F1,L1,M1,ae,d,u,q,p,x,j,M2,Lin,R,k1,l,y,m,r,k,k8,k9⟩:=oI e he s n h;rcases k1 with rfl | ⟨k1,k2⟩
 ·exact⟨F1,_,u,q,p,qR x j l y m r k k8 k9⟩
 ·obtain⟨e1,e2,e3,e4,z⟩:=qg u q x k1 k2;exact⟨F1,_,e1,e2,p.trans e3,qR e4 (j.ext (au.le_refl F1) z) l y m r k k8 k9⟩
theorem tG {f:Nat}{args:List C}{t:List Value}{K:TL->aK->C->Prop}(z:St F L w) (he:aA L ρ a) (ht:TS G F L ρ M τ) (ha:ax F L args t) (h:kU P PS f args M τ K) (d:PS.st=none) :
  ∃F' L',St F' L' w/\aA L' ρ a/\Step F L w F' L' w/\fG P (zu G PS) f t F' L' (fun F' L' v=>∃M' j c,TS G F' L' ρ M' j/\aJ F' L' c (.v v)/\K M' j c):=by
 obtain⟨fz,ks,ko,h⟩:=h;obtain⟨F1,L1,M1,ag,k,u,r,q,x,l,M2,Lin,R,Pp,k1,n,y,p,s,m,e,k8,b,k9⟩:=oI z he ht ha h;rcases k1 with rfl | ⟨k1,k2⟩
 ·exact⟨F1,_,u,r,q,Az x l n y p s m e k8 b d k9⟩
 ·obtain⟨e1,e2,e3,e4,e5⟩:=qg u r x k1 k2;exact⟨F1,_,e1,e2,q.trans e3,Az e4 (l.ext (au.le_refl F1) e5) n y p s m e k8 b d k9⟩
theorem tH {f:Nat}{args:List C}{t:List Value}{K:TL->aK->C->Prop}{st:TL->Value->Prop}(l:St F L w) (he:aA L ρ a) (s:TS G F L ρ M τ) (q:ax F L args t) (h:EK P PS.ps PS.hb st f args M τ K) (k:PS.st=some st) :
  ∃F' L',St F' L' w/\aA L' ρ a/\Step F L w F' L' w/\fG P (zu G PS) f t F' L' (fun F' L' v=>∃M' j c,TS G F' L' ρ M' j/\aJ F' L' c (.v v)/\K M' j c):=by
 obtain⟨ks,ko,M2,Lin,R,Pp,k1,n,u,p,r,m,d,k8,b,k9⟩:=h;have e:PS=⟨PS.ps,PS.hb,some st⟩:=by rw[<-k]
 rcases k1 with rfl | ⟨k1,k2⟩
 ·exact⟨F,_,l,he,Step.refl _ _ _,AA s q e n u p r m d k8 b k9⟩
 ·obtain⟨e1,e2,y,z,x⟩:=qg l he s k1 k2;exact⟨F,_,e1,e2,y,AA z (q.ext (au.le_refl F) x) e n u p r m d k8 b k9⟩
theorem AB:∀{cs:List C}{b us:List Value},xI cs=some us->ax F L cs b->b=us
 | [],b,us,h,r=>by simp only[xI,aaO] at h;simp only[ax] at r;rw[r,<-h]
 | c::cs,b,us,h,r=>by
  simp only[ax] at r;obtain⟨v,f,rfl,d,j⟩:=r;cases c<;>simp only[xI,reduceCtorEq] at h
  all_goals
   split at h
   case h_2=>cases h
   rename_i k e;injection h with h
   subst h;rw[AB e j];simp only[Rel] at d
   first
    | rw[d.1]
    | rw[d]
theorem J8 {c:C}{u v:Value}(h:C9 c=some u) (r:Rel F L c v):v=u/\∃t x,u=.iface t x:=by
 cases c<;>simp only[C9,reduceCtorEq] at h
 case ifc t c =>
  simp only[Rel] at r;obtain⟨x,rfl,r⟩:=r;cases c<;>simp only[C9,reduceCtorEq] at h
  case agg cs =>
   split at h
   case h_2=>cases h
   rename_i us b;injection h with h
   subst h;simp only[Rel] at r;obtain⟨d,rfl,r⟩:=r;rw[AB b r];exact⟨rfl,_,_,rfl⟩
  all_goals
   injection h with h
   subst h;simp only[Rel] at r
   first
    | (obtain⟨rfl,_⟩:=r;exact⟨rfl,_,_,rfl⟩)
    | (subst r;exact⟨rfl,_,_,rfl⟩)
theorem bD.from {F1:au}{L1:Loc}{K:di}{a':Act}{w':World}(b:Step F L w F1 L1 w) (h:bD F1 L1 w a K a' w'):bD F L w a K a' w':=by
 obtain⟨F',L',ρ',h1,f,e,j,c,d⟩:=h;exact⟨F',L',ρ',h1,f,e,j,b.trans c,d⟩
theorem HO {own:Bool}{s:dN}{K:TK}(hs:St F L w) (he:aA L ρ a) (e:TS G F L ρ M τ) (hd:∀k,o.dst=some k->k<a.tmps.size) (hl:gV P own o.op=some s)
  (b:bN P s o.dst M τ K):o.wp P a w (bD F L w a (Both G K)) Q:=by
 by_cases hc:j6 s=true
 ·cases s<;>simp only[j6,aa5] at hc
  ·rename_i f args;simp only[bN,fQ,eX,eS] at b;obtain⟨F1,L1,x,h,p,z⟩:=mO hs he e (dM e.env args) b;refine Oper.wp_mono (fun a' w'=>bD.from p) (fe x h hd hl ?_);simp only[evalOp];rw[j7 he h];exact dO.imp z fun F' L' v ⟨M',aa,c,h1,m,n⟩=>h1.aap m n
  ·rename_i fx args;simp only[bN,fQ,eX,eS] at b;split at b
   ·rename_i f fi ca hx;obtain⟨bc,be,e1,h1,m⟩:=uN e.env hx;obtain⟨F1,L1,x,h,p,z⟩:=mO hs he e (jt e.env h1 m args) b;refine Oper.wp_mono (fun a' w'=>bD.from p) (fe x h hd hl ?_);simp only[evalOp,e1,rL];rw[j7 he h];exact dO.imp z fun F' L' v ⟨M',aa,c,h1,m,n⟩=>h1.aap m n
   ·rename_i nm c hx;split at b
    case h_2=>exact b.elim
    rename_i t c;obtain⟨u,e1,hr⟩:=xK e.env hx;simp only[Rel] at hr;obtain⟨u',rfl,hu⟩:=hr;obtain⟨f',hm,b⟩:=b;have d:ax F L (c::eY τ args) ([u']++bn L ρ args++[]):=by
     rw[abo];simp only[aa4,abr,ax];exact⟨_,_,rfl,hu.lift,dM e.env args⟩
    obtain⟨F1,L1,x,h,p,z⟩:=mO hs he e d b;refine Oper.wp_mono (fun a' w'=>bD.from p) (fe x h hd hl ?_);have e2:rL P (ev ρ fx)=some (f',[u'],[]):=by rw[e1];simp only[rL,hm]
    simp only[evalOp,e2];rw[j7 he h];exact dO.imp z fun F' L' v ⟨M',aa,c,h1,m,n⟩=>h1.aap m n
   ·rename_i t nm hx;split at b
    case h_2=>exact b.elim
    rename_i t' c ad y l;have e1:=MZ e.env hx;obtain⟨f',hm,b⟩:=b;have q:=dM e.env args;rw[l] at q;simp only[ax,Rel] at q;obtain⟨v0,j,av,⟨u,rfl,hu⟩,r⟩:=q;have d:ax F L (c::ad) (u::j):=by
     simp only[ax];exact⟨_,_,rfl,hu.lift,r⟩
    obtain⟨F1,L1,x,h,p,z⟩:=mO hs he e d b;refine Oper.wp_mono (fun a' w'=>bD.from p) (fe x h hd hl ?_);have hi:∃ms,P.underlying t=some (.interface ms):=by
     unfold P4 at y;split at y
     ·exact⟨_,by assumption⟩
     ·cases y
    obtain⟨ms,hi⟩:=hi;have e2:rL P (ev ρ fx)=none:=by rw[e1];rfl
    have e3:zW P (ev ρ fx) (bn L1 ρ args)=some (f',u::j):=by
     rw[j7 he h,av,e1];simp only[zW,hi,hm]
    simp only[evalOp,e2,e3];exact dO.imp z fun F' L' v ⟨M',aa,c,h1,m,n⟩=>h1.aap m n
   ·exact b.elim
 ·exact fe hs he hd hl (J7 (by simpa using hc) e b)
theorem HT {own:Bool}{s:dN}{K:TK}(q:St F L w) (he:aA L ρ a) (j:TS G F L ρ M τ) (hd:∀k,o.dst=some k->k<a.tmps.size) (hl:gV P own o.op=some s)
  (d:uM P PS s o.dst M τ K) (hQ:∀v p w' F' L',rK v p->St F' L' w'->Step F L w F' L' w'->zu G PS F' L' v->Q (.panic p) a w'):o.wp P a w (bD F L w a (Both G K)) Q:=by
 cases s<;>simp only[uM] at d<;>try (exact d.elim)
 ·rename_i f args;simp only[fQ,eX,eS] at d;have key:∃F' L',St F' L' w/\aA L' ρ a/\Step F L w F' L' w/\fG P (zu G PS) f (bn L ρ args) F' L' (fun F' L' v=>∃M' h c,TS G F' L' ρ M' h/\aJ F' L' c (.v v)/\K M' (bq o.dst c h)):=by
   split at d
   ·rename_i b;exact tG q he j (dM j.env args) d b
   ·rename_i st b;exact tH q he j (dM j.env args) d b
  obtain⟨F1,L1,g1,z,r,g4⟩:=key;refine Oper.wp_mono (fun a' w'=>bD.from r) (vw (PX:=zu G PS) g1 z hd hl ?_ fun v p w' F' L' qc q1 q2 q3=>hQ v p w' F' L' qc q1 (r.trans q2) q3);rw[j7 he z];exact fG.imp g4 fun F' L' v ⟨M',h,c,h1,l,n⟩=>h1.aap l n
 ·rename_i fx args;split at d
  case h_2=>exact d.elim
  rename_i f fi ca hx;simp only[fQ,eX,eS] at d;obtain⟨ac,ao,e1,h1,l⟩:=uN j.env hx;have key:∃F' L',St F' L' w/\aA L' ρ a/\Step F L w F' L' w/\fG P (zu G PS) f (ac++bn L ρ args++ao) F' L' (fun F' L' v=>∃M' h c,TS G F' L' ρ M' h/\aJ F' L' c (.v v)/\K M' (bq o.dst c h)):=by
   split at d
   ·rename_i b;exact tG q he j (jt j.env h1 l args) d b
   ·rename_i st b;exact tH q he j (jt j.env h1 l args) d b
  obtain⟨F1,L1,g1,z,r,g4⟩:=key;refine Oper.wp_mono (fun a' w'=>bD.from r) (s5 (PX:=zu G PS) g1 z hd hl e1 ?_ fun v p w' F' L' qc q1 q2 q3=>hQ v p w' F' L' qc q1 (r.trans q2) q3);rw[j7 he z];exact fG.imp g4 fun F' L' v ⟨M',h,c,h1,l,n⟩=>h1.aap l n
 ·rename_i x;have d:∃u,C9 (cO τ x)=some u/\jw M [] PS.hb=true/\PS.ps u/\∀s,PS.st=some s->s M u:=by
   split at d
   ·rename_i b;obtain⟨u,h1,m,l⟩:=d;exact⟨u,h1,m,l,fun s e=>by rw[b] at e;cases e⟩
   ·rename_i st b;obtain⟨u,h1,m,l,n⟩:=d;exact⟨u,h1,m,l,fun s e=>by rw[b] at e;injection e with e;subst e;exact n⟩
  obtain⟨u,h1,m,l,n⟩:=d;have hr:=mh (dP j.env x);have hc:(cO τ x).cel=cO τ x:=by
   cases e:cO τ x<;>rw[e] at h1<;>first | rfl | (simp only[C9,reduceCtorEq] at h1;done)
  rw[hc] at hr;obtain⟨e1,t,y,e2⟩:=J8 h1 hr;refine HE (PX:=zu G PS) q he hl (t:=t) (u:=y) (e1.trans e2) ⟨j.kp,by rw[<-e2];exact l,Nk j.tl m fun k g t cs _ e=>e,fun s e=>⟨M,Ay j.tl,by rw[<-e2];exact n s e⟩⟩ hQ
theorem ET (he:aA L ρ a) (b:TS G F L ρ M τ) (d:Option Nat):∃ρ',aA L ρ' a/\TS G F L ρ' M (rG d τ):=by
 cases d with
 | none=>exact⟨ρ,he,b⟩
 | some k =>
  have q:∀j,rG (some k) τ j=if j=k then(τ k).aaC else τ j:=by
   intro j;simp only[rG];cases h:Nat.beq j k with
   | true=>have:=aaR h;simp[this]
   | false=>have:=f9 h;simp[this]
  by_cases c:∃n off,τ k=.ownv n off
  ·obtain⟨n,off,c⟩:=c;have l:=b.env k;rw[c] at l;simp only[aJ,Rel] at l;obtain⟨v,p,g,t,cs,m,rfl⟩:=l;have r:conc L (ρ k)=.pointer (some ⟨g,off,none⟩):=p.conc;refine⟨Fr.put (some k) (.own n off) ρ,⟨fun f=>?_,fun f j o e=>?_,fun f s j e=>?_⟩,b.tl,fun j=>?_,b.kp,b.glob⟩
   ·rw[he.eq f,put_eq];simp only[];split
    ·rename_i h;subst h;rw[r];simp only[conc,m]
    ·rfl
   ·rw[put_eq] at e;simp only[] at e;split at e
    ·injection e with q1 q2;subst q1;exact⟨g,t,cs,m⟩
    ·exact he.own _ _ _ e
   ·rw[put_eq] at e;simp only[] at e;split at e
    ·cases e
    ·exact he.el _ _ _ e
   ·rw[q,put_eq];simp only[];split
    ·rw[c];exact⟨rfl,g,t,cs,m⟩
    ·exact b.env j
  ·refine⟨ρ,he,b.tl,fun j=>?_,b.kp,b.glob⟩;rw[q];split
   ·rename_i h;subst h;have:(τ j).aaC=τ j:=by
     cases e:τ j<;>first | rfl | exact vv ⟨_,_,e⟩ c
    rw[this];exact b.env j
   ·exact b.env j
def tI (G:Nat->Option (Nat×TypeId)) (PS:nG) (ks:List Nat):Prop:=∀k∈ks,G k≠none->1000<=k\/eZ (PS.hb.map (·.1)) k=true
theorem tI.left {ks b:List Nat}(h:tI G PS (ks++b)):tI G PS ks:=fun k c=>h k (aaX.2 (.inl c))
theorem tI.right {ks b:List Nat}(h:tI G PS (ks++b)):tI G PS b:=fun k c=>h k (aaX.2 (.inr c))
theorem lA:∀(a b:List ai),cZ (a++b)=cZ a++cZ b
 | [],b=>rfl
 | .frz k::a,b=>by simp only[aa4,cZ,lA a b]
 | .op _ _ _::a,b=>by simp only[aa4,cZ,lA a b]
 | .pc _ _ _::a,b=>by simp only[aa4,cZ,lA a b]
theorem Dl {k:Nat}{K:TK}{q:TL->aK->TK->Prop}(p:St F L w) (he:aA L ρ a) (r:TS G F L ρ M τ) (v:G k≠none->1000<=k\/eZ (PS.hb.map (·.1)) k=true) (h:stepT P PS false (.frz k) q M τ K) :
  ∃F' L' ρ' M' b,St F' L' w/\aA L' ρ' a/\Step F L w F' L' w/\TS G F' L' ρ' M' b/\q M' b K:=by
 simp only[stepT,fQ] at h;split at h
 ·rename_i t sz els d;obtain⟨F1,L1,m,l,j,n,_⟩:=rZ p he r d;exact⟨F1,L1,ρ,_,_,m,l,j,n,h⟩
 ·rename_i t cs d;split at h
  case h_2=>exact h.elim
  rename_i z y s u;have f:G k=none:=by
   cases e:G k with
   | none=>rfl
   | some x =>
    rcases v (by rw[e];simp) with h1 | h1
    ·rw[Nat.blt_eq] at s;omega
    ·rw[u] at h1;cases h1
  obtain⟨F1,L1,c,m,l,j,n⟩:=ER p he r d z y f;exact⟨F1,L1,c,_,_,m,l,j,n,h⟩
 ·exact h.elim
theorem xZ {A:dc}{r:Nat}{l:Array Oper}{K:TK}:∀(is:List Nat) {ss:List ai}{F:au}{L:Loc}{ρ:Env}{M:TL}{τ:aK}{a:Act}{w:World},pO P A r l is=some ss->tI G PS (cZ ss)->St F L w->aA L ρ a->TS G F L ρ M τ->a.tmps.size=A.n ->
  cW P PS false ss M τ K->(∀a' w',dZ A.n F L w a (dstsOf l is) (Both G K) a' w'->Q .normal a' w') ->
  (∀v ch a' w',rK v ch->rE A.n F L w a (dstsOf l is) (zu G PS) v a' w'->Q (.panic ch) a' w')->wpOps P l Q is a w:=by
 intro is
 induction is with
 | nil =>
  intro ss F L ρ M τ a w hl ca hs he ht hn q hQ bd;simp only[pO,aaO] at hl;subst hl;exact hQ a w ⟨F,L,ρ,hs,he,hn,rfl,Step.refl _ _ _,fun _ _=>rfl,M,τ,ht,q⟩
 | cons i is ih =>
  intro ss F L ρ M τ a w hl ca hs he ht hn q hQ bd;simp only[pO] at hl;split at hl
  case h_1=>cases hl
  rename_i o hi;split at hl
  case h_2=>cases hl
  rename_i g s z hg ci bo bb;injection hl with hl
  subst hl;have aw:∀(ks:List Nat) {x:ai}{F:au}{L:Loc}{ρ:Env}{M:TL}{τ:aK},tI G PS (cZ (ks.map ai.frz++x::z))->St F L w->aA L ρ a->TS G F L ρ M τ->cW P PS false (ks.map ai.frz++x::z) M τ K ->
    ∃F' L' ρ' M' am,St F' L' w/\aA L' ρ' a/\Step F L w F' L' w/\TS G F' L' ρ' M' am/\cW P PS false (x::z) M' am K:=by
   intro ks
   induction ks with
   | nil=>intro x F L ρ M τ _ hs he ht h;exact⟨F,L,ρ,M,τ,hs,he,Step.refl _ _ _,ht,h⟩
   | cons k ks cw =>
    intro x F L ρ M τ hz hs he ht h;simp only[aa0,aa4,eI] at h;obtain⟨F1,L1,cm,M1,u,g1,g2,g3,g4,h⟩:=Dl hs he ht (hz k (by simp[cZ])) h;obtain⟨F2,L2,co,M2,cx,k1,k2,k3,k4,k5⟩:=cw (fun j hj=>hz j (by simp only[aa0,aa4,cZ];exact abj _ hj)) g1 g2 g4 h;exact⟨F2,L2,co,M2,cx,k1,k2,g3.trans k3,k4,k5⟩
  have bt:tI G PS (cZ z):=fun j hj=>ca j (by
   rw[lA];refine aaX.2 (.inr ?_);cases hp:vo A.pan r i<;>simp only[mT,cZ]<;>exact hj)
  obtain⟨F1,L1,cm,M1,u,cd,al,an,m,q⟩:=aw _ ca hs he ht q
  clear aw he ht
  revert al m
  generalize cm=ρ;intro al m;have hd:∀k,o.dst=some k->k<a.tmps.size:=by
   intro k hk;rw[hk] at bo;rw[hn];have h2:Nat.blt k A.n=true:=bo;simpa using h2
  have bu:dstsOf l (i::is)=match o.dst with | some d=>d::dstsOf l is | none=>dstsOf l is:=by
   simp only[dstsOf,hi,Option.bind_some];rfl
  have ad:∀j,j∉dstsOf l (i::is)->o.dst≠some j/\j∉dstsOf l is:=by
   intro j hj;rw[bu] at hj;cases ho:o.dst with
   | none=>rw[ho] at hj;exact⟨by simp,hj⟩
   | some d =>
    rw[ho] at hj;simp only[aaW,not_or] at hj;exact⟨by simp;exact fun e=>hj.1 e.symm,hj.2⟩
  have after:∀{KK:Prop},o.wp P a w (fun a' w'=>bD F1 L1 w a (Both G fun M' am=>cW P PS false z M' (rG o.dst am) K) a' w') Q->o.wp P a w (wpOps P l Q is) Q:=by
   intro _ this;refine Oper.wp_mono ?_ (pQ (asg:=[]) this);rintro a' w' ⟨⟨F',L',ρ',g1,g2,g3,g4,g5,M',am,g6,g7⟩,cl⟩;obtain⟨co,n1,n2⟩:=ET g2 g6 o.dst;refine ih bb bt g1 n1 n2 (by rw[g3,hn]) g7 ?_ ?_
   ·rintro ar av ⟨F'',L'',az,k1,k2,k3,k4,k5,k6,k7⟩;refine hQ ar av ⟨F'',L'',az,k1,k2,k3,k4.trans g4,(an.trans g5).trans k5,fun j hj=>?_,k7⟩;obtain⟨n1,n2⟩:=ad j hj;rw[k6 j n2,cl j n1]
   ·rintro v ch ar av kc ⟨F'',L'',k1,k2,k3,k4,k5,k6⟩;refine bd v ch ar av kc ⟨F'',L'',k1,(an.trans g5).trans k2,k3,k4.trans g4,fun j hj=>?_,k6⟩;obtain⟨n1,n2⟩:=ad j hj;rw[k5 j n2,cl j n1]
  have aE:∀{u:aK},TS G F1 L1 ρ M1 u->bN P s o.dst M1 u (fun M' am=>cW P PS false z M' (rG o.dst am) K)->o.wp P a w (wpOps P l Q is) Q:=by
   intro u m q;exact after (KK:=True) (HO (Q:=Q) cd al m hd ci q)
  have ao:∀{u:aK},TS G F1 L1 ρ M1 u->uM P PS s o.dst M1 u (fun M' am=>cW P PS false z M' (rG o.dst am) K)->o.wp P a w (wpOps P l Q is) Q:=by
   intro u m q;exact after (KK:=True) (HT (Q:=Q) cd al m hd ci q fun v ch w' F' L' qc q1 q2 q3=>bd v ch a w' qc ⟨F',L',q1,an.trans q2,hn,rfl,fun _ _=>rfl,q3⟩)
  have skip:∀{u:aK},TS G F1 L1 ρ M1 u->cW P PS false z M1 (bq o.dst .und u) K->wpOps P l Q is (a.put o.dst undef) w:=by
   intro u m q;have cz:=al.put hd (v:=undef) (x:=.v undef) rfl cq eJ (sQ L1);refine ih bb bt cd cz (m.put (c:=.und) (sv:=.v undef) ⟨_,rfl,by simp only[Rel]⟩ o.dst) (by rw[jx,hn]) q ?_ ?_
   ·rintro ar av ⟨F'',L'',az,k1,k2,k3,k4,k5,k6,k7⟩;refine hQ ar av ⟨F'',L'',az,k1,k2,k3,k4.trans (gj _ _ _),an.trans k5,fun j hj=>?_,k7⟩;obtain⟨n1,n2⟩:=ad j hj;rw[k6 j n2,jZ n1]
   ·rintro v ch ar av kc ⟨F'',L'',k1,k2,k3,k4,k5,k6⟩;refine bd v ch ar av kc ⟨F'',L'',k1,an.trans k2,k3,k4.trans (gj _ _ _),fun j hj=>?_,k6⟩;obtain⟨n1,n2⟩:=ad j hj;rw[k5 j n2,jZ n1]
  simp only[wpOps,hi];cases cp:vo A.pan r i with
  | false =>
   rw[cp] at q;cases aa:o.guard with
   | none =>
    rw[aa] at hg;simp only[gX,aaO] at hg;subst hg;simp only[mT,eI,stepT] at q;rw[o5 (by simp[Region.wanted,aa])];exact .inl (aE m q)
   | some p =>
    obtain⟨j,y⟩:=p;rw[aa] at hg;simp only[gX] at hg;split at hg
    case h_2=>cases hg
    rename_i d bc;injection hg with hg
    subst hg;simp only[mT,eI,stepT] at q;split at q
    ·rename_i b hb;have ae:ρ d=.v (.bool b):=iW (x:=.t d) m.env hb;have f:=al.eq d;rw[ae] at f;have hy:yielded l a.tmps j=some b:=by
      simp only[yielded,bc,Option.bind_some,qJ f]
     have hw:Region.wanted o (yielded l a.tmps)=(b == y):=by
      simp only[Region.wanted,aa,hy];cases b<;>cases y<;>rfl
     have ag:TS G F1 L1 ρ M1 (bq (some d) (.bool b) u):=by
      have:=m.put (c:=.bool b) (sv:=.v (.bool b)) ⟨_,rfl,by simp only[Rel]⟩ (some d)
      rwa [kG ae] at this
     rw[hw];cases b<;>simp only[zq] at q
     ·cases y
      ·exact .inl (aE ag q)
      ·exact skip ag q
     ·cases y
      ·exact skip ag q
      ·exact .inl (aE ag q)
    ·rename_i hb;have hr:=m.env d;rw[hb] at hr;simp only[aJ,Rel] at hr;obtain⟨v,ae,rfl⟩:=hr;have f:=al.eq d;rw[ae] at f;have hy:yielded l a.tmps j=none:=by
      simp only[yielded,bc,Option.bind_some];rw[aa8] at f;cases e:a.tmps[d]? with
      | none=>rfl
      | some v=>rw[e] at f;simp only[Option.getD_some,conc] at f;rw[f];rfl
     have hw:Region.wanted o (yielded l a.tmps)=false:=by
      simp only[Region.wanted,aa,hy];rfl
     rw[hw];exact skip m q
    ·exact q.elim
  | true =>
   rw[cp] at q;cases aa:o.guard with
   | none =>
    rw[aa] at hg;simp only[gX,aaO] at hg;subst hg;simp only[mT,eI,stepT] at q;rw[o5 (by simp[Region.wanted,aa])];exact .inl (ao m q)
   | some p =>
    obtain⟨j,y⟩:=p;rw[aa] at hg;simp only[gX] at hg;split at hg
    case h_2=>cases hg
    rename_i d bc;injection hg with hg
    subst hg;simp only[mT,eI,stepT] at q;split at q
    ·rename_i b _ hb;have ae:ρ d=.v (.bool b):=iW (x:=.t d) m.env hb;have f:=al.eq d;rw[ae] at f;have hy:yielded l a.tmps j=some b:=by
      simp only[yielded,bc,Option.bind_some,qJ f]
     have hw:Region.wanted o (yielded l a.tmps)=(b == y):=by
      simp only[Region.wanted,aa,hy];cases b<;>cases y<;>rfl
     have ag:TS G F1 L1 ρ M1 (bq (some d) (.bool b) u):=by
      have:=m.put (c:=.bool b) (sv:=.v (.bool b)) ⟨_,rfl,by simp only[Rel]⟩ (some d)
      rwa [kG ae] at this
     rw[hw];cases b<;>simp only[zq] at q
     ·cases y
      ·exact .inl (ao ag q)
      ·exact skip ag q
     ·cases y
      ·exact skip ag q
      ·exact .inl (ao ag q)
    ·rename_i hb;have hr:=m.env d;rw[hb] at hr;simp only[aJ,Rel] at hr;obtain⟨v,ae,rfl⟩:=hr;have f:=al.eq d;rw[ae] at f;have hy:yielded l a.tmps j=none:=by
      simp only[yielded,bc,Option.bind_some];rw[aa8] at f;cases e:a.tmps[d]? with
      | none=>rfl
      | some v=>rw[e] at f;simp only[Option.getD_some,conc] at f;rw[f];rfl
     have hw:Region.wanted o (yielded l a.tmps)=false:=by
      simp only[Region.wanted,aa,hy];rfl
     rw[hw];exact skip m q
    ·exact q.elim
theorem kQ:aJ F L .und (.v undef):=⟨_,rfl,by simp only[Rel]⟩
theorem x5 {o:dN}{d:Option Nat}{F:au}{L:Loc}{ρ:Env}{K K':di}(h:evalOp P o d F L ρ K) (p:∀F' L' ρ',K F' L' ρ'->K' F' L' ρ'):evalOp P o d F L ρ K':=by
 cases o
 case box t x =>
  simp only[evalOp] at h ⊢;cases d with
  | none=>exact h.elim
  | some k =>
   simp only[] at h ⊢;generalize L.get k=z at h ⊢;cases z with
   | none=>exact fun g=>p _ _ _ (h g)
   | some _=>exact h.elim
 case boxD t x =>
  simp only[evalOp] at h ⊢;cases d with
  | none=>exact h.elim
  | some k =>
   simp only[] at h ⊢;generalize L.get k=z at h ⊢;cases z with
   | none=>exact fun g r=>p _ _ _ (h g r)
   | some _=>exact h.elim
 case boxF t x=>exact fun g F' a b=>p _ _ _ (h g F' a b)
 case alloc t z =>
  simp only[evalOp] at h ⊢;cases d with
  | none=>exact h.elim
  | some k =>
   simp only[] at h ⊢;generalize L.get k=z at h ⊢;cases z with
   | none=>exact fun g=>p _ _ _ (h g)
   | some _=>exact h.elim
 case allocD t z =>
  simp only[evalOp] at h ⊢;cases d with
  | none=>exact h.elim
  | some k =>
   simp only[] at h ⊢;generalize L.get k=z at h ⊢;cases z with
   | none=>exact fun g r=>p _ _ _ (h g r)
   | some _=>exact h.elim
 case mkF e n sz xs =>
  simp only[evalOp] at h ⊢;generalize fL L ρ sz xs=z at h ⊢;cases z with
  | true=>exact fun g F' a b=>p _ _ _ (h g F' a b)
  | false=>exact h.elim
 case mkFD e n sz xs =>
  simp only[evalOp] at h ⊢;generalize fL L ρ sz xs=z at h ⊢;cases z with
  | true=>exact fun g F' a b c=>p _ _ _ (h g F' a b c)
  | false=>exact h.elim
 case mkR e n sz xs =>
  simp only[evalOp] at h ⊢;generalize fL L ρ sz xs=z at h ⊢;cases z with
  | false=>exact h.elim
  | true =>
   cases d with
   | none=>exact h.elim
   | some k =>
    simp only[] at h ⊢;generalize L.get k=z at h ⊢;cases z with
    | none=>exact fun g=>p _ _ _ (h g)
    | some _=>exact h.elim
 case makeS e sz b zs l c =>
  simp only[evalOp] at h ⊢;generalize ev ρ l=z1 at h ⊢;generalize ev ρ c=z2 at h ⊢;split at h
  ·rename_i k;generalize L.get k=z at h ⊢;cases z with
   | none=>exact⟨h.lo,h.le,h.hi,h.max,fun g=>p _ _ _ (h.out g)⟩
   | some _=>exact h.elim
  ·exact h.elim
 case storeX n a x =>
  simp only[evalOp] at h ⊢;generalize gQ (aL (val L ρ x)) n=z1 at h ⊢;generalize jT (aL (val L ρ x))=z2 at h ⊢;generalize ev ρ a=z3 at h ⊢;split at h
  ·rename_i k off;generalize L.get k=z at h ⊢;split at h
   ·rename_i t cs;generalize jg t ((cs.drop off).take n) n=b at h ⊢;cases b
    ·exact h.elim
    ·exact fun r=>p _ _ _ (h r)
   ·exact h.elim
  ·exact⟨let⟨k,v,t,sz,m,xs,ad,c,h1,u,q,h4,y,h6⟩:=h.out;⟨k,v,t,sz,m,xs,ad,c,h1,u,q,h4,y,fun r=>p _ _ _ (h6 r)⟩⟩
  ·exact⟨let⟨k,v,t,sz,m,xs,ad,c,h1,u,q,h4,y,h6⟩:=h.out;⟨k,v,t,sz,m,xs,ad,c,h1,u,q,h4,y,fun r=>p _ _ _ (h6 r)⟩⟩
  ·exact h.elim
 case store n a x =>
  simp only[evalOp] at h ⊢;generalize gQ (aL (val L ρ x)) n=z1 at h ⊢;generalize jT (aL (val L ρ x))=z2 at h ⊢;generalize ev ρ a=z3 at h ⊢;split at h
  ·rename_i k off;generalize L.get k=z at h ⊢;split at h
   ·rename_i t cs;generalize jg t ((cs.drop off).take n) n=b at h ⊢;cases b
    ·exact h.elim
    ·exact p _ _ _ h
   ·exact h.elim
  ·exact⟨let⟨k,v,t,sz,m,xs,ad,c,h1,u,q,h4,y,h6⟩:=h.out;⟨k,v,t,sz,m,xs,ad,c,h1,u,q,h4,y,p _ _ _ h6⟩⟩
  ·exact⟨let⟨k,v,t,sz,m,xs,ad,c,h1,u,q,h4,y,h6⟩:=h.out;⟨k,v,t,sz,m,xs,ad,c,h1,u,q,h4,y,p _ _ _ h6⟩⟩
  ·exact h.elim
 case storeD n a x =>
  simp only[evalOp] at h ⊢;generalize gQ (aL (val L ρ x)) n=z1 at h ⊢;generalize jT (aL (val L ρ x))=z2 at h ⊢;generalize ev ρ a=z3 at h ⊢;split at h
  ·rename_i k off;generalize L.get k=z at h ⊢;split at h
   ·rename_i t cs;generalize jg t ((cs.drop off).take n) n=b at h ⊢;cases b
    ·exact h.elim
    ·exact p _ _ _ h
   ·exact h.elim
  ·exact h.elim
 case storeK key n a x =>
  obtain⟨n',a',x',k,off,g,t,cs,ho,e1,e2,e3,e4,e5,h⟩:=iB rfl h;exact gY ho e1 e2 e3 e4 e5 (p _ _ _ h)
 case makeSD e sz n zs =>
  simp only[evalOp] at h ⊢;cases d with
  | none=>exact h.elim
  | some k =>
   simp only[] at h ⊢;split at h
   ·exact fun g r=>p _ _ _ (h g r)
   ·exact h.elim
 case makeSV e sz b zs x =>
  simp only[evalOp] at h ⊢;cases d with
  | none=>exact h.elim
  | some k =>
   simp only[] at h ⊢;split at h
   ·exact fun g r=>p _ _ _ (h g r)
   ·exact h.elim
 case call f args =>
  simp only[evalOp] at h ⊢;exact dO.imp h fun _ _ _ h=>p _ _ _ h
 case callV f args =>
  simp only[evalOp] at h ⊢;generalize rL P (ev ρ f)=z at h ⊢;split at h
  ·exact dO.imp h fun _ _ _ h=>p _ _ _ h
  ·generalize zW P (ev ρ f) (bn L ρ args)=z at h ⊢;split at h
   ·exact dO.imp h fun _ _ _ h=>p _ _ _ h
   ·exact h.elim
 case callO f args =>
  simp only[evalOp] at h ⊢;exact dO.imp h fun _ _ _ h r=>p _ _ _ (h r)
 case callVO f args =>
  simp only[evalOp] at h ⊢;generalize rL P (ev ρ f)=z at h ⊢;split at h
  ·exact dO.imp h fun _ _ _ h r=>p _ _ _ (h r)
  ·exact h.elim
 case callD f args =>
  simp only[evalOp] at h ⊢;exact dI.imp' h fun _ _ _ h=>p _ _ _ h
 case callVD f args =>
  simp only[evalOp] at h ⊢;generalize rL P (ev ρ f)=z at h ⊢;split at h
  ·exact dI.imp' h fun _ _ _ h=>p _ _ _ h
  ·exact h.elim
 case app e sz b zs s x =>
  simp only[evalOp] at h ⊢;generalize ev ρ s=z1 at h ⊢;generalize ev ρ x=z2 at h ⊢;split at h
  ·exact⟨let⟨kd,n,xs,m,news,h1,u,q,h4,y,h6⟩:=h.out;⟨kd,n,xs,m,news,h1,u,q,h4,y,fun v hv=>p _ _ _ (h6 v hv)⟩⟩
  ·exact h.elim
 case appX e sz b zs s x =>
  simp only[evalOp] at h ⊢;generalize ev ρ s=z1 at h ⊢;generalize ev ρ x=z2 at h ⊢;split at h
  ·exact⟨let⟨kd,n,xs,m,news,h1,u,q,h4,y,h6⟩:=h.out;⟨kd,n,xs,m,news,h1,u,q,h4,y,fun v hv r=>p _ _ _ (h6 v hv r)⟩⟩
  ·exact h.elim
 case appD e sz b zs s x =>
  simp only[evalOp] at h ⊢;generalize ev ρ s=z1 at h ⊢;generalize ev ρ x=z2 at h ⊢;split at h
  ·exact⟨let⟨kd,n,xs,m,news,h1,u,q,h4,y,h6⟩:=h.out;⟨kd,n,xs,m,news,h1,u,q,h4,y,fun v hv r=>p _ _ _ (h6 v hv r)⟩⟩
  ·exact h.elim
 case pan x=>simp only[evalOp] at h
 case dead=>simp only[evalOp] at h
 case mkmap =>
  simp only[evalOp] at h ⊢;cases d with
  | none=>exact h.elim
  | some k =>
   simp only[] at h ⊢;generalize L.get k=z at h ⊢;cases z with
   | none=>exact fun g=>p _ _ _ (h g)
   | some _=>exact h.elim
 case mupd str x i v =>
  simp only[evalOp] at h ⊢;generalize ev ρ x=z1 at h ⊢;split at h
  ·obtain⟨k,cs,h1,u,q,cs',h4,y⟩:=h;exact⟨k,cs,h1,u,q,cs',h4,p _ _ _ y⟩
  ·exact h.elim
 case mrange x =>
  simp only[evalOp] at h ⊢;generalize ev ρ x=z1 at h ⊢;split at h
  ·rename_i g k;generalize L.get k=z at h ⊢;cases z with
   | none =>
    obtain⟨km,cs,h1,u,q⟩:=h;exact⟨km,cs,h1,u,fun gi=>p _ _ _ (q gi)⟩
   | some _=>exact h.elim
  ·exact h.elim
 case mnext x =>
  simp only[evalOp] at h ⊢;generalize ev ρ x=z1 at h ⊢;split at h
  ·split at h
   ·rename_i hL;obtain⟨km,cs,h1,u,q,h4,y⟩:=h.out;exact⟨km,cs,h1,u,q,fun j e a b=>p _ _ _ (h4 j e a b),fun a=>p _ _ _ (y a)⟩
   ·exact h.elim
  ·exact h.elim
 case mentry x =>
  simp only[evalOp] at h ⊢;generalize ev ρ x=z1 at h ⊢;split at h
  ·split at h
   ·obtain⟨km,cs,j,e,h1,u,q,h4,y,h6⟩:=h.out;exact⟨km,cs,j,e,h1,u,q,h4,y,p _ _ _ h6⟩
   ·exact h.elim
  ·exact h.elim
 all_goals
  simp only[evalOp] at h ⊢;exact Dk h fun v h=>p _ _ _ h
theorem EU {s s':dN}(h:drawn s=some s'):j6 s'=false:=by
 cases s<;>simp only[drawn,aaO,reduceCtorEq] at h<;>subst h<;>rfl
theorem Dm {bx:List Nat}{s s':dN}(h:om bx s=some s'):j6 s'=false:=by
 unfold om at h;split at h
 ·split at h
  ·split at h
   ·injection h with h;subst h;rfl
   ·cases h
  ·split at h
   ·split at h
    ·injection h with h;subst h;rfl
    ·cases h
   ·cases h
 ·injection h with h;subst h;rfl
 ·split at h<;>(injection h with h;subst h;rfl)
 ·split at h<;>(injection h with h;subst h;rfl)
 ·exact EU h
theorem Dn {fl bx:List Nat}{bk:List (Nat×Nat)}{s s':dN}(h:uz fl bk bx s=some s'):j6 s'=false:=by
 rcases wY h with h | ⟨a,n,i,rfl,rfl⟩ | ⟨a,n,i,key,rfl,rfl⟩ | ⟨a,n,i,rfl,rfl⟩
 ·exact Dm h
 ·rfl
 ·rfl
 ·rfl
theorem Dp {s s':dN}(h:wV s=some s'):j6 s'=false:=by
 cases s<;>simp only[wV,aaO,reduceCtorEq] at h<;>subst h<;>rfl
theorem vD {A:dc}{e:Array Oper}:∀{is:List Nat}{ss:List ai},eC P A e is=some ss->∀s∈ss,(∃d o g,s=.op d o g/\j6 o=false)\/∃d o,s=.pc d o none/\EA o=true:=by
 intro is
 induction is with
 | nil=>intro ss h s c;simp only[eC,aaO] at h;subst h;cases c
 | cons i is f =>
  intro ss h s c;simp only[eC] at h;split at h
  case h_2=>cases h
  rename_i l j h1 k;injection h with h
  subst h;rcases aaW.1 c with rfl | c
  ·unfold Bx at h1;split at h1
   case h_1=>cases h1
   split at h1
   case h_2=>cases h1
   split at h1
   ·split at h1
    case h_3=>cases h1
    ·injection h1 with h1
     exact .inr ⟨_,_,h1.symm,rfl⟩
    ·injection h1 with h1
     exact .inr ⟨_,_,h1.symm,rfl⟩
   ·split at h1
    ·split at h1
     case h_2=>cases h1
     rename_i s' b;injection h1 with h1
     exact .inl ⟨_,s',_,h1.symm,Dp b⟩
    ·split at h1
     case h_2=>cases h1
     rename_i s' b;split at h1
     case h_2=>cases h1
     injection h1 with h1
     exact .inl ⟨_,s',_,h1.symm,Dn b⟩
  ·exact f k s c
theorem Dq:∀{ss:List ai},FP ss=true->∀d o g,ai.pc d o g∉ss
 | [],_,d,o,g,h=>by cases h
 | .op _ _ _::l,b,d,o,g,h=>by
  rcases aaW.1 h with h | h
  ·cases h
  ·exact Dq (ss:=l) b d o g h
 | .frz _::l,b,d,o,g,h=>by cases b
 | .pc _ _ _::l,b,d,o,g,h=>by cases b
theorem HU {A:dc}{b:Array Oper}{is:List Nat}{ss:List ai}(e:eC P A b is=some ss) (f:FP ss=true):∀s∈ss,∃d o g,s=.op d o g/\j6 o=false:=by
 intro s c;rcases vD e s c with h | ⟨d,o,rfl,_⟩
 ·exact h
 ·exact vv c (Dq f _ _ _)
theorem x7 {K:TK}:∀(ss:List ai),(∀s∈ss,∃d o g,s=ai.op d o g/\j6 o=false)->∀{F:au}{L:Loc}{ρ:Env}{M:TL}{τ:aK},TS G F L ρ M τ->cW P PS true ss M τ K->aQ P ss F L ρ (Both G K)
 | [],_,F,L,ρ,M,τ,e,h=>⟨M,τ,e,h⟩
 | s::ss,u,F,L,ρ,M,τ,e,h=>by
  obtain⟨d,o,g,rfl,z⟩:=u s (by simp);have f:∀s∈ss,∃d o g,s=ai.op d o g/\j6 o=false:=fun s y=>u s (by simp[y]);have c:∀{ρ:Env}{τ:aK},TS G F L ρ M τ->bN P o d M τ (fun M' m=>cW P PS true ss M' m K)->evalOp P o d F L ρ (fun F' L' ρ'=>aQ P ss F' L' ρ' (Both G K)):=by
   intro ρ τ e h;have:=J7 z e h;exact x5 this fun F' L' ρ' ⟨M',m,h1,h2⟩=>x7 ss f h1 h2
  cases g with
  | none =>
   simp only[eI,stepT] at h;simp only[aQ];exact c e h
  | some p =>
   obtain⟨s,l⟩:=p;simp only[eI,stepT] at h;simp only[aQ];split at h
   ·rename_i b hb;have k:ρ s=.v (.bool b):=iW (x:=.t s) e.env hb;simp only[k];have j:∀n,b=n->TS G F L (Fr.put (some s) (.v (.bool n)) ρ) M (bq (some s) (.bool n) τ):=fun n _=>e.put fR (some s);have r:∀{ρ:Env}{τ:aK},TS G F L ρ M τ->TS G F L (Fr.put d (.v undef) ρ) M (bq d .und τ):=fun e=>e.put kQ d;cases b<;>simp only[zq] at h ⊢<;>cases l<;>simp only[] at h ⊢
    ·exact c (j _ rfl) h
    ·exact x7 ss f (r (j _ rfl)) h
    ·exact x7 ss f (r (j _ rfl)) h
    ·exact c (j _ rfl) h
   ·rename_i hb;have q:=e.env s;rw[hb] at q;simp only[aJ,Rel] at q;obtain⟨v,k,rfl⟩:=q;simp only[k,undef];exact x7 ss f (e.put kQ d) h
   ·exact h.elim
theorem uT:∀{ss:List ai},Ao ss M=true->∀s∈ss,∀k,xj s=some k->M.get k=none
 | [],_,s,b,_,_=>by cases b
 | x::l,h,s,b,k,e=>by
  unfold Ao at h;rcases aaW.1 b with rfl | b
  ·rw[e] at h;simp only[] at h;cases c:M.get k with
   | none=>rfl
   | some o=>rw[c] at h;cases h
  ·split at h
   ·exact uT h s b k e
   ·split at h
    ·exact uT h s b k e
    ·cases h
theorem oJ {K:TK}{z:List Nat}:∀(ss:List ai),(∀s∈ss,(∃d o g,s=ai.op d o g/\j6 o=false)\/∃d o,s=ai.pc d o none/\EA o=true)->∀{F:au}{L:Loc}{ρ:Env}{M:TL}{τ:aK},TS G F L ρ M τ->j4 P PS z ss M τ K->aY P (zu G PS) z ss F L ρ (Both G K)
 | [],_,F,L,ρ,M,τ,e,h=>⟨M,τ,e,h⟩
 | s::ss,hc,F,L,ρ,M,τ,e,h=>by
  have k:∀s∈ss,(∃d o g,s=ai.op d o g/\j6 o=false)\/∃d o,s=ai.pc d o none/\EA o=true:=fun s hs=>hc s (by simp[hs]);rcases hc s (by simp) with⟨d,o,g,rfl,ho⟩ | ⟨d,o,rfl,ho⟩
  case inr =>
   cases o<;>simp only[EA,aa5] at ho
   ·rename_i f l;simp only[jG,Ap,EM,fQ,eX,eS] at h;simp only[aY,rT];split at h
    case h_1 =>
     rename_i st j;refine(vB e (dM e.env l) (show PS=⟨PS.ps,PS.hb,some st⟩ by rw[<-j]) h).imp fun F' L' v _ _ _ _ _ h=>?_;obtain⟨M',m,c,h1,n,y⟩:=h;exact oJ ss k (h1.put n d) y
    rename_i j;refine(xU e (dM e.env l) h j).imp fun F' L' v _ _ _ _ _ h=>?_;obtain⟨M',m,c,h1,n,y⟩:=h;exact oJ ss k (h1.put n d) y
   ·rename_i fx l;simp only[jG,Ap,EM] at h;split at h
    case h_2=>exact h.elim
    rename_i f fi ca hx;simp only[fQ,eX,eS] at h;obtain⟨al,ao,e1,h1,n⟩:=uN e.env hx;simp only[aY,rT,e1];split at h
    case h_1 =>
     rename_i st j;refine(vB e (jt e.env h1 n l) (show PS=⟨PS.ps,PS.hb,some st⟩ by rw[<-j]) h).imp fun F' L' v _ _ _ _ _ h=>?_;obtain⟨M',m,c,h1,n,y⟩:=h;exact oJ ss k (h1.put n d) y
    rename_i j;refine(xU e (jt e.env h1 n l) h j).imp fun F' L' v _ _ _ _ _ h=>?_;obtain⟨M',m,c,h1,n,y⟩:=h;exact oJ ss k (h1.put n d) y
  have q:∀{ρ:Env}{τ:aK},TS G F L ρ M τ->bN P o d M τ (fun M' m=>j4 P PS z ss M' m K)->evalOp P o d F L ρ (fun F' L' ρ'=>aY P (zu G PS) z ss F' L' ρ' (Both G K)):=by
   intro ρ τ e h;have:=J7 ho e h;exact x5 this fun F' L' ρ' ⟨M',m,h1,n⟩=>oJ ss k h1 n
  cases g with
  | none =>
   simp only[jG,Ap,stepT] at h;exact⟨o,rfl,q e h⟩
  | some p =>
   obtain⟨s,aa⟩:=p;simp only[jG,Ap,stepT] at h;simp only[aY,res];have hu:∀{ρ:Env}{τ:aK},TS G F L ρ M τ->TS G F L (Fr.put d (.v undef) ρ) M (bq d .und τ):=fun e=>e.put kQ d;have skip:∀{ρ:Env}{τ:aK},TS G F L ρ M τ->j4 P PS z ss M (bq d .und τ) K->evalOp P gZ d F L ρ (fun F' L' ρ'=>aY P (zu G PS) z ss F' L' ρ' (Both G K)):=by
    intro ρ τ e h;simp only[gZ,evalOp,aH,ev];exact oJ ss k (hu e) h
   split at h
   ·rename_i b hb;have r:ρ s=.v (.bool b):=iW (x:=.t s) e.env hb;have u:TS G F L ρ M (bq (some s) (.bool b) τ):=by
     have:=e.put (fR (b:=b)) (some s)
     rwa [Fr.kG r] at this
    simp only[r];cases b<;>simp only[zq] at h ⊢<;>cases aa<;>simp only[reduceCtorEq,↓reduceIte,aaO,exists_eq_left'] at h ⊢
    ·exact q u h
    ·exact skip u h
    ·exact skip u h
    ·exact q u h
   ·rename_i hb;have hr:=e.env s;rw[hb] at hr;simp only[aJ,Rel] at hr;obtain⟨v,r,rfl⟩:=hr;simp only[r,undef,aaO,exists_eq_left'];exact skip e h
   ·exact h.elim
theorem Dr:∀(b:List Nat) (d:List C) (τ:aK) (j:Nat),pX b d τ j=τ j\/∃(i:Nat) (c:C),b[i]?=some j/\d[i]?=some c/\pX b d τ j=c
 | [],d,τ,j=>.inl rfl
 | k::b,[],τ,j=>.inl rfl
 | k::b,v::d,τ,j=>by
  simp only[pX,BM];split
  ·rename_i h;subst h;exact .inr ⟨0,v,by simp,by simp,rfl⟩
  ·rcases Dr b d τ j with h | ⟨i,c,h1,f,e⟩
   ·exact .inl h
   ·exact .inr ⟨i+1,c,by simpa using h1,by simpa using f,e⟩
theorem AE {M1:TL}:∀{b:List Nat}{d:List C}{τ:aK},mV M M1 b d τ->∀{i j:Nat}{c:C},b[i]?=some j->d[i]?=some c->MR M M1 (τ j) c
 | [],d,τ,h,i,j,c,e,_=>by simp at e
 | k::b,[],τ,h,i,j,c,_,e=>by simp at e
 | k::b,v::d,τ,h,i,j,c,l,f=>by
  simp only[mV] at h;cases i with
  | zero=>simp at l f;subst l f;exact h.1
  | succ i=>exact AE h.2 (by simpa using l) (by simpa using f)
theorem AF {M1:TL}(m:TS G F L ρ M τ):∀{f:List Nat}{d:List C},d.length=f.length->mV M M1 f d τ->gives M M1 M1->uq d
 | [],[],_,_,_=>by simp only[uq]
 | [],v::d,b,_,_=>by simp at b
 | k::f,[],b,_,_=>by simp at b
 | k::f,v::d,b,h,n=>by
  simp only[mV] at h;simp only[uq];refine⟨?_,AF m (by simpa using b) h.2 n⟩;have j:=mh (m.env k);rcases h.1 with e | ⟨e,_⟩ | ⟨l,c⟩ | ⟨l,p,t,sz,c,_⟩ | ⟨els,l,c⟩
  ·rw[e];simp only[Wf]
  ·rw[e] at j;have:=j.wf
   revert this
   cases v<;>simp[C.cel,Wf]
  ·rw[c];simp[Wf,xC]
  ·rw[c];simp only[Wf]
  ·rw[l] at j;have:=(uO j).wf;rw[c];exact this
theorem Ra {M:TL}(c:bM F L M):∀{l:TL},(∀k o,l.get k=some o->M.get k=some o)->∀k o,l.get k=some o->o.Wf:=by
 intro l h k o e;rcases dQ (c k) with⟨b,_⟩ | ⟨q,p,b,f,d⟩
 ·rw[h k o e] at b;cases b
 ·rw[h k o e] at b;injection b with b
  subst b;exact d.wf
theorem HV {L':Loc}{F':au}(f:F.le F') (p:∀k g t cs,L.get k=some (.box g t cs)->∃cs',L'.get k=some (.box g t cs')) :
  (∀c v,C.leaf c=true->Rel F L c v->Rel F' L' (pV c) v)/\(∀c sv,C.leaf c=true->aJ F L c sv->aJ F' L' (pV c) sv):=by
 have hb:∀{k:Nat},(∃g t cs,L.get k=some (.box g t cs))->∀o,L.get k=some o->∃o',L'.get k=some o'/\Own.like o o':=by
  intro k m o l;obtain⟨g,t,cs,m⟩:=m;rw[m] at l;injection l with l
  subst l;obtain⟨cs',h⟩:=p k g t cs m;exact⟨_,h,rfl,rfl⟩
 constructor
 ·intro c v n h;cases c<;>simp only[C.leaf,aa5] at n<;>simp only[pV]
  case rw=>simp only[Rel]
  case elr=>simp only[Rel]
  case own k off =>
   have d:=h;simp only[Rel] at d;obtain⟨g,t,cs,h1,_⟩:=d;refine bH f (fun j e=>?_) rfl h;rcases e with⟨off,e⟩ | e | e
   ·injection e with e e2;subst e;exact hb ⟨g,t,cs,h1⟩
   ·cases e
   ·cases e
  case mpr k =>
   have d:=h;simp only[Rel] at d;obtain⟨g,cs,h1,_⟩:=d;refine bH f (fun j e=>?_) rfl h;rcases e with⟨off,e⟩ | e | e
   ·cases e
   ·cases e
   ·injection e with e;subst e;exact hb ⟨g,0,cs,h1⟩
  all_goals
   exact bH f (fun q e=>by rcases e with⟨off,e⟩ | e | e<;>cases e) rfl h
 ·intro c sv n h;cases c<;>simp only[C.leaf,aa5] at n<;>simp only[pV]
  case rw=>trivial
  case elr=>trivial
  case own k off =>
   have d:=h;simp only[aJ] at d;refine dB f (fun j e=>?_) rfl h;rcases e with⟨off,e⟩ | ⟨off,e⟩ | e | ⟨a,b,e⟩ | e<;>first | cases e;done | skip
   injection e with e e2
   subst e;exact hb d.2
  case ownv k off =>
   have d:=h;simp only[aJ,Rel] at d;obtain⟨v,_,g,t,cs,h1,_⟩:=d;refine dB f (fun j e=>?_) rfl h;rcases e with⟨off,e⟩ | ⟨off,e⟩ | e | ⟨a,b,e⟩ | e<;>first | cases e;done | skip
   injection e with e e2
   subst e;exact hb ⟨g,t,cs,h1⟩
  case mpr k =>
   have d:=h;simp only[aJ,Rel] at d;obtain⟨v,_,g,cs,h1,_⟩:=d;refine dB f (fun j e=>?_) rfl h;rcases e with⟨off,e⟩ | ⟨off,e⟩ | e | ⟨a,b,e⟩ | e<;>first | cases e;done | skip
   injection e with e
   subst e;exact hb ⟨g,0,cs,h1⟩
  all_goals
   exact dB f (fun q e=>by rcases e with⟨off,e⟩ | ⟨off,e⟩ | e | ⟨a,b,e⟩ | e<;>cases e) rfl h
def J9 (L:Loc) (c:C) (v:Value):SV:=match c with | .own k off=>.own k off | .ownv _ _=>.v v | _=>.v v
theorem qX {c:C}{v:Value}(h:Rel F L c v):aJ F L c (J9 L c v)/\conc L (J9 L c v)=v/\(∀k off,J9 L c v=.own k off->∃g t cs,L.get k=some (.box g t cs))/\(∀f j,J9 L c v≠.el f j):=by
 cases c
 case own k off =>
  simp only[Rel] at h;obtain⟨g,t,cs,h,rfl⟩:=h;refine⟨⟨rfl,g,t,cs,h⟩,by simp only[J9,conc,h],fun l d e=>?_,fun f j e=>(by cases e)⟩;injection e with e1 e2
  subst e1;exact⟨g,t,cs,h⟩
 case pt es off =>
  simp only[Rel] at h;obtain⟨b,o,p,rfl,n,m⟩:=h;exact⟨⟨b,o,0,p,.inl ⟨rfl,rfl⟩,n,m⟩,rfl,fun l d e=>(by cases e),fun f j e=>(by cases e)⟩
 case ownv=>exact h.elim
 case elr=>exact h.elim
 case any=>exact⟨trivial,rfl,fun l d e=>(by cases e),fun f j e=>(by cases e)⟩
 all_goals
  exact⟨⟨v,rfl,h⟩,rfl,fun l d e=>(by cases e),fun f j e=>(by cases e)⟩
theorem Ka {F0:au}{L0:Loc}{b:Env}{f:aK}{a0 a1:Act}{asg:List Nat}{p:List Nat}{q:List C}{L1:Loc}{F1:au}(d:aA L0 b a0) (s:∀j,aJ F0 L0 (f j) (b j)) (z:F0.le F1)
  (hb:∀k g t cs,L0.get k=some (.box g t cs)->∃cs',L1.get k=some (.box g t cs')) (u:∀j,j∉asg->a1.tmps.getD j undef=a0.tmps.getD j undef)
  (hv:∀(i j:Nat) c,p[i]?=some j->q[i]?=some c->Rel F1 L1 c (a1.tmps.getD j undef)) :
  ∃n,aA L1 n a1/\∀j,aJ F1 L1 (pX p q (tq asg f) j) (n j):=by
 have key:∀j,∃sv,aJ F1 L1 (pX p q (tq asg f) j) sv/\conc L1 sv=a1.tmps.getD j undef/\(∀k off,sv=.own k off->∃g t cs,L1.get k=some (.box g t cs))/\(∀m i,sv=.el m i->m≠none):=by
  intro j;rcases Dr p q (tq asg f) j with h | ⟨i,c,h1,h2,h3⟩
  ·rw[h];simp only[tq];split
   ·exact⟨.v (a1.tmps.getD j undef),trivial,rfl,fun _ _ e=>(by cases e),fun _ _ e=>(by cases e)⟩
   ·rename_i y;have hj:j∉asg:=fun h=>by rw[cH.2 h] at y;cases y
    obtain⟨u1,u2⟩:=HV z hb;refine⟨b j,aJ.mp u1 u2 3 (s j),?_,?_,d.el j⟩
    ·rw[u j hj,d.eq j];cases e:b j with
     | v x=>rfl
     | el x i=>rfl
     | own k off =>
      obtain⟨g,t,cs,r⟩:=d.own j k off e;obtain⟨cs',l⟩:=hb _ _ _ _ r;simp only[conc,r,l]
    ·intro k off e;obtain⟨g,t,cs,r⟩:=d.own j k off e;obtain⟨cs',l⟩:=hb _ _ _ _ r;exact⟨g,t,cs',l⟩
  ·rw[h3];obtain⟨s1,s2,s3,s4⟩:=qX (hv i j c h1 h2);exact⟨_,s1,s2,s3,fun m i e=>vv e (s4 m i)⟩
 refine⟨fun j=>(key j).choose,⟨fun t=>?_,fun t k off e=>?_,fun t m j e=>?_⟩,fun j=>(key j).choose_spec.1⟩
 ·exact(key t).choose_spec.2.1.symm
 ·exact(key t).choose_spec.2.2.1 k off e
 ·exact(key t).choose_spec.2.2.2 m j e
theorem AG {n:Nat}{F:au}{L:Loc}{w:World}{a:Act}{asg:List Nat}{K K':di}{a':Act}{w':World}(h:dZ n F L w a asg K a' w') (c:∀{F' L' ρ'},K F' L' ρ'->K' F' L' ρ'):dZ n F L w a asg K' a' w':=by
 obtain⟨F',L',ρ',h1,f,b,k,d,e,j⟩:=h;exact⟨F',L',ρ',h1,f,b,k,d,e,c j⟩
theorem zE {P:Program}{PS:nG}{G:Nat->Option (Nat×TypeId)}{a:Act}{w:World}{b:List ai}{K:TK}:∀(ks:List Nat) {F:au}{L:Loc}{ρ:Env}{M:TL}{τ:aK},tI G PS ks->St F L w->aA L ρ a->TS G F L ρ M τ->cW P PS false (ks.map ai.frz++b) M τ K ->
  ∃F' L' ρ' M' c,St F' L' w/\aA L' ρ' a/\Step F L w F' L' w/\TS G F' L' ρ' M' c/\cW P PS false b M' c K:=by
 intro ks
 induction ks with
 | nil=>intro F L ρ M τ _ d he l h;exact⟨F,L,ρ,M,τ,d,he,Step.refl _ _ _,l,h⟩
 | cons k ks e =>
  intro F L ρ M τ n d he l h;simp only[aa0,aa4,eI] at h;obtain⟨F1,L1,q,M1,x,z,u,t,g4,h⟩:=Dl d he l (n k (by simp)) h;obtain⟨F2,L2,m,M2,f,k1,v,r,y,s⟩:=e (fun j p=>n j (by simp[p])) z u g4 h;exact⟨F2,L2,m,M2,f,k1,v,t.trans r,y,s⟩
theorem HW:∀{ks:List Nat}{ss:List ai},∀k∈ks,k∈fH (EF ks (.regD ss))
 | [],_,k,h=>by cases h
 | j::l,ss,k,h=>by
  have:∀(l:List Nat),∀k∈l,k∈cZ (l.map ai.frz):=by
   intro l
   induction l with
   | nil=>intro k h;cases h
   | cons j l b =>
    intro k h;simp only[aa0,cZ,aaW] at h ⊢;exact h.imp id (b k)
  exact aaX.2 (.inl (this (j::l) k h))
theorem Dt {P:Program}{PS:nG}{G:Nat->Option (Nat×TypeId)}{ρ:Env}{a:Act}{w:World}{ss:List ai}{E:Nat->TK}{R N:TK}{F:au}{L:Loc}{M:TL}{τ:aK}:∀(ks:List Nat),tI G PS (fH (EF ks (.regD ss)))->St F L w->aA L ρ a->TS G F L ρ M τ->evalTC P PS (EF ks (.regD ss)) E R N M τ ->
  ∃F' L' ρ' M' b,St F' L' w/\aA L' ρ' a/\Step F L w F' L' w/\TS G F' L' ρ' M' b/\cW P PS true ss M' b N
 | [],_,c,he,f,h=>⟨F,L,ρ,M,τ,c,he,Step.refl _ _ _,f,h⟩
 | k::l,p,c,he,f,h=>by
  have s:cW P PS false ((k::l).map ai.frz++[]) M τ (fun M τ=>cW P PS true ss M τ N):=by rw[abo];exact h
  obtain⟨F1,L1,d,M1,e,h1,r,n,t,q⟩:=zE (k::l) (fun j m=>p j (HW j m)) c he f s;exact⟨F1,L1,d,M1,e,h1,r,n,t,q⟩
theorem uU {M:TL}:∀{ks:List Nat},rV M ks=true->∀k∈ks,∀o,M.get k=some o->BO o=true
 | [],_,k,h,_,_=>by cases h
 | j::ks,b,k,h,o,e=>by
  simp only[rV] at b;split at b
  ·cases b
  ·cases b
  ·rename_i d c;rcases aaW.1 h with rfl | h
   ·cases o with
    | box t cs=>exact vv e (d _ _)
    | map es=>exact vv e (c _)
    | row=>rfl
   ·exact uU b k h o e
theorem HX {M:TL}{ks:List Nat}(b:rV M ks=true) (k:Nat) (h:k∈ks) (t:TypeId) (cs:List C):M.get k≠some (.box t cs):=fun e=>by cases uU b k h _ e
theorem EV {M:TL}{ks:List Nat}(b:rV M ks=true) (k:Nat) (h:k∈ks) (es:List (C×C)):M.get k≠some (.map es):=fun e=>by cases uU b k h _ e
theorem fp {A:dc}:∀(c:Code) {sc:ay},low P A c=some sc->∀{G:Nat->Option (Nat×TypeId)}{E:Nat->TK}{R N:TK}{F:au}{L:Loc}{ρ:Env}{M:TL}{τ:aK}{a:Act}{w:World},tI G PS (fH sc)->St F L w->aA L ρ a->TS G F L ρ M τ->a.tmps.size=A.n ->
  evalTC P PS sc E R N M τ->c.wp P (QQ A.n F L w a (dJ c) (zu G PS) (fun j=>Both G (E j)) (Both G R) (Both G N)) a w:=by
 intro c
 induction c with
 | skip =>
  intro sc b G E R N F L ρ M τ a w m hs he z hn d;simp only[low,aaO] at b;subst b;exact wp_skip ⟨F,L,ρ,hs,he,hn,rfl,Step.refl _ _ _,fun _ _=>rfl,M,τ,z,d⟩
 | label l =>
  intro sc b G E R N F L ρ M τ a w m hs he z hn d;simp only[low,aaO] at b;subst b;exact wp_label ⟨F,L,ρ,hs,he,hn,rfl,Step.refl _ _ _,fun _ _=>rfl,M,τ,z,d⟩
 | exit id =>
  intro sc b G E R N F L ρ M τ a w m hs he z hn d;simp only[low,aaO] at b;subst b;exact wp_exit ⟨F,L,ρ,hs,he,hn,rfl,Step.refl _ _ _,fun _ _=>rfl,M,τ,z,d⟩
 | ret =>
  intro sc b G E R N F L ρ M τ a w m hs he z hn d;simp only[low,aaO] at b;subst b;exact wp_ret ⟨F,L,ρ,hs,he,hn,rfl,Step.refl _ _ _,fun _ _=>rfl,M,τ,z,d⟩
 | region r eA cM =>
  intro sc b G E R N F L ρ M τ a w m hs he z hn d;cases cM with
  | false =>
   simp only[low] at b;split at b
   case h_2=>cases b
   rename_i ss dC;injection b with b;subst b
   simp only[kI,lY,kJ,lZ,kK,jH,kL,kM,l9] at d;exact wp_region (xZ _ dC m hs he z hn d (fun a' w' h=>h) fun v ch a' w' hc h=>⟨v,hc,h⟩)
  | true =>
   simp only[low] at b;split at b
   case h_2=>cases b
   rename_i is cl ss h1 h2;have h4:CV A.ord r=is:=by simp only[CV,h1]
   rw[h4] at h2;split at b
   case h_2 =>
    split at b
    case h_2=>cases b
    rename_i h3;injection b with b;subst b
    rw[Db] at d;split at d
    case h_2=>exact d.elim
    rename_i da;exact C8 h2 h3 hs he hn (fun s hs k e=>bX z.tl (uT da s hs k e)) (oJ ss (vD h2) z d) (fun a' w' h=>h) fun v ch a' w' F' L' gc g1 g2 g3 g4 g5 g6=>⟨v,gc,F',L',g1,g2,g3,g4,g5,g6⟩
   rename_i h0;split at b
   case h_2=>cases b
   rename_i h3;injection b with b;subst b
   obtain⟨F1,L1,ab,M1,am,av,az,ae,ac,d⟩:=Dt _ m hs he z d;exact xg h2 h3 av az hn (x7 ss (HU h2 h0) ac d) fun a' w' h=>dZ.after (asg1:=[]) ae rfl (fun _ _=>rfl) h (fun _ h=>vv h List.not_mem_nil) (fun _ h=>h)
 | seq x y bj ba =>
  intro sc b G E R N F L ρ M τ a w m hs he z hn d;simp only[low] at b;split at b
  case h_2=>cases b
  rename_i h1 h2;injection b with b;subst b
  simp only[kI,lY,kJ,lZ,kK,jH,kL,kM,l9] at d;refine wp_seq (wp_mono (bj h1 m.left hs he z hn d) ?_);intro e a1 w1 u;cases e with
  | normal =>
   obtain⟨F1,L1,ab,g1,g2,g3,g4,g5,g6,M1,am,g7,g8⟩:=u;refine wp_mono (ba h2 m.right g1 g2 g7 g3 g8) ?_;intro e2 a2 w2 bu;cases e2<;>first
    | exact dZ.after g5 g4 g6 bu (fun j h=>aaX.2 (.inl h)) (fun j h=>aaX.2 (.inr h))
    | exact(let⟨v,e,h⟩:=bu;⟨v,e,rE.after g5 g4 g6 h (fun j h=>aaX.2 (.inl h)) (fun j h=>aaX.2 (.inr h)) fun _ _ h=>h⟩)
    | exact bu
  | exit id=>exact u.mono fun j h=>aaX.2 (.inl h)
  | ret=>exact u.mono fun j h=>aaX.2 (.inl h)
  | goto l=>exact u
  | panic c=>exact(let⟨v,e,h⟩:=u;⟨v,e,h.mono fun j h=>aaX.2 (.inl h)⟩)
  | outgrown=>exact u
 | cond c x y bj ba =>
  intro sc b G E R N F L ρ M τ a w m hs he z hn d;simp only[low] at b;split at b
  case h_2=>cases b
  rename_i h0 h1 h2;injection b with b;subst b
  simp only[kI,lY,kJ,lZ,kK,jH,kL,kM,l9] at d;split at d
  case h_2=>exact d.elim
  rename_i t dv;have hc:a.eval c=.bool t:=by rw[aD h0 he,cG (iW z.env dv)]
  refine wp_cond hc ?_;cases t
  ·simp only[zq] at d;refine wp_mono (ba h2 m.right hs he z hn d) ?_;intro e a1 w1 u;cases e<;>first
    | exact u.mono fun j h=>aaX.2 (.inr h)
    | exact(let⟨v,e,h⟩:=u;⟨v,e,h.mono fun j h=>aaX.2 (.inr h)⟩)
    | exact u
  ·simp only[zq] at d;refine wp_mono (bj h1 m.left hs he z hn d) ?_;intro e a1 w1 u;cases e<;>first
    | exact u.mono fun j h=>aaX.2 (.inl h)
    | exact(let⟨v,e,h⟩:=u;⟨v,e,h.mono fun j h=>aaX.2 (.inl h)⟩)
    | exact u
 | block id x ih =>
  intro sc b G E R N F L ρ M τ a w m hs he z hn d;simp only[low] at b;split at b
  case h_2=>cases b
  rename_i h1;injection b with b;subst b
  simp only[kI,lY,kJ,lZ,kK,jH,kL,kM,l9] at d;refine wp_block (wp_mono (ih h1 m hs he z hn d) ?_);intro e a1 w1 u;cases e with
  | exit j =>
   simp only[Exit.inBlock];simp only[QQ] at u
   by_cases hj:j=id
   ·subst hj;have hb:Nat.beq j j=true:=by simp
    rw[hb] at u;rw[o5 rfl];exact u
   ·have hb:Nat.beq j id=false:=by
     cases h:Nat.beq j id with
     | true=>exact vv (aaR h) hj
     | false=>rfl
    rw[hb] at u;rw[q9 hj];exact u
  | normal=>exact u
  | ret=>exact u
  | goto l=>exact u
  | panic c=>exact u
  | outgrown=>exact u
 | loop x ih =>
  intro sc b G E R N F L ρ M τ a w m hs he z hn d;simp only[low] at b;split at b
  case h_2=>cases b
  rename_i sx h1;injection b with b;subst b
  simp only[kI,lY,kJ,lZ,kK,jH,kL,kM,l9] at d;split at d
  case h_2=>exact d.elim
  rename_i ci;obtain⟨σ,x0,Inv,ls,lv,Lf,μ,i0,i1,i2,i3,i4,i5⟩:=d
  -- the boxes that there are,with their addresses
  let G1:Nat->Option (Nat×TypeId):=fun k=>match L.get k with | some (.box g t _)=>some (g,t) | _=>none
  have cy:∀k g t cs,L.get k=some (.box g t cs)->G1 k=some (g,t):=fun k g t cs e=>by simp only[G1,e]
  have bp:Kp G1 L:=by
   intro k g t e;simp only[G1] at e;split at e
   ·rename_i g' t' cs h;injection e with e
    injection e with e1 e2
    subst e1 e2;exact⟨cs,h⟩
   ·cases e
  have cY:tI G1 PS (fH sx):=by
   intro k hk bv;exfalso;simp only[G1] at bv;split at bv
   ·rename_i g t cs e;have hr:=z.tl k;rw[e] at hr;cases e2:M.get k with
    | none=>rw[e2] at hr;exact hr
    | some o =>
     rw[e2] at hr;cases o with
     | row=>exact hr
     | box t' cs'=>exact HX ci k hk t' cs' e2
     | map es=>exact EV ci k hk es e2
   ·exact bv rfl
  have hG:∀{L':Loc},Kp G1 L'->Kp G L':=fun hk k g t e=>let⟨cs,h⟩:=z.kp k g t e;hk k g t (cy k g t cs h);have co:∀{L':Loc},Kp G1 L'->∀k g t cs,L.get k=some (.box g t cs)->∃cs',L'.get k=some (.box g t cs'):=fun hk k g t cs h=>hk k g t (cy k g t cs h);have bm:∀{K:TK}{F' L' ρ'},Both G1 K F' L' ρ'->Both G K F' L' ρ':=fun⟨M',ea,h1,h2⟩=>⟨M',ea,⟨h1.tl,h1.env,hG h1.kp,h1.glob⟩,h2⟩;have dT:∀{F':au}{L':Loc}{M':TL},bM F' L' M'->(∀k o,M'.get k=some o->o.Wf):=fun h k o e=>Ra h (fun _ _ e=>e) k o e
  -- a round's end,or what is ahead of the first round,is a head
  have aw:∀(y:σ) (F1:au) (L1:Loc) (ab:Env) (M1:TL) (am:aK) (a1:Act) (w1:World),F.le F1->St F1 L1 w1->aA L1 ab a1->TS G1 F1 L1 ab M1 am->(∀j,j∉dJ x->a1.tmps.getD j undef=a.tmps.getD j undef) ->
    mV M1 (Lf y) ls (lv y) am->gives M1 (Lf y) (Lf y)->∃L2,St F1 L2 w1/\Step F1 L1 w1 F1 L2 w1/\bM F1 L2 (Lf y)/\Kp G1 L2/\uq (lv y) /\
     ∃bi,aA L2 bi a1/\∀j,aJ F1 L2 (pX ls (lv y) (tq (dJ x) τ) j) (bi j):=by
   intro y F1 L1 ab M1 am a1 w1 bd av az ac dn hh hg;obtain⟨g1,g2⟩:=xX av ac.tl hg;have bc:Kp G1 (tF L1 (Lf y)):=by
    intro k g t e;obtain⟨cs,db⟩:=ac.kp k g t e;obtain⟨ej,cx⟩:=bp k g t e;refine⟨cs,?_⟩;rcases dQ (z.tl k) with⟨c1,c2⟩ | ⟨q,p,c1,c2,hr⟩
    ·rw[cx] at c2;cases c2
    ·rw[cx] at c2;injection c2 with c2
     subst c2;cases q with
     | row=>exact hr.elim
     | box t' cs' =>
      obtain⟨o2,e2⟩:=mr (i3 y) c1 rfl;rw[lz,e2];simp only[db]
     | map es =>
      obtain⟨o2,e2⟩:=mr (i3 y) c1 rfl;rw[lz,e2];simp only[db]
   refine⟨tF L1 (Lf y),g1,g2,xW ac.tl hg,bc,AF ac (i4 y) hh hg,Ka he z.env bd (co bc) dn ?_⟩;intro i j c e1 e2;have hr:=mh (ac.env j);have hv:a1.tmps.getD j undef=conc L1 (ab j):=az.eq j;rw[hv];have cz:=AE hh e1 e2;rcases cz with e | ⟨e,hk⟩ | ⟨e,e'⟩ | ⟨e,k',t',df,e',q1,q2⟩ | ⟨els,e,e'⟩
   ·rw[e];simp only[Rel]
   ·have hc:(am j).cel=am j:=by
     rw[e];rw[e] at hr;cases c<;>first | rfl | (simp only[fk,qO,aa5] at hk;done)
    rw[hc] at hr;exact qW ac.tl (.inr (.inl ⟨e,hk⟩)) hr
   ·rw[e] at hr;exact qW ac.tl (.inr (.inr (.inl ⟨rfl,e'⟩))) hr
   ·rw[e] at hr;exact qW ac.tl (.inr (.inr (.inr (.inl ⟨rfl,k',t',df,e',q1,q2⟩)))) hr
   ·rw[e] at hr;exact qW ac.tl (.inr (.inr (.inr (.inr ⟨els,rfl,e'⟩)))) hr
  refine uy (fun n a1 w1=>∃(y:σ) (F1:au) (L1:Loc),n=μ y/\F.le F1/\Inv y/\St F1 L1 w1/\a1.tmps.size=A.n/\a1.defers=a.defers/\Step F L w F1 L1 w1/\(∀j,j∉dJ x->a1.tmps.getD j undef=a.tmps.getD j undef) /\
   bM F1 L1 (Lf y)/\Kp G1 L1/\uq (lv y)/\∃ab,aA L1 ab a1/\∀j,aJ F1 L1 (pX ls (lv y) (tq (dJ x) τ) j) (ab j)) ?_ ?_
  ·obtain⟨L2,k1,k2,k3,k4,k5,k6⟩:=aw x0 F L ρ M τ a w (au.le_refl F) hs he ⟨z.tl,z.env,bp,z.glob⟩ (fun _ _=>rfl) i1 i2;exact⟨_,x0,F,L2,rfl,au.le_refl F,i0,k1,hn,rfl,k2,fun _ _=>rfl,k3,k4,k5,k6⟩
  ·rintro n a1 w1 ⟨y,F1,L1,rfl,bd,cm,av,eb,bb,ae,an,bk,bc,dr,ab,az,bz⟩;refine wp_mono (ih h1 cY av az (⟨bk,bz,bc,av.glob⟩:TS G1 F1 L1 ab (Lf y) (pX ls (lv y) (tq (dJ x) τ))) eb (i5 y cm dr (dT bk))) ?_;intro e a2 w2 u;cases e with
   | normal =>
    obtain⟨F2,L2,bi,g1,g2,g3,g4,g5,g6,M2,dg,g7,y',k1,k2,k3,k4⟩:=u;have bl:∀j,j∉dJ x->a2.tmps.getD j undef=a.tmps.getD j undef:=fun j hj=>by rw[g6 j hj,an j hj]
    obtain⟨L3,q1,q2,q3,q4,q5,q6⟩:=aw y' F2 L2 bi M2 dg a2 w2 (au.le_trans bd g5.le) g1 g2 g7 bl k2 k3;exact⟨μ y',k4,y',F2,L3,rfl,au.le_trans bd g5.le,k1,q1,g3,g4.trans bb,(ae.trans g5).trans q2,bl,q3,q4,q5,q6⟩
   | exit j=>exact dZ.after ae bb an (AG u bm) (fun j h=>h) (fun j h=>h)
   | ret=>exact dZ.after ae bb an (AG u bm) (fun j h=>h) (fun j h=>h)
   | goto l=>exact u
   | panic c=>exact(let⟨v,e,h⟩:=u;⟨v,e,rE.after ae bb an h (fun j h=>h) (fun j h=>h) fun F' L' h=>⟨hG h.1,h.2⟩⟩)
   | outgrown=>exact u
 | rangeFunc f ps x y bj ba=>intro sc b;simp only[low] at b;cases b
 | scope x ih =>
  intro sc b G E R N F L ρ M τ a w m hs he z hn d;simp only[low] at b;refine wp_scope_straight (wp_mono (ih b m hs he z hn d) ?_);intro e a1 w1 u;cases e<;>exact u
 | goto l=>intro sc b;simp only[low] at b;cases b
 | refuse eu=>intro sc b;simp only[low] at b;cases b
end
section
variable {P:Program}{G:Nat->Option (Nat×TypeId)}{F:au}{L:Loc}{ρ:Env}{M:TL}{τ:aK}{a:Act}{w:World}
theorem qY (f:TS G F L ρ M τ):∀{rs:List RV}{K:List C->Prop},gF M τ rs K->mZ L ρ rs (fun c=>∃cs,ax F L cs c/\K cs)
 | [],K,h=>⟨[],by simp only[ax],h⟩
 | (t,none)::l,K,h=>by
  simp only[gF] at h;simp only[mZ];refine retV_imp (qY f h) ?_;rintro c ⟨cs,h1,m⟩;exact⟨_,by simp only[ax];exact⟨_,_,rfl,mh (f.env t),h1⟩,m⟩
 | (t,some (agg,n))::l,K,h=>by
  simp only[gF] at h;simp only[mZ];split at h
  case h_2=>exact h.elim
  rename_i k off d;split at h
  case h_2=>exact h.elim
  rename_i ty cs s;split at h
  case h_2=>exact h.elim
  rename_i r;obtain⟨o,_⟩:=je (x:=.t t) f.env d;have o:ρ t=.own k off:=o;obtain⟨g,ty,c,q,p,j⟩:=kV f.tl s;have e:=(p.drop off).take n;simp only[o,q,oe j.2.2 (ji (show((c.drop off).take n).length=n by rw[e.len];exact bU r))];refine retV_imp (qY f h) ?_;rintro us ⟨ds,h1,m⟩;refine⟨_,?_,m⟩;simp only[ax];have:=mh (eD (agg:=agg) e);exact⟨_,_,rfl,this,h1⟩
where
 retV_imp {L:Loc}{ρ:Env}:∀{rs:List RV}{K K':List Value->Prop},mZ L ρ rs K->(∀c,K c->K' c)->mZ L ρ rs K'
 | [],K,K',h,d=>d _ h
 | (t,none)::l,K,K',h,d=>by
  simp only[mZ] at h ⊢;exact retV_imp h fun c=>d _
 | (t,some (agg,n))::l,K,K',h,d=>by
  simp only[mZ] at h ⊢;generalize ρ t=z at h ⊢;split at h
  case h_2=>exact h.elim
  rename_i k off;generalize L.get k=y at h ⊢;split at h
  case h_2=>exact h.elim
  rename_i ty cs;generalize jg ty ((cs.drop off).take n) n=b at h ⊢;cases b
  ·exact h.elim
  ·exact retV_imp h fun c=>d _
theorem F5 {cs:List C}{b:List Value}(h:ax F L cs b):Rel F L (gD cs) (fM b):=by
 match cs,b,h with
 | [],b,h =>
  simp only[ax] at h;subst h;simp only[gD,fM,Rel];exact⟨[],rfl,by simp only[ax]⟩
 | [c],b,h =>
  simp only[ax] at h;obtain⟨v,d,rfl,h1,rfl⟩:=h;exact h1
 | c1::k::cs,b,h =>
  have e:=h;simp only[ax] at e;obtain⟨v,d,rfl,h1,v2,f,rfl,j⟩:=e;simp only[gD,fM,Rel];exact⟨_,rfl,h⟩
theorem nM:∀(l:List C) (k j:Nat),jN k l j=if k<=j then(l[j-k]?).getD .und else .und
 | [],k,j=>by simp[jN]
 | v::l,k,j=>by
  simp only[jN,BM]
  by_cases h:j=k
  ·subst h;simp
  ·rw[q9 h,nM l (k+1) j]
   by_cases h1:k<=j
   ·rw[o5 (by omega),o5 h1,show j-k=(j-(k+1))+1 by omega,abg]
   ·rw[q9 (by omega),q9 h1]
theorem Du {c:C}{v:Value}(h:Rel F L c v):Rel F L c.aat v:=by
 cases c<;>first
  | exact h
  | exact tC (c:=.nils) h
  | exact uO h
  | (simp only[Rel] at h
     obtain⟨d,h1,b⟩:=h;simp only[C.aat,Rel]
     first
      | exact⟨d,h1,kP b⟩
      | exact⟨d,h1,b.map fun c _ v=>iX⟩)
theorem r9 {F':au}{L':Loc}{w':World}{Li:List Own}(f:St F' L' w') (c:Step F (inp Li) w F' L' w') (hb:∀(i:Nat) g t cs,Li[i]?=some (.box g t cs)->∃cs',L'.get (1000+i)=some (.box g t cs')) :
  ∃Lo,St F' (inp Lo) w'/\Step F (inp Li) w F' (inp Lo) w'/\Lo.length=Li.length/\∀(i:Nat) g t cs,Li[i]?=some (.box g t cs)->∃cs',Lo[i]?=some (.box g t cs'):=by
 let Lo:List Own:=Li.mapIdx fun i o=>match o with
  | .box _ _ _=>match L'.get (1000+i) with | some p=>p | none=>.row (.slice none 0 0) 0 0 0 []
  | .row _ t sz _ _=>.row (.slice none 0 0) t sz 0 []
 have get:∀k p,(inp Lo).get k=some p->L'.get k=some p\/∃t sz,p=.row (.slice none 0 0) t sz 0 []:=by
  intro k p e;rw[aF] at e;split at e
  case isFalse=>cases e
  rename_i z;simp only[Lo,List.getElem?_mapIdx] at e;cases h:Li[k-1000]? with
  | none=>rw[h] at e;cases e
  | some o =>
   rw[h] at e;simp only[abq,aaO] at e;cases o with
   | box g t cs =>
    simp only at e;rw[show 1000+(k-1000)=k by omega] at e;cases m:L'.get k with
    | none=>rw[m] at e;exact .inr ⟨0,0,e.symm⟩
    | some q=>rw[m] at e;exact .inl (by rw[<-e])
   | row v t sz n xs=>exact .inr ⟨t,sz,e.symm⟩
 refine⟨Lo,⟨f.frz,fun k o e=>?_,fun k o g e d=>?_,fun k l o o' g e r d j=>?_,f.glob⟩,⟨c.le,c.os,c.tape,c.output,c.size,c.same,c.frz,fun b u=>c.own b ?_⟩,by simp[Lo],fun i g t cs hi=>?_⟩
 ·rcases get k o e with h | ⟨t,sz,rfl⟩
  ·exact f.own k o h
  ·exact World.ownsRow_nil w' 0 t sz
 ·rcases get k o e with h | ⟨t,sz,rfl⟩
  ·exact f.off k o g h d
  ·cases d
 ·rcases get k o e with h | ⟨t,sz,rfl⟩<;>rcases get l o' r with x | ⟨y,s,rfl⟩
  ·exact f.sep k l o o' g h x d j
  ·cases j
  ·cases d
  ·cases d
 ·obtain⟨k,o,e,d⟩:=u;rcases get k o e with h | ⟨t,sz,rfl⟩
  ·exact⟨k,o,h,d⟩
  ·cases d
 ·obtain⟨cs',h⟩:=hb i g t cs hi;exact⟨cs',by simp only[Lo,List.getElem?_mapIdx,hi,abq,h]⟩
theorem AH {n:Nat}{asg:List Nat}{fn:Func}{rs:List RV}{Lin:List TO}{Li:List Own}{R:List TO->C->Prop}{a0 a':Act}{w':World}(y:mL P fn.results.toList=some rs) (hl:Li.length=Lin.length) (az:bM F (inp Li) (cC Lin))
  (be:∀k g t cs,(inp Li).get k=some (.box g t cs)->G k=some (g,t)) (hq:dZ n F (inp Li) w a0 asg (Both G (fun L ρ=>gF L ρ rs fun vs=>fZ Lin L (gD vs) R)) a' w') :
  a'.defers=a0.defers/\∃v,(results fn a'.tmps).run P w'=.ok v w'/\∃F' Lo,St F' (inp Lo) w'/\Step F (inp Li) w F' (inp Lo) w'/\gC Li R F' Lo v:=by
 obtain⟨F',L',ρ',g1,g2,g3,g4,g5,g6,M',cM,g7,z⟩:=hq;obtain⟨us,hm,cs,bd,⟨fz,ko,hK⟩⟩:=nD g1 g2 y (qY g7 z);have ao:TS G F' L' ρ' M' (fun _=>.any):=⟨g7.tl,fun _=>trivial,g7.kp,g7.glob⟩;obtain⟨F2,L2,M2,bv,av,k1,k2,k3,x,k5,M3,c2,c3,Mo,q1,ag,q4,q5,q6,q7⟩:=oI g1 g2 ao (by simp only[ax];exact⟨_,[],rfl,F5 bd,rfl⟩) hK;subst q1;simp only[ax] at k5;obtain⟨v,cr,ev,hv,rfl⟩:=k5;injection ev with ev _
 subst ev;have aw:∃L3,St F2 L3 w'/\Step F2 L2 w' F2 L3 w'/\bM F2 L3 M3/\Rel F2 L3 c3 (fM us)/\∀k g t cs,L2.get k=some (.box g t cs)->M3.get k≠none->L3.get k=some (.box g t cs):=by
  rcases ag with⟨rfl,rfl⟩ | ⟨q2,q3⟩
  ·exact⟨L2,k1,Step.refl _ _ _,x.tl,hv,fun k g t cs h _=>h⟩
  ·obtain⟨b1,b2⟩:=xX k1 x.tl q2;refine⟨_,b1,b2,xW x.tl q2,qW x.tl q3 hv,fun k g t cs h l=>?_⟩;rw[lz];cases e:M3.get k with
   | none=>exact vv e l
   | some o=>simp only[h]
 obtain⟨L3,b1,b2,f,q,ba⟩:=aw;obtain⟨Lo,d1,d2,d3⟩:=j5 f q4;have bb:=cJ q5;have al:∀k g t,G k=some (g,t)->∃cs,(M3.get k≠none->L3.get k=some (.box g t cs)):=by
  intro k g t e;obtain⟨cs,h⟩:=x.kp k g t e;exact⟨cs,fun l=>ba _ _ _ _ h l⟩
 refine⟨g4,fM us,?_,F2,Lo,b1.handed d1 bb,?_,Mo.map (TO.aad (C.ren (bA ko 1000))),c3.aat.ren (bA ko 1000),by simp[d2],kW f d2 d1 d3,(Du q).ren (lq d1),?_,q7 (by simp only[uq];exact⟨q.wf,trivial⟩)⟩
 ·rw[oD];rw[Array.mapM_eq_mapM_toList];simp only[Sem.run_bind,Sem.run_map];rw[hm];simp only[Result.andThen_ok,Sem.run_pure];congr 1
  match us with
  | []=>rfl
  | [t]=>rfl
  | t::u::r =>
   simp only[fM];rw[dif_neg (by simp)]
 ·have c:=(g5.trans k3).trans b2;obtain⟨x1,x2⟩:=ct d1;refine⟨c.le,c.os,c.tape,c.output,c.size,c.same,c.frz,fun b hb=>c.own b ?_⟩;obtain⟨j,p,e,hb⟩:=hb;rw[aF] at e;split at e
  case isFalse=>cases e
  have d:j-1000<Lo.length:=(aaU.1 e).1;have hk:ko[j-1000]?=some (ko[j-1000]'(by omega)):=aaQ (by omega);exact⟨_,p,by rw[x2 _ _ hk];exact e,hb⟩
 ·intro i g t cs hi;have d:i<Lin.length:=by rw[<-hl];exact(aaU.1 hi).1
  have m:(inp Li).get (1000+i)=some (.box g t cs):=by rw[aF,o5 (by omega),show 1000+i-1000=i by omega];exact hi
  have hr:=az (1000+i);rw[ck,o5 (by omega),show 1000+i-1000=i by omega,m,aaQ d] at hr;have an:BO Lin[i]=false:=by
   cases bj:Lin[i] with
   | row=>rw[bj] at hr;exact hr.elim
   | box t' cs'=>rfl
   | map es=>rfl
  ·obtain⟨k',y1,y2⟩:=gb q6 i _ (aaQ d) an;rw[List.getElem?_range' d] at y1;injection y1 with y1
   obtain⟨x1,x2⟩:=ct d1;obtain⟨z1,z2⟩:=xM q4;have s:i<Mo.length:=by rw[z1];exact(aaU.1 y2).1
   have aE:M3.get k'≠none:=by rw[z2 i k' y2,aaQ s];simp
   have bc:k'=1000+i:=by omega
   subst bc;obtain⟨am,h2⟩:=al _ g t (be _ _ _ _ m);exact⟨am,by rw[<-x2 i _ y2];exact h2 aE⟩
theorem aV {Pp:Value->Prop}{f:FuncId}{fn:Func}{sc:ay}{A:dc}{rs:List RV}{args:List C}{Lin:List TO}{R:List TO->C->Prop}(hf:P.funcs[f]?=some fn) (b:aB P A fn=some (sc,A.n,rs,false)) (r:Nat.ble args.length A.n=true)
  (h:uq args->(∀o∈Lin,o.Wf)->evalTC P ⟨Pp,[],none⟩ sc (fun _ _ _=>False) (fun L ρ=>gF L ρ rs fun d=>fZ Lin L (gD d) R) (fun L ρ=>gF L ρ rs fun d=>fZ Lin L (gD d) R) (cC Lin) (jN 0 args)):CallsTX P f args Lin R Pp:=by
 unfold aB at b;split at b
 case h_2=>cases b
 rename_i c hb;split at b
 case h_2=>cases b
 rename_i bp al z ac;injection b with b
 injection b with e1 e2
 injection e2 with e2 e3
 injection e3 with e3 hname
 subst e1 e3;refine⟨fun F Li d hl u ha=>⟨⟨fn,hf,by rw[hb];rfl,hname⟩,gC.aao,fun w hs=>?_⟩⟩;refine calls_of_wp hf hb ?_;have ar:∀o∈Lin,o.Wf:=by
  intro o ho;obtain⟨i,hi⟩:=abh.1 ho;have:=u (1000+i);rw[ck,aF,o5 (by omega),o5 (by omega),show 1000+i-1000=i by omega,hi] at this;cases e:Li[i]? with
  | none=>rw[e] at this;exact this.elim
  | some p=>rw[e] at this;exact cD.wf this
 have h:=h ha.wf ar;have aa:=ha.len;have r:=abb r
 -- the frame
 have key:∀j,∃sv,aJ F (inp Li) (jN 0 args j) sv/\conc (inp Li) sv=(d.toArray++Array.replicate (fn.ntmps-d.toArray.size) undef).getD j undef/\(∀k off,sv=.own k off->∃g t cs,(inp Li).get k=some (.box g t cs))/\(∀x i,sv=.el x i->x≠none):=by
  intro j;rw[nM];simp only[abe,abl,Nat.sub_zero,aa8];cases e:args[j]? with
  | some c =>
   have s:j<d.length:=by rw[aa];exact(aaU.1 e).1
   obtain⟨s1,s2,s3,s4⟩:=qX (ha.at e (aaQ s));refine⟨_,s1,?_,s3,fun x i e=>vv e (s4 x i)⟩;rw[s2,Array.getElem?_append_left (by simpa using s)];simp[s]
  | none =>
   have av:d.length<=j:=by rw[aa];exact abA.1 e
   refine⟨.v undef,kQ,?_,fun _ _ e=>(by cases e),fun _ _ e=>(by cases e)⟩;rw[Array.getElem?_append_right (by simpa using av)];simp only[Array.getElem?_replicate,conc];split<;>rfl
 let y:Env:=fun j=>(key j).choose
 have he:aA (inp Li) y {tmps:=d.toArray++Array.replicate (fn.ntmps-d.toArray.size) undef,defers:=[]} :=
  ⟨fun t=>(key t).choose_spec.2.1.symm,fun t k off e=>(key t).choose_spec.2.2.1 k off e,fun t x j e=>(key t).choose_spec.2.2.2 x j e⟩
 let G:Nat->Option (Nat×TypeId):=fun k=>match(inp Li).get k with | some (.box g t _)=>some (g,t) | _=>none
 have ab:∀k g t cs,(inp Li).get k=some (.box g t cs)->G k=some (g,t):=fun k g t cs e=>by simp only[G,e]
 have am:Kp G (inp Li):=by
  intro k g t e;simp only[G] at e;split at e
  ·rename_i g' t' cs h;injection e with e
   injection e with e1 e2
   subst e1 e2;exact⟨cs,h⟩
  ·cases e
 have ag:∀k,G k≠none->1000<=k:=by
  intro k m;simp only[G] at m;split at m
  ·rename_i g t cs h;rw[aF] at h;split at h
   ·assumption
   ·cases h
  ·exact vv rfl m
 have ht:TS G F (inp Li) y (cC Lin) (jN 0 args):=⟨u,fun j=>(key j).choose_spec.1,am,hs.glob⟩;refine wp_mono (fp c z (fun k _ m=>.inl (ag k m)) hs he ht (by simp[e2];omega) h) ?_;intro e a' w' q;have fin:∀{a0:Act},a0.defers=[]->dZ A.n F (inp Li) w a0 (dJ c) (Both G (fun L ρ=>gF L ρ al fun d=>fZ Lin L (gD d) R)) a' w'->a'.defers=[]/\∃v,(results fn a'.tmps).run P w'=.ok v w' /\
   ∃v' F' Lo,Ending.returned v=.returned v'/\St F' (inp Lo) w'/\Step F (inp Li) w F' (inp Lo) w'/\gC Li R F' Lo v':=by
  intro a0 ao q;obtain⟨k1,v,k2,F',Lo,k3,k4,k5⟩:=AH ac hl u ab q;exact⟨k1.trans ao,v,k2,v,F',Lo,rfl,k3,k4,k5⟩
 cases e with
 | normal=>exact(let⟨h1,v,h2,h3⟩:=fin rfl q;⟨h1,v,h2,.inl h3⟩)
 | ret=>exact(let⟨h1,v,h2,h3⟩:=fin rfl q;⟨h1,v,h2,.inl h3⟩)
 | exit j=>obtain⟨F',L',ρ',_,_,_,_,_,_,M',ca,_,h⟩:=q;exact h.elim
 | goto l=>exact q.elim
 | panic c =>
  obtain⟨v,ae,F',L',g1,g2,g3,g4,g5,kp,hp,_⟩:=q;obtain⟨Lo,q1,q2,q3,q4⟩:=r9 g1 g2 (fun i g t cs hi=>kp (1000+i) g t (ab _ g t cs (by rw[aF,o5 (by omega),show 1000+i-1000=i by omega];exact hi)));exact⟨g4,.inr ⟨v,_,F',Lo,rfl,ae,q1,q2,q3,q4,hp⟩⟩
 | outgrown=>exact q.elim
theorem CallsTX.noPan {f:Nat}{args:List C}{Lin:List TO}{R:List TO->C->Prop}(h:CallsTX P f args Lin R fun _=>False):CallsT P f args Lin R :=
 ⟨fun F Li j h1 d c=>let k:=h.out F Li j h1 d c;⟨k.ent,k.mono,fun w b=>(k.run w b).mono fun e w' q=>q.elim id fun⟨_,_,_,_,_,_,_,_,_,_,q⟩=>q.elim⟩⟩
theorem af {f:FuncId}{fn:Func}{e:ay}{A:dc}{rs:List RV}{args:List C}{Lin:List TO}{R:List TO->C->Prop}(hf:P.funcs[f]?=some fn) (b:aB P A fn=some (e,A.n,rs,false)) (c:Nat.ble args.length A.n=true)
  (h:uq args->(∀o∈Lin,o.Wf)->evalTC P ⟨fun _=>False,[],none⟩ e (fun _ _ _=>False) (fun L ρ=>gF L ρ rs fun d=>fZ Lin L (gD d) R) (fun L ρ=>gF L ρ rs fun d=>fZ Lin L (gD d) R) (cC Lin) (jN 0 args)):CallsT P f args Lin R :=
 (aV hf b c h).noPan
end
section
variable {P:Program}{L:TL}{ρ:aK}
def aU (Lo:List TO) (x:C):List TO->C->Prop:=fun Mo v=>Mo=Lo/\v=x
theorem bh {f:Nat}{args a:List C}{K:TL->aK->C->Prop}{x:C}(h:CallsT P f a [] (aU [] x)) (d:(args.map fun c=>c.aaj.ren (bA [] 1000))=a) (k:Wf x->K L ρ (x.ren (aI [])).slt):qa P f args L ρ K:=by
 subst d;exact .mk ⟨[],[],[],L,[],_,.inl rfl,rfl,rfl,rfl,rfl,rfl,h,fun v Mo ⟨e,b⟩ j _=>by subst e b;exact⟨rfl,k j⟩⟩
theorem bL {f:Nat}{args a:List C}{K:TL->aK->C->Prop}{d:Option Nat}{x:C}(h:CallsT P f a [] (aU [] x)) (e:(args.map fun c=>c.aaj.ren (bA [] 1000))=a) (k:Wf x->K L ρ x.slt):uJ P f args L ρ d K:=by
 subst e;exact .frz _ h fun v Mo ⟨j,b⟩ l=>by subst j b;exact⟨rfl,k l⟩
theorem callO (ks ko:List Nat) {f:Nat}{args a:List C}{K:TL->aK->C->Prop}{x:C}{Lin Lin' Lo:List TO}(h:CallsT P f a Lin' (aU Lo x)) (e:L.sub ks=some Lin)
  (d:(aP ks&&aP ko&&jv L ks ko&&aG Lin ks ko)=true) (m:(args.map fun c=>c.aaj.ren (bA ks 1000))=a) (p:Lin.map (TO.aad (C.ren (bA ks 1000)))=Lin') (l:ko.length=Lo.length)
  (k:Wf x->(∀o∈Lo,o.Wf)->K (((L.aae ks).kills (rowsOf L ks)).puts ko (Lo.map (TO.aad (C.ren (aI ko))))) (dh (rowsOf L ks) ρ) (x.ren (aI ko)).slt):qa P f args L ρ K:=by
 subst m p;simp only[aaN] at d;obtain⟨⟨⟨r,j⟩,c3⟩,c4⟩:=d;exact .mk ⟨[],ks,ko,L,Lin,_,.inl rfl,e,r,j,c3,c4,h,fun v Mo ⟨s,n⟩ q b=>by subst s n;exact⟨l,k q b⟩⟩
theorem x9 (ks ko:List Nat) {f:Nat}{args a:List C}{K:TL->aK->C->Prop}{x:C}{Lin Lin' Lo:List TO}(h:CallsT P f a Lin' (aU Lo x)) (e:L.sub ks=some Lin)
  (d:(aP ks&&aP ko&&jv L ks ko&&aG Lin ks ko)=true) (m:(args.map fun c=>c.aaj.ren (bA ks 1000))=a) (p:Lin.map (TO.aad (C.ren (bA ks 1000)))=Lin') (l:ko.length=Lo.length)
  (k:Wf x->(∀o∈Lo,o.Wf)->K (((L.aae ks).kills (rowsOf L ks)).puts ko (Lo.map (TO.aad (C.ren (aI ko))))) (dh (rowsOf L ks) ρ) (x.ren (aI ko)).slt):EL P f args L ρ K:=by
 subst m p;simp only[aaN] at d;obtain⟨⟨⟨r,j⟩,c3⟩,c4⟩:=d;exact .mk ⟨ks,ko,Lin,_,e,r,j,c3,c4,h,fun v Mo ⟨s,n⟩ q b=>by subst s n;exact⟨l,k q b⟩⟩
theorem F9 (b ks ko:List Nat) {f:Nat}{args a:List C}{K:TL->aK->C->Prop}{x:C}{Lo Lin':List TO}(h:CallsT P f a Lin' (aU Lo x))
  (hf:xE b L ρ args fun L ρ args=>∃Lin,L.sub ks=some Lin/\(aP ks&&aP ko&&jv L ks ko&&aG Lin ks ko)=true/\(args.map fun c=>c.aaj.ren (bA ks 1000))=a/\Lin.map (TO.aad (C.ren (bA ks 1000)))=Lin'/\ko.length=Lo.length /\
   (Wf x->(∀o∈Lo,o.Wf)->K (((L.aae ks).kills (rowsOf L ks)).puts ko (Lo.map (TO.aad (C.ren (aI ko))))) (dh (rowsOf L ks) ρ) (x.ren (aI ko)).slt)):qa P f args L ρ K:=by
 refine .mk ⟨b,ks,ko,?_⟩;refine frzK_imp hf ?_;rintro L ρ args ⟨Lin,l,j,rfl,rfl,n,k⟩;simp only[aaN] at j;obtain⟨⟨⟨q,m⟩,c3⟩,c4⟩:=j;exact⟨L,Lin,_,.inl rfl,l,q,m,c3,c4,h,fun v Mo ⟨r,p⟩ s e=>by subst r p;exact⟨n,k s e⟩⟩
where
 frzK_imp:∀{b:List Nat}{L:TL}{ρ:aK}{args:List C}{K K':TL->aK->List C->Prop},xE b L ρ args K->(∀L ρ args,K L ρ args->K' L ρ args)->xE b L ρ args K'
  | [],L,ρ,args,K,K',h,d=>d _ _ _ h
  | k::b,L,ρ,args,K,K',h,d=>by
   simp only[xE] at h ⊢;generalize L.get k=z at h ⊢;split at h
   ·exact frzK_imp h d
   ·exact h.elim
theorem aC {Lin:List TO}{v x:C}(hb:aG Lin (List.range' 1000 Lin.length) []=true) (e:v.aat.ren (bA [] 1000)=x):fZ Lin L v (aU [] x) :=
 ⟨[],[],L,v,v,[],rfl,.inl ⟨rfl,rfl⟩,rfl,rfl,hb,fun _=>⟨rfl,e⟩⟩
theorem bB (ko:List Nat) {Lin Mo Lo:List TO}{v x:C}(b:L.sub ko=some Mo) (a:(aP ko&&aG Lin (List.range' 1000 Lin.length) ko)=true) (c:Mo.map (TO.aad (C.ren (bA ko 1000)))=Lo) (e:v.aat.ren (bA ko 1000)=x):fZ Lin L v (aU Lo x):=by
 simp only[aaN] at a;exact⟨[],ko,L,v,v,Mo,rfl,.inl ⟨rfl,rfl⟩,b,a.1,a.2,fun _=>⟨c,e⟩⟩
theorem Vl (k t sz:Nat) {Lin:List TO}(b:L=[]) (hb:aG Lin (List.range' 1000 Lin.length) [k]=true):fZ Lin L .nils (aU [.row t sz []] (.rw 1000)):=by
 subst b;have a:Nat.beq k k=true:=by simp
 refine⟨[],[k],[(k,.row t sz [])],.nils,.rw k,[.row t sz []],rfl,.inr ⟨⟨.inr ⟨rfl,t,sz,rfl⟩,trivial⟩,.inr (.inr (.inr (.inl ⟨rfl,k,t,sz,rfl,rfl,?_⟩)))⟩,?_,rfl,hb,fun _=>⟨rfl,?_⟩⟩
 ·simp only[TL.get,a]
 ·simp only[TL.sub,TL.get,a]
 ·simp only[C.aat,C.ren,C.mp,wo,bA,a]
theorem HY (d ko:List Nat) {Lin Lo:List TO}{v x:C}(hf:xE d L (fun _=>.any) [v] fun L _ b=>∃c Mo,b=[c]/\L.sub ko=some Mo/\(aP ko&&aG Lin (List.range' 1000 Lin.length) ko)=true/\Mo.map (TO.aad (C.ren (bA ko 1000)))=Lo/\c.aat.ren (bA ko 1000)=x):fZ Lin L v (aU Lo x):=by
 refine⟨d,ko,?_⟩;refine F9.frzK_imp hf ?_;rintro L ρ b ⟨c,Mo,rfl,f,a,h,e⟩;simp only[aaN] at a;exact⟨L,c,c,Mo,rfl,.inl ⟨rfl,rfl⟩,f,a.1,a.2,fun _=>⟨h,e⟩⟩
theorem cu {e:Type}{b:TL->aK->TK->Prop}{asg:List Nat}(n:Nat) (l:Nat) (f:List Nat) (c:e) (d:e->List C) (Lf:e->TL) (Inv:Nat->e->Prop) (h0:Inv 0 c) (r:MR L (Lf c) (ρ l) (.int .i64 0)) (u:mV L (Lf c) f (d c) ρ)
  (v:gives L (Lf c) (Lf c)) (hb:∀s,oE L (Lf s)=true) (t:∀s,(d s).length=f.length)
  (h:∀(k:Nat) s,k<=n->Inv k s->uq (d s)->(∀j o,(Lf s).get j=some o->o.Wf)->(k:Int)<=9223372036854775807->b (Lf s) (pX (l::f) (.int .i64 k::d s) (tq asg ρ)) fun L' ρ' =>
   ∃a:Nat×e,(a.1<=n/\Inv a.1 a.2)/\mV L' (Lf a.2) (l::f) (.int .i64 a.1::d a.2) ρ'/\gives L' (Lf a.2) (Lf a.2)/\n-a.1<n-k):Aq b asg L ρ:=by
 refine⟨Nat×e,(0,c),fun x=>x.1<=n/\Inv x.1 x.2,l::f,fun x=>.int .i64 x.1::d x.2,fun x=>Lf x.2,fun x=>n-x.1,⟨abe _,h0⟩,⟨r,u⟩,v,fun x=>hb x.2,fun x=>by simp[t],?_⟩;rintro⟨k,s⟩ ⟨p,hi⟩ q m;simp only[uq,Wf] at q;exact h k s p hi q.2 m (wf_i64 q.1).2
theorem bS {L1:TL}{k:Nat}:MR L L1 (.int .i64 ((k:Int)+1)) (.int .i64 ((k+1:Nat):Int)):=.inr (.inl ⟨rfl,rfl⟩)
theorem bV {n k:Nat}(h:k<n):n-(k+1)<n-k:=by omega
theorem gL {els:List (List C)}(h:Wf (.sl els)):els.length<=9223372036854775807:=by simp only[Wf,maxLen] at h;omega
theorem Nq {a:Type}{f:a->List C}{l:List a}(h:Wf (.sl (l.map f))):l.length<=9223372036854775807:=by have:=gL h;simpa using this
theorem EW {a:Type}{f:a->List C}{l:List a}{k sz:Nat}{x:a}{es:List C}{K:List C->Prop}(c:l[k]?=some x) (he:f x=es) (b:eW es sz=true) (h:K es):uI (l.map f) (k:Int) sz K :=
 ⟨es,by omega,by simp[c,he],b,h⟩
theorem dR {a:List UInt8}{k:Nat}{x:UInt8}{K:List C->Prop}(b:a[k]?=some x) (h:K [JO x]):uI (EH a) (k:Int) 1 K :=
 ⟨[JO x],by omega,by simp[EH,b],rfl,h⟩
theorem ak {L1:TL}{c:C}(h:fk L1 3 c=true):MR L L1 c c:=.inr (.inl ⟨rfl,h⟩)
theorem bW {a:Type}{l:List a}{k:Nat}(h:¬k<l.length):l.drop k=[]:=List.drop_eq_nil_iff.2 (by omega)
theorem Kb (ks ko:List Nat) {PS:nG}{Pp:Value->Prop}{f:Nat}{args a:List C}{K:TL->aK->C->Prop}{x:C}{Lin Lin' Lo:List TO}(h:CallsTX P f a Lin' (aU Lo x) Pp) (e:L.sub ks=some Lin)
  (d:(aP ks&&aP ko&&jv L ks ko&&aG Lin ks ko)=true) (m:(args.map fun c=>c.aaj.ren (bA ks 1000))=a) (p:Lin.map (TO.aad (C.ren (bA ks 1000)))=Lin') (l:ko.length=Lo.length) (q:∀v,Pp v->PS.ps v)
  (k:Wf x->(∀o∈Lo,o.Wf)->K (((L.aae ks).kills (rowsOf L ks)).puts ko (Lo.map (TO.aad (C.ren (aI ko))))) (dh (rowsOf L ks) ρ) (x.ren (aI ko)).slt) (s:jw L ks PS.hb=true:=by rfl):kU P PS f args L ρ K:=by
 subst m p;simp only[aaN] at d;obtain⟨⟨⟨t,j⟩,c3⟩,c4⟩:=d;exact⟨[],ks,ko,L,Lin,_,_,.inl rfl,e,t,j,c3,c4,s,h,q,fun v Mo ⟨u,n⟩ r b=>by subst u n;exact⟨l,k r b⟩⟩
theorem Rb (L1:TL) (ks ko:List Nat) {PS:nG}{Pp:Value->Prop}{f:Nat}{args a:List C}{K:TL->aK->C->Prop}{x:C}{Lin Lin' Lo:List TO}(h:CallsTX P f a Lin' (aU Lo x) Pp) (y:gives L L1 L1) (e:L1.sub ks=some Lin)
  (d:(covers L L1&&aP ks&&aP ko&&jv L1 ks ko&&aG Lin ks ko)=true) (m:(args.map fun c=>c.aaj.ren (bA ks 1000))=a) (p:Lin.map (TO.aad (C.ren (bA ks 1000)))=Lin') (l:ko.length=Lo.length) (q:∀v,Pp v->PS.ps v)
  (k:Wf x->(∀o∈Lo,o.Wf)->K (((L1.aae ks).kills (rowsOf L1 ks)).puts ko (Lo.map (TO.aad (C.ren (aI ko))))) (dh (rowsOf L1 ks) ρ) (x.ren (aI ko)).slt) (s:jw L1 ks PS.hb=true:=by rfl):kU P PS f args L ρ K:=by
 subst m p;simp only[aaN] at d;obtain⟨⟨⟨⟨t,u⟩,j⟩,c3⟩,c4⟩:=d;exact⟨[],ks,ko,L1,Lin,_,_,.inr ⟨y,t⟩,e,u,j,c3,c4,s,h,q,fun v Mo ⟨w,n⟩ r b=>by subst w n;exact⟨l,k r b⟩⟩
theorem py {PS:nG}{c:C}{v:Value}(a:C9 c=some v) (h:PS.ps v) (b:jw L [] PS.hb=true:=by rfl):SN PS L c:=⟨v,a,b,h⟩
end
def lB:Own->Value
 | .box g _ _=>.pointer (some ⟨g,0,none⟩)
 | .row _ _ _ _ _=>undef
def pz:Own->List Value->Own
 | .box g t _,cs=>.box g t cs
 | .row v t sz n xs,_=>.row v t sz n xs
def Rc:Own->Nat->Prop
 | .box _ 0 _,_=>False
 | .box _ (_+1) cs,n=>cs.length=n
 | .row _ _ _ _ _,_=>False
theorem Ga {g:Nat}{t:TypeId}{cs:List Value}{n:Nat}(h:t≠0) (a:cs.length=n):Rc (.box g t cs) n:=by
 cases t with
 | zero=>exact vv rfl h
 | succ t=>exact a
theorem wB {g:Nat}{t:TypeId}{cs:List Value}{n:Nat}(h:Rc (.box g t cs) n):t≠0:=by
 cases t with
 | zero=>exact h.elim
 | succ t=>exact Nat.succ_ne_zero t
def CF:List Own->List Nat->Prop
 | [],[]=>True
 | o::a,n::ns=>Rc o n/\CF a ns
 | _,_=>False
structure nN (P:Program) (H:Nat) (PS:Value->Prop) (ns:List Nat) (out:Value->List (List Value)):Prop where
 inv:∀cap w,(invoke (.fn (.func H) cap) #[]).run P w=.ok (.enter H cap) w
 idle:∀(bs:List Own) (w:World),CF bs ns->CallsD P H (bs.map lB).toArray .returning w fun e u' w'=>e=.returned (.tuple #[])/\u'=.returning/\w'=w
 caught:∀(F:au) (bs:List Own) (v:Value) (older:List PanicEntry) (w:World),PS v->CF bs ns->St F (inp bs) w ->
  CallsD P H (bs.map lB).toArray (.panicking ({v,recovered:=false}::older)) w fun e u' w'=>e=.returned (.tuple #[])/\u'=.panicking ({v,recovered:=true}::older) /\
   ∃F',St F' (inp (List.zipWith pz bs (out v))) w'/\Step F (inp bs) w F' (inp (List.zipWith pz bs (out v))) w'
theorem Dv {P:Program}{F:au}{L:Loc}{ρ:Env}{a:Act}{w:World}{fn:Func}{rs:List RV}{K:List Value->Prop}(d:St F L w) (he:aA L ρ a) (b:mL P fn.results.toList=some rs) (h:mZ L ρ rs K) :
  ∃c,(results fn a.tmps).run P w=.ok (fM c) w/\K c:=by
 obtain⟨c,f,e⟩:=nD d he b h;refine⟨c,?_,e⟩;rw[oD,Array.mapM_eq_mapM_toList];simp only[Sem.run_bind,Sem.run_map];rw[f];simp only[Result.andThen_ok,Sem.run_pure];congr 1
 match c with
 | []=>rfl
 | [t]=>rfl
 | t::u::r =>
  simp only[fM];rw[dif_neg (by simp)]
def AJ:List TO->List TO->Prop
 | [],Mo=>Mo=[]
 | .box t _::l,Mo=>∃(n:Nat) (Mo':List TO),Mo=.box t (List.replicate n .any)::Mo'/\AJ l Mo'
 | .row t sz _::l,Mo=>∃Mo',Mo=.row t sz []::Mo'/\AJ l Mo'
 | .map _::_,_=>False
def AK:List TO->Bool
 | []=>true
 | .map _::_=>false
 | .box _ _::l=>AK l
 | .row _ _ _::l=>AK l
theorem Dw {F:au}{L:Loc}:∀a:List Value,ax F L (List.replicate a.length .any) a
 | []=>by simp only[abN,List.replicate_zero,ax]
 | v::a=>by
  simp only[aa7,ab4,ax];exact⟨v,a,rfl,trivial,Dw a⟩
theorem Gb {F:au}:∀(Lin:List TO) (Li Lo:List Own),AK Lin=true->Li.length=Lin.length->Lo.length=Lin.length->(∀(i:Nat) o p,Lin[i]?=some o->Li[i]?=some p->∃L,cD F L o p) ->
  (∀(i:Nat) g t cs,Li[i]?=some (.box g t cs)->∃cs',Lo[i]?=some (.box g t cs')) ->
  ∃(Mo:List TO) (Lo':List Own),AJ Lin Mo/\Mo.length=Lin.length/\Lo'.length=Lin.length/\(∀(i:Nat) o,Lo'[i]?=some o->Lo[i]?=some o\/∃t sz,o=.row (.slice none 0 0) t sz 0 []) /\
   (∀(i:Nat) g t cs,Li[i]?=some (.box g t cs)->∃cs',Lo'[i]?=some (.box g t cs'))/\∀(i:Nat) o p L G,Mo[i]?=some o->Lo'[i]?=some p->cD G L o p
 | [],Li,Lo,c,h1,f,d,h=>by
  have:Li=[]:=List.length_eq_zero_iff.1 h1;subst this;exact⟨[],[],rfl,rfl,rfl,fun i o e=>by simp at e,fun i g t cs e=>by simp at e,fun i o p L G e=>by simp at e⟩
 | o::Lin,[],Lo,c,h1,f,d,h=>by simp at h1
 | o::Lin,p::Li,[],c,h1,f,d,h=>by simp at f
 | o::Lin,p::Li,q::Lo,c,h1,f,d,h=>by
  obtain⟨Mo,Lo',a1,s,l,m,r,u⟩:=Gb Lin Li Lo (by cases o<;>first | exact c | cases c) (by simpa using h1) (by simpa using f) (fun i o p b a=>d (i+1) o p (by simpa using b) (by simpa using a)) (fun i g t cs e=>by simpa using h (i+1) g t cs (by simpa using e));obtain⟨L,k⟩:=d 0 o p rfl rfl;cases o with
  | map es=>cases c
  | box t cs =>
   cases p with
   | row=>exact k.elim
   | box g j us =>
    obtain⟨cs',e⟩:=h 0 g j us rfl;simp only[aa6,aaO] at e;subst e;refine⟨.box t (List.replicate cs'.length .any)::Mo,.box g j cs'::Lo',⟨_,_,rfl,a1⟩,by simp[s],by simp[l],fun i o e=>?_,fun i g t cs e=>?_,fun i o p L G b a=>?_⟩
    ·cases i with
     | zero=>exact .inl e
     | succ i=>simpa using m i o (by simpa using e)
    ·cases i with
     | zero=>simp only[aa6,aaO] at e;injection e with q1 q2 q3;subst q1 q2;exact⟨_,rfl⟩
     | succ i=>simpa using r i g t cs (by simpa using e)
    ·cases i with
     | zero =>
      simp only[aa6,aaO] at b a;subst b a;exact⟨k.1,Dw _⟩
     | succ i=>exact u i o p L G (by simpa using b) (by simpa using a)
  | row t sz els =>
   cases p with
   | box=>exact k.elim
   | row v j w n xs =>
    refine⟨.row t sz []::Mo,.row (.slice none 0 0) t sz 0 []::Lo',⟨_,rfl,a1⟩,by simp[s],by simp[l],fun i o e=>?_,fun i g t cs e=>?_,fun i o p L G b a=>?_⟩
    ·cases i with
     | zero=>simp only[aa6,aaO] at e;subst e;exact .inr ⟨_,_,rfl⟩
     | succ i=>simpa using m i o (by simpa using e)
    ·cases i with
     | zero=>simp only[aa6,aaO] at e;cases e
     | succ i=>simpa using r i g t cs (by simpa using e)
    ·cases i with
     | zero =>
      simp only[aa6,aaO] at b a;subst b a;exact⟨rfl,rfl,rfl,⟨abe _,none,0,rfl,fun _=>rfl⟩,by simp only[aN]⟩
     | succ i=>exact u i o p L G (by simpa using b) (by simpa using a)
theorem Rf {F F':au}{Lin:List TO}{Li Lo:List Own}{w w':World}(v:AK Lin=true) (hl:Li.length=Lin.length) (q:bM F (inp Li) (cC Lin)) (f:St F' (inp Lo) w') (a:Step F (inp Li) w F' (inp Lo) w') (r:Lo.length=Li.length)
  (x:∀(i:Nat) g t cs,Li[i]?=some (.box g t cs)->∃cs',Lo[i]?=some (.box g t cs')) :
  ∃Mo Lo',St F' (inp Lo') w'/\Step F (inp Li) w F' (inp Lo') w'/\AJ Lin Mo/\Mo.length=Lo'.length/\bM F' (inp Lo') (cC Mo)/\∀(i:Nat) g t cs,Li[i]?=some (.box g t cs)->∃cs',Lo'[i]?=some (.box g t cs'):=by
 have l:∀(i:Nat) o p,Lin[i]?=some o->Li[i]?=some p->∃L,cD F L o p:=by
  intro i o p d s;have y:=q (1000+i);rw[ck,aF,o5 (by omega),o5 (by omega),show 1000+i-1000=i by omega,d,s] at y;exact⟨_,y⟩
 obtain⟨Mo,Lo',a1,u,n,a4,a5,a6⟩:=Gb Lin Li Lo v hl (by rw[r,hl]) l x;have c:∀j o,(inp Lo').get j=some o->(inp Lo).get j=some o\/∃t sz,o=.row (.slice none 0 0) t sz 0 []:=by
  intro j o e;rw[aF] at e ⊢;split at e
  case isFalse=>cases e
  rename_i hj;rw[o5 hj];exact a4 _ o e
 refine⟨Mo,Lo',⟨f.frz,fun j o e=>?_,fun j o g e hb=>?_,fun j z o o' g e e' hb m=>?_,f.glob⟩,?_,a1,by rw[u,n],fun k=>?_,a5⟩
 ·rcases c j o e with d | ⟨t,sz,rfl⟩
  ·exact f.own j o d
  ·exact World.ownsRow_nil w' 0 t sz
 ·rcases c j o e with d | ⟨t,sz,rfl⟩
  ·exact f.off j o g d hb
  ·cases hb
 ·rcases c j o e with d | ⟨t,sz,rfl⟩
  ·rcases c z o' e' with s | ⟨t,sz,rfl⟩
   ·exact f.sep j z o o' g d s hb m
   ·cases m
  ·cases hb
 ·refine⟨a.le,a.os,a.tape,a.output,a.size,a.same,a.frz,fun b hb=>?_⟩;obtain⟨j,o,e,hb⟩:=hb;rcases c j o e with d | ⟨t,sz,rfl⟩
  ·exact a.own b ⟨j,o,d,hb⟩
  ·cases hb
 ·rw[ck,aF];split
  ·cases d:Mo[k-1000]? with
   | none =>
    have:Lo'[k-1000]?=none:=abn (by rw[n,<-u];exact abA.1 d);rw[this];trivial
   | some o =>
    have h:k-1000<Lo'.length:=by rw[n,<-u];exact(aaU.1 d).1
    rw[aaQ h];exact a6 _ o _ _ _ d (aaQ h)
  ·trivial
def yc (M:TL) (τ:aK):List Nat->List Nat->Bool
 | [],[]=>true
 | k::ks,n::ns=>match τ k,M.get k with
  | .own j 0,some (.box _ cs)=>match Nat.beq j k,eW cs n with | true,true=>yc M τ ks ns | _,_=>false
  | _,_=>false
 | _,_=>false
section
variable {G:Nat->Option (Nat×TypeId)}{F:au}{L:Loc}{ρ:Env}{M:TL}{τ:aK}
theorem Dx:∀{ks ns:List Nat},yc M τ ks ns=true->TS G F L ρ M τ->∃a:List Own,L.sub ks=some a/\CF a ns/\ks.map (fun k=>conc L (ρ k))=a.map lB/\(∀k∈ks,ρ k=.own k 0)
 | [],[],_,_=>⟨[],rfl,trivial,rfl,fun k h=>by cases h⟩
 | [],n::ns,h,_=>by cases h
 | k::ks,[],h,_=>by cases h
 | k::ks,n::ns,h,e=>by
  simp only[yc] at h;split at h
  case h_2=>cases h
  rename_i j t cs h1 r;split at h
  case h_2=>cases h
  rename_i c u;have c:=aaR c;subst c;obtain⟨a,p,m,q,v⟩:=Dx h e;obtain⟨g,ty,s,f,o,b⟩:=kV e.tl r;have l:ρ j=.own j 0:=(je (x:=.t j) e.env h1).1;refine⟨.box g ty s::a,by simp only[Loc.sub,f,p],⟨Ga b.2.2 (by rw[o.len];exact bU u),m⟩,?_,?_⟩
  ·rw[aa0,aa0,q];simp only[l,conc,f,lB]
  ·intro k d;rcases aaW.1 d with rfl | d
   ·exact l
   ·exact v k d
end
theorem wC:∀{a:List Own}{ns:List Nat},CF a ns->a.length=ns.length
 | [],[],_=>rfl
 | [],_::_,h=>h.elim
 | _::_,[],h=>h.elim
 | o::a,n::ns,h=>by simp[wC h.2]
theorem Dy {hb:List (Nat×Nat)}{L L':Loc}:∀{ks ns:List Nat}{c:List Own},L.sub ks=some c->CF c ns->(∀k g t cs,k∈ks->L.get k=some (.box g t cs)->∃cs',L'.get k=some (.box g t cs'))->Vj hb L'->(∀x∈ks.zip ns,x∈hb) ->
  ∃a,L'.sub ks=some a/\CF a ns/\a.map lB=c.map lB
 | [],ns,c,h1,b,f,m,h=>by
  simp only[Loc.sub,aaO] at h1;subst h1;exact⟨[],rfl,b,rfl⟩
 | k::ks,ns,c,h1,b,f,m,h=>by
  simp only[Loc.sub] at h1;split at h1
  case h_2=>cases h1
  rename_i o l e1 z;injection h1 with h1
  subst h1;cases ns with
  | nil=>exact b.elim
  | cons n ns =>
   obtain⟨b,p⟩:=b;cases o with
   | row=>exact b.elim
   | box g t cs =>
    obtain⟨a,w,r,y⟩:=Dy z p (fun j g t cs s e=>f j g t cs (by simp[s]) e) m (fun x hx=>h x (by simp[hx]));obtain⟨cs',q⟩:=f k g t cs (by simp) e1;obtain⟨g',t',v,d,u⟩:=m k n (h _ (by simp));rw[q] at d;injection d with d
    injection d with x1 x2 x3
    subst x1 x2 x3;exact⟨.box g t cs'::a,by simp only[Loc.sub,q,w],⟨Ga (wB b) u,r⟩,by simp[y,lB]⟩
theorem Gc:∀{a:List Own}{ns:List Nat}{l:List (List Value)},CF a ns->l.length=ns.length->(List.zipWith pz a l).length=a.length/\(∀(i:Nat) g t cs,a[i]?=some (.box g t cs)->∃cs',(List.zipWith pz a l)[i]?=some (.box g t cs')) /\
  ∀(i:Nat) cs,l[i]?=some cs->∃g t,(List.zipWith pz a l)[i]?=some (.box g (t+1) cs)
 | [],[],l,_,h=>by
  have:l=[]:=List.length_eq_zero_iff.1 h;subst this;exact⟨rfl,fun i g t cs e=>by simp at e,fun i cs e=>by simp at e⟩
 | [],n::ns,l,h,_=>h.elim
 | o::a,[],l,h,_=>h.elim
 | o::a,n::ns,[],_,h=>by simp at h
 | o::a,n::ns,c::l,⟨h1,m⟩,h=>by
  obtain⟨j,d,k⟩:=Gc (l:=l) m (by simpa using h);cases o with
  | row=>exact h1.elim
  | box g t cs =>
   refine⟨by simp[j],fun i f b cs' e=>?_,fun i cs' e=>?_⟩
   ·cases i with
    | zero =>
     simp only[aa6,aaO] at e;injection e with x1 x2 x3
     subst x1 x2;exact⟨c,rfl⟩
    | succ i=>simpa using d i f b cs' (by simpa using e)
   ·cases i with
    | zero =>
     simp only[aa6,aaO] at e;subst e;cases t with
     | zero=>exact h1.elim
     | succ t=>exact⟨g,t,rfl⟩
    | succ i=>simpa using k i cs' (by simpa using e)
theorem uV {a:Act}{ρ:Env}{L:Loc}(he:aA L ρ a):∀ks:List Nat,(ks.map Operand.tmp).map a.eval=ks.map fun k=>conc L (ρ k)
 | []=>rfl
 | k::ks=>by
  simp only[aa0,uV he ks];exact xo (·::_) (he.eq k)
theorem P5:∀(l:List PanicEntry),(∀e∈l,e.goexit=false)->l.dropWhile (!·.goexit)=[]
 | [],_=>rfl
 | e::l,h=>by
  rw[List.dropWhile_cons,o5 (by simp[h e (by simp)])];exact P5 l fun x a=>h x (by simp[a])
theorem BP {P:Program}{f H d r1:Nat}{fn:Func}{c0 rest:Code}{o1 o2:Oper}{A:dc}{sc0 sc:ay}{rs:List RV}{ks ns:List Nat}{args:List C}{Lin:List TO}{R:List TO->C->Prop}{PS:Value->Prop}{out:Value->List (List Value)}
  (hf:P.funcs[f]?=some fn) (hb:fn.body=some (.seq c0 (.seq (.region r1 #[o1,o2] false) rest))) (hname:(fn.name == "runtime.NumGoroutine")=false) (hnt:fn.ntmps=A.n)
  (ho1:o1.op=.makeFunc (.func H) #[] (ks.map Operand.tmp).toArray) (hd1:o1.dst=some d) (hg1:o1.guard=none) (ho2:o2.op=.defer {callee:=.value (.tmp d),args:=#[],argTypes:=#[]}) (hd2:o2.dst=none) (hg2:o2.guard=none)
  (hl0:low P A c0=some sc0) (hl:low P A rest=some sc) (hres:mL P fn.results.toList=some rs) (hH:nN P H PS ns out) (hd:d<A.n) (hks:aP ks=true) (hkd:(ks.all fun k=>!(eZ (dJ rest) k)&&!(Nat.beq k d)&&Nat.blt k 1000)=true)
  (hout:∀v,PS v->(out v).length=ns.length) (hlen:Nat.ble args.length A.n=true) (hnm:AK Lin=true)
  (hcat:∀v,PS v->∃c x,(∀(L:Loc) (ρ:Env),(∀(i:Nat) k cs,ks[i]?=some k->(out v)[i]?=some cs->ρ k=.own k 0/\∃g t,L.get k=some (.box g (t+1) cs))->mZ L ρ rs (fun vs=>fM vs=x))/\(∀F L,Rel F L c x)/\∀Mo,AJ Lin Mo->R Mo c)
  (h:uq args->(∀o∈Lin,o.Wf)->evalTC P ⟨fun _=>False,[],none⟩ sc0 (fun _ _ _=>False) (fun _ _=>False) (fun M τ=>yc M τ ks ns=true /\
   evalTC P ⟨PS,ks.zip ns,none⟩ sc (fun _ _ _=>False) (fun L ρ=>gF L ρ rs fun vs=>fZ Lin L (gD vs) R) (fun L ρ=>gF L ρ rs fun vs=>fZ Lin L (gD vs) R) M (bq (some d) .any τ)) (cC Lin) (jN 0 args)) :
  CallsT P f args Lin R:=by
 refine⟨fun F Li vs hlL htl ha=>⟨⟨fn,hf,by rw[hb];rfl,hname⟩,gC.aao,fun w hs=>?_⟩⟩
 suffices hall:∀RR:Ending->World->Prop,(∀v F' Lo w',St F' (inp Lo) w'->Step F (inp Li) w F' (inp Lo) w'->gC Li R F' Lo v->RR (.returned v) w')->Calls P f vs.toArray w RR from
  hall _ fun v F' Lo w' h1 h2 h3=>⟨v,F',Lo,rfl,h1,h2,h3⟩
 intro RR hRR;refine calls_of_wp_defers hf hb ?_;have hwo:∀o∈Lin,o.Wf:=by
  intro o ho;obtain⟨i,hi⟩:=abh.1 ho;have:=htl (1000+i);rw[ck,aF,o5 (by omega),o5 (by omega),show 1000+i-1000=i by omega,hi] at this;cases e:Li[i]? with
  | none=>rw[e] at this;exact this.elim
  | some p=>rw[e] at this;exact cD.wf this
 have h:=h ha.wf hwo;have hla:=ha.len;have hlen:=abb hlen;have key:∀j,∃sv,aJ F (inp Li) (jN 0 args j) sv/\conc (inp Li) sv=(vs.toArray++Array.replicate (fn.ntmps-vs.toArray.size) undef).getD j undef/\(∀k off,sv=.own k off->∃g t cs,(inp Li).get k=some (.box g t cs))/\(∀ad i,sv=.el ad i->ad≠none):=by
  intro j;rw[nM];simp only[abe,abl,Nat.sub_zero,aa8];cases e:args[j]? with
  | some c =>
   have hlt:j<vs.length:=by rw[hla];exact(aaU.1 e).1
   obtain⟨s1,s2,s3,s4⟩:=qX (ha.at e (aaQ hlt));refine⟨_,s1,?_,s3,fun ad i e=>vv e (s4 ad i)⟩;rw[s2,Array.getElem?_append_left (by simpa using hlt)];simp[hlt]
  | none =>
   have hge:vs.length<=j:=by rw[hla];exact abA.1 e
   refine⟨.v undef,kQ,?_,fun _ _ e=>(by cases e),fun _ _ e=>(by cases e)⟩;rw[Array.getElem?_append_right (by simpa using hge)];simp only[Array.getElem?_replicate,conc];split<;>rfl
 let ρ0:Env:=fun j=>(key j).choose
 have he:aA (inp Li) ρ0 {tmps:=vs.toArray++Array.replicate (fn.ntmps-vs.toArray.size) undef,defers:=[]} :=
  ⟨fun t=>(key t).choose_spec.2.1.symm,fun t k off e=>(key t).choose_spec.2.2.1 k off e,fun t ad j e=>(key t).choose_spec.2.2.2 ad j e⟩
 let G:Nat->Option (Nat×TypeId):=fun k=>match(inp Li).get k with | some (.box g t _)=>some (g,t) | _=>none
 have hG1:∀k g t cs,(inp Li).get k=some (.box g t cs)->G k=some (g,t):=fun k g t cs e=>by simp only[G,e]
 have hkp:Kp G (inp Li):=by
  intro k g t e;simp only[G] at e;split at e
  ·rename_i g' t' cs h;injection e with e
   injection e with e1 e2
   subst e1 e2;exact⟨cs,h⟩
  ·cases e
 have ht:TS G F (inp Li) ρ0 (cC Lin) (jN 0 args):=⟨htl,fun j=>(key j).choose_spec.1,hkp,hs.glob⟩;have hGd:∀k,G k≠none->1000<=k:=by
  intro k hne;simp only[G] at hne;split at hne
  ·rename_i g t cs h;rw[aF] at h;split at h
   ·assumption
   ·cases h
  ·exact vv rfl hne
 refine wp_seq (wp_mono (fp c0 hl0 (fun k _ hne=>.inl (hGd k hne)) hs he ht (by simp[hnt];omega) h) ?_);intro e a1 w1 hq;cases e with
 | exit j=>obtain⟨F',L',ρ',_,_,_,_,_,_,M',τ',_,h⟩:=hq;exact h.elim
 | goto l=>exact hq.elim
 | outgrown=>exact hq.elim
 | ret=>obtain⟨F',L',ρ',_,_,_,_,_,_,M',τ',_,h⟩:=hq;exact h.elim
 | panic c=>obtain⟨v,hch,F',L',_,_,_,_,_,_,hp,_⟩:=hq;exact hp.elim
 | normal =>
 obtain⟨F1,L1,ρ1,hs1,he1,hn1,hd1',hst1,_,M1,τ1,ht1,hcaps,hrest⟩:=hq;obtain⟨bs,hsub,hbx,hptr,hown⟩:=Dx hcaps ht1;simp only[Exit.then]
 -- the deferred function is named
 generalize hfv:Value.func (.func H) #[] (bs.map lB).toArray=fv;have hev:(ks.map Operand.tmp).toArray.map a1.eval=(bs.map lB).toArray:=by
  rw[List.map_toArray,uV he1,hptr]
 have he2:=he1.put (L':=L1) (d:=some d) (v:=fv) (x:=.v fv) (fun k e=>by injection e with e;subst e;omega) rfl cq eJ (fun k g ty cs e=>⟨cs,e⟩);have ht2:TS G F1 L1 (put (some d) (.v fv) ρ1) M1 (bq (some d) .any τ1):=ht1.put (c:=.any) (sv:=.v fv) trivial (some d);obtain⟨tm,df⟩:=a1;simp only at hd1';subst hd1';have hdt:(tm.setIfInBounds d fv).getD d undef=fv:=by
  have:d<tm.size:=by simpa[hn1] using hd
  simp[aa8,this]
 refine wp_seq (wp_region ?_);generalize hd0:({target:=.fn (.func H) (bs.map lB).toArray,args:=#[]}:Deferred)=d0;have hsz:d<tm.size:=by simpa[hn1] using hd
 simp[wpOps,go_sem,ho1,hd1,hg1,ho2,hd2,hg2,Exit.then,Region.wanted,hsz,Instr.makeFunc];have hml:List.map (Act.eval {tmps:=tm,defers:=[]}∘Operand.tmp) ks=bs.map lB:=by
  rw[<-hptr,<-uV he1,abS]
 rw[hml,hfv,hd0];refine .inl (.inl ?_)
 let G1:Nat->Option (Nat×TypeId):=fun k=>match Nat.ble 1000 k||eZ ks k with | true=>(match L1.get k with | some (.box g t _)=>some (g,t) | _=>none) | false=>none
 have hGL:∀k g t cs,(1000<=k\/k∈ks)->L1.get k=some (.box g t cs)->G1 k=some (g,t):=fun k g t cs hk e=>by
  have:(Nat.ble 1000 k||eZ ks k)=true:=by
   rw[abp];exact hk.imp (fun h=>by rw[Nat.ble_eq];exact h) cH.2
  simp only[G1,this,e]
 have hfz1:tI G1 ⟨PS,ks.zip ns,none⟩ (fH sc):=by
  intro k _ hne;simp only[G1] at hne;split at hne
  ·rename_i hb;rw[abp] at hb;rcases hb with hb | hb
   ·rw[Nat.ble_eq] at hb;exact .inl hb
   ·refine .inr ?_;have hl2:ks.length=ns.length:=by rw[(ct hsub).1.symm];exact wC hbx
    show eZ ((ks.zip ns).map (·.1)) k=true;rw[List.map_fst_zip (by omega)];exact hb
  ·exact vv rfl hne
 have hkp1:Kp G1 L1:=by
  intro k g t e;simp only[G1] at e;split at e
  case h_2=>cases e
  split at e
  ·rename_i g' t' cs h;injection e with e
   injection e with e1 e2
   subst e1 e2;exact⟨cs,h⟩
  ·cases e
 have hGG:∀k g t,G k=some (g,t)->G1 k=some (g,t):=fun k g t e=>let⟨cs,h⟩:=ht1.kp k g t e;hGL k g t cs (.inl (hGd k (by rw[e];simp))) h;have ht3:TS G1 F1 L1 (put (some d) (.v fv) ρ1) M1 (bq (some d) .any τ1):=⟨ht2.tl,ht2.env,hkp1,ht2.glob⟩;have he3:aA L1 (put (some d) (.v fv) ρ1) {tmps:=tm.setIfInBounds d fv,defers:=[d0]}:=⟨he2.eq,he2.own,he2.el⟩;refine wp_mono (fp rest hl hfz1 hs1 he3 ht3 (by simpa using hn1) hrest) ?_;intro e a' w' hq;have hnd:=cJ hks;have hGI:∀k g t cs,(inp Li).get k=some (.box g t cs)->G1 k=some (g,t):=fun k g t cs e=>hGG k g t (hG1 k g t cs e);have back:∀(u:FrameMode) (w:World),u=.returning->Leaves P fn a'.tmps RR [] .returning w->Leaves P fn a'.tmps RR [d0] u w:=by
  rintro u w rfl hlv;rw[<-hd0];refine leaves_cons (f:=H) (args:=(bs.map lB).toArray) (by simp) (hH.inv _ w) ?_;refine(hH.idle bs w hbx).mono ?_;rintro e u' w6 ⟨rfl,rfl,rfl⟩;exact hlv
 have fin:dZ A.n F1 L1 w1 {tmps:=tm.setIfInBounds d fv,defers:=[d0]} (dJ rest) (Both G1 (fun L ρ=>gF L ρ rs fun vs=>fZ Lin L (gD vs) R)) a' w'->Leaves P fn a'.tmps RR a'.defers .returning w':=by
  intro hq;have hq':dZ A.n F (inp Li) w {tmps:=tm.setIfInBounds d fv,defers:=[d0]} (dJ rest) (Both G1 (fun L ρ=>gF L ρ rs fun vs=>fZ Lin L (gD vs) R)) a' w':=by
   obtain⟨F',L',ρ',g1,g2,g3,g4,g5,g6,g7⟩:=hq;exact⟨F',L',ρ',g1,g2,g3,g4,hst1.trans g5,g6,g7⟩
  obtain⟨k1,v,k2,F',Lo,k3,k4,k5⟩:=AH hres hlL htl hGI hq';rw[k1];exact back _ _ rfl ⟨v,k2,hRR v F' Lo w' k3 k4 k5⟩
 cases e with
 | normal=>exact fin hq
 | ret=>exact fin hq
 | exit j=>obtain⟨F',L',ρ',_,_,_,_,_,_,M',τ',_,h⟩:=hq;exact h.elim
 | goto l=>exact hq.elim
 | outgrown=>exact hq.elim
 | panic ch =>
  obtain⟨v,⟨older,rfl,hold⟩,F',L',g1,g2,g3,g4,g5,kp,hp,hbL,_⟩:=hq;show Leaves P fn a'.tmps RR a'.defers _ w';rw[g4,<-hd0];obtain⟨bs',q1,q2,q3⟩:=Dy hsub hbx (fun k g t cs hk e=>kp k g t (hGL k g t cs (.inr hk) e)) hbL (fun x hx=>hx);refine leaves_cons (f:=H) (args:=(bs.map lB).toArray) (by simp) (hH.inv _ w') ?_;rw[<-q3];refine(hH.caught F' bs' v older w' hp q2 (g1.handed q1 hnd)).mono ?_;rintro e u' w6 ⟨rfl,rfl,F6,hs6,hst6⟩;show Leaves P fn a'.tmps RR [] (settle _) w6;have hset:settle (.panicking ({v,recovered:=true}::older))=.returning:=by
   have:older.dropWhile (!·.goexit)=[]:=by
    exact P5 older hold
   simp only[settle,this]
  rw[hset];obtain⟨z1,z2,z3⟩:=Gc (l:=out v) q2 (hout v hp);obtain⟨sl,sg⟩:=ct q1;have hkl:ks.length=(List.zipWith pz bs' (out v)).length:=by rw[z1,sl]
  obtain⟨c1,c2⟩:=fN g1 q1 hnd hnd (fun k hk=>.inl hk) hs6 hst6 hkl;generalize hL6:(L'.aae ks).puts ks (List.zipWith pz bs' (out v))=L6 at c1 c2;have hget:∀(i:Nat) k cs,ks[i]?=some k->(out v)[i]?=some cs->∃g t,L6.get k=some (.box g (t+1) cs)/\(∃cs',L'.get k=some (.box g (t+1) cs')):=by
   intro i k cs e1 e2;obtain⟨g,t,e3⟩:=z3 i cs e2;refine⟨g,t,by rw[<-hL6];exact dV hnd hkl e1 e3,?_⟩;have e4:=sg i k e1;have hlt:i<bs'.length:=by rw[<-z1];exact(aaU.1 e3).1
   rw[aaQ hlt] at e4;have e5:(List.zipWith pz bs' (out v))[i]?=some (pz bs'[i] cs):=by
    rw[List.getElem?_zipWith,aaQ hlt,e2]
   rw[e3] at e5;injection e5 with e5
   cases hb:bs'[i] with
   | row=>rw[hb] at e5;cases e5
   | box g' t' cs' =>
    rw[hb] at e5 e4;injection e5 with x1 x2
    subst x1 x2;exact⟨cs',e4⟩
  -- the slots that name the boxes
  let ρ6:Env:=fun j=>match eZ ks j with | true=>.own j 0 | false=>.v (a'.tmps.getD j undef)
  have hkd':∀k∈ks,k∉dJ rest/\k≠d:=by
   intro k hk;have:=aa1.1 hkd k hk;simp only[aaN,Bool.not_eq_true'] at this;refine⟨fun hm=>?_,fun e=>?_⟩
   ·rw[cH.2 hm] at this;exact vv this.1.1 (by simp)
   ·subst e;simp at this
  have hslot:∀k∈ks,∃g t cs,L6.get k=some (.box g t cs)/\a'.tmps.getD k undef=.pointer (some ⟨g,0,none⟩):=by
   intro k hk;obtain⟨i,hi⟩:=abh.1 hk;have hlt:i<(out v).length:=by
    have:=(aaU.1 hi).1;have hl2:ks.length=ns.length:=by rw[<-sl];exact wC q2
    rw[hout v hp];omega
   obtain⟨g,t,e1,cs',e2⟩:=hget i k _ hi (aaQ hlt);refine⟨g,t+1,_,e1,?_⟩;obtain⟨y1,y2⟩:=hkd' k hk;rw[g5 k y1];have:=he3.eq k;rw[this,put_eq];simp only[];rw[q9 y2,hown k hk];simp only[conc];obtain⟨g0,t0,cs0,e0⟩:=he1.own k k 0 (hown k hk);obtain⟨cs1,e3⟩:=kp k g0 t0 (hGL k g0 t0 cs0 (.inr hk) e0);rw[e2] at e3;injection e3 with e3
   injection e3 with x1 x2 _
   subst x1;rw[e0]
  have he6:aA L6 ρ6 a':=by
   refine⟨fun j=>?_,fun j k off e=>?_,fun j ad i e=>?_⟩
   ·simp only[ρ6];cases hm:eZ ks j with
    | false=>rfl
    | true =>
     obtain⟨g,t,cs,e1,e2⟩:=hslot j (cH.1 hm);rw[e2];simp only[conc,e1]
   ·simp only[ρ6] at e;cases hm:eZ ks j with
    | false=>rw[hm] at e;cases e
    | true =>
     rw[hm] at e;injection e with x1 x2
     subst x1;obtain⟨g,t,cs,e1,_⟩:=hslot j (cH.1 hm);exact⟨g,t,cs,e1⟩
   ·simp only[ρ6] at e;cases hm:eZ ks j<;>rw[hm] at e<;>cases e
  obtain⟨c,x,hrv,hrel,hlost⟩:=hcat v hp;obtain⟨us,h5,h6⟩:=Dv (K:=fun vs=>fM vs=x) c1 he6 hres (hrv L6 ρ6 fun i k cs e1 e2=>by
   obtain⟨g,t,e3,_⟩:=hget i k cs e1 e2;refine⟨?_,g,t,e3⟩;simp only[ρ6,cH.2 (aaZ e1)])
  have hst:Step F (inp Li) w F6 L6 w6:=(hst1.trans g2).trans c2;obtain⟨Lo,p1,p2,p3,p4⟩:=r9 c1 hst (fun i g t cs e=>by
   have e0:(inp Li).get (1000+i)=some (.box g t cs):=by rw[aF,o5 (by omega),show 1000+i-1000=i by omega];exact e
   obtain⟨cs1,e1⟩:=kp (1000+i) g t (hGI _ g t cs e0);refine⟨cs1,?_⟩;rw[<-hL6];have hni:1000+i∉ks:=by
    intro hm;have:=aa1.1 hkd _ hm;simp only[aaN] at this;have:=this.2;rw[Nat.blt_eq] at this;omega
   rcases cL ks (List.zipWith pz bs' (out v)) (L'.aae ks) (1000+i) hnd hkl with⟨q1,q2⟩ | ⟨i',q1,q2,q3⟩
   ·rw[q1,eO,q9 hni];exact e1
   ·exact vv (aaZ q1) hni)
  obtain⟨Mo,Lo',l1,l2,l3,l4,l5,l6⟩:=Rf hnm hlL htl p1 p2 p3 p4;refine⟨_,h5,hRR _ F6 Lo' w6 l1 l2 ⟨Mo,c,l4,l5,?_,l6,hlost Mo l3⟩⟩;rw[h6];exact hrel _ _
def tmpsOf:List Operand->Option (List Nat)
 | []=>some []
 | .tmp k::l=>match tmpsOf l with | some ks=>some (k::ks) | none=>none
 | _::_=>none
theorem AL:∀{l:List Operand}{ks:List Nat},tmpsOf l=some ks->l=ks.map Operand.tmp
 | [],ks,h=>by simp only[tmpsOf,aaO] at h;subst h;rfl
 | o::l,ks,h=>by
  cases o<;>simp only[tmpsOf,reduceCtorEq] at h;split at h
  case h_2=>cases h
  rename_i a e;injection h with h
  subst h;rw[AL e];rfl
def BQ (op:Op) (d:Nat):Bool :=
 match op with
 | .defer c=>match c.callee,c.args.toList,c.argTypes.toList with
  | .value (.tmp a),[],[]=>Nat.beq d a
  | _,_,_=>false
 | _=>false
theorem EX {op:Op}{d:Nat}(h:BQ op d=true):op=.defer {callee:=.value (.tmp d),args:=#[],argTypes:=#[]}:=by
 unfold BQ at h;split at h
 case h_2=>cases h
 rename_i c;split at h
 case h_2=>cases h
 rename_i l h1 e b;have:=aaR h;subst this;obtain⟨m,f,a⟩:=c;simp only at h1 e b;subst h1;have k:f=#[]:=by apply Array.ext';exact e
 have j:a=#[]:=by apply Array.ext';exact b
 rw[k,j]
def BR (P:Program) (A:dc) (fn:Func):Option (ay×ay×Nat×List Nat×Nat×List RV) :=
 match fn.body with
 | some (.seq c0 (.seq (.region _ ⟨[o1,o2]⟩ false) rest))=>match o1.op,o1.dst,o1.guard with
  | .makeFunc (.func H) ⟨[]⟩ ca,some d,none=>match BQ o2.op d,o2.dst,o2.guard,tmpsOf ca.toList with
   | true,none,none,some ks=>match low P A c0,low P A rest,mL P fn.results.toList with
    | some sc0,some sc,some rs=>match fn.name == "runtime.NumGoroutine",Nat.beq fn.ntmps A.n&&Nat.blt d A.n&&aP ks,ks.all fun k=>!(eZ (dJ rest) k)&&!(Nat.beq k d)&&Nat.blt k 1000 with
     | false,true,true=>some (sc0,sc,H,ks,d,rs)
     | _,_,_=>none
    | _,_,_=>none
   | _,_,_,_=>none
  | _,_,_=>none
 | _=>none
theorem gu {P:Program}{f H d:Nat}{fn:Func}{A:dc}{m sc:ay}{rs:List RV}{ks ns:List Nat}{args:List C}{Lin:List TO}{R:List TO->C->Prop}{PS:Value->Prop}{out:Value->List (List Value)}
  (hf:P.funcs[f]?=some fn) (a:BR P A fn=some (m,sc,H,ks,d,rs)) (hH:nN P H PS ns out)
  (q:∀v,PS v->(out v).length=ns.length) (j:Nat.ble args.length A.n=true) (y:AK Lin=true)
  (e:∀v,PS v->∃c x,(∀(L:Loc) (ρ:Env),(∀(i:Nat) k cs,ks[i]?=some k->(out v)[i]?=some cs->ρ k=.own k 0/\∃g t,L.get k=some (.box g (t+1) cs))->mZ L ρ rs (fun l=>fM l=x))/\(∀F L,Rel F L c x)/\∀Mo,AJ Lin Mo->R Mo c)
  (h:uq args->(∀o∈Lin,o.Wf)->evalTC P ⟨fun _=>False,[],none⟩ m (fun _ _ _=>False) (fun _ _=>False) (fun M τ=>yc M τ ks ns=true /\
   evalTC P ⟨PS,ks.zip ns,none⟩ sc (fun _ _ _=>False) (fun L ρ=>gF L ρ rs fun l=>fZ Lin L (gD l) R) (fun L ρ=>gF L ρ rs fun l=>fZ Lin L (gD l) R) M (bq (some d) .any τ)) (cC Lin) (jN 0 args)) :
  CallsT P f args Lin R:=by
 unfold BR at a;split at a
 case h_2=>cases a
 rename_i c0 r o1 o2 ae hb;split at a
 case h_2=>cases a
 rename_i H' ca d' e1 e2 e3;split at a
 case h_2=>cases a
 rename_i u e4 e5 e6 e7;split at a
 case h_2=>cases a
 rename_i ad al aE e8 e9 aa;split at a
 case h_2=>cases a
 rename_i w b ab;simp only[aaO,Prod.mk.injEq] at a;obtain⟨rfl,rfl,rfl,rfl,rfl,rfl⟩:=a;simp only[aaN] at b;obtain⟨⟨b,p⟩,s⟩:=b;have z:ca=(u.map Operand.tmp).toArray:=by
  have:=AL e7;rw[<-this]
 rw[z] at e1;rw[Nat.blt_eq] at p;exact BP hf hb w (aaR b) e1 e2 e3 (EX e4) e5 e6 e8 e9 aa hH p s ab q j y e h
end Go.Fr.T
namespace Go.Fr
open Go Go.RowKit
section
variable {P:Program}{Q:Exit->Act->World->Prop}{K:di}
theorem noPan {n:Nat}{F:au}{L:Loc}{w:World}{a:Act}{asg:List Nat}{E:Nat->di}{R N:di}{c} {a':Act}{w':World}(h:QQ n F L w a asg (fun _ _ _=>False) E R N (.panic c) a' w'):False:=by
 obtain⟨v,_,F',L',_,_,_,_,_,h⟩:=h;exact h
theorem zF {A:dc}{r:Nat}{c:Array Oper}:∀(is:List Nat) {ss:List ai}{F:au}{L:Loc}{ρ:Env}{a:Act}{w:World},pO P A r c is=some ss->St F L w->aA L ρ a->a.tmps.size=A.n ->
  aQ P ss F L ρ K->(∀a' w',dZ A.n F L w a (dstsOf c is) K a' w'->Q .normal a' w')->wpOps P c Q is a w:=by
 intro is
 induction is with
 | nil =>
  intro ss F L ρ a w hl hs he hn l hQ;simp only[pO,aaO] at hl;subst hl;exact hQ a w ⟨F,L,ρ,hs,he,hn,rfl,Step.refl _ _ _,fun _ _=>rfl,l⟩
 | cons i is ih =>
  intro ss F L ρ a w hl hs he hn l hQ;simp only[pO] at hl;split at hl
  case h_1=>cases hl
  rename_i o hi;split at hl
  case h_2=>cases hl
  rename_i g s y hg bl ao ag;injection hl with hl
  subst hl
  -- the t
  have t:∀(ks:List Nat) {F:au}{L:Loc}{ρ:Env},St F L w->aA L ρ a->aQ P (ks.map ai.frz++mT (vo A.pan r i) o.dst s g::y) F L ρ K ->
    ∃F' L' ρ',St F' L' w/\aA L' ρ' a/\Step F L w F' L' w/\aQ P (mT (vo A.pan r i) o.dst s g::y) F' L' ρ' K:=by
   intro ks
   induction ks with
   | nil=>intro F L ρ hs he h;exact⟨F,L,ρ,hs,he,Step.refl _ _ _,h⟩
   | cons k ks bc =>
    intro F L ρ hs he h;simp only[aa0,aa4,aQ] at h;split at h
    ·rename_i g' t' cs' hk;obtain⟨F1,bt,bz,z,q,m⟩:=rP hs he hk;obtain⟨F2,L2,bb,az,aE,am,h2⟩:=bc z q (h F1 bt bz);exact⟨F2,L2,bb,az,aE,m.trans am,h2⟩
    ·obtain⟨F1,L1,z,q,m,h1⟩:=qI hs he h;obtain⟨F2,L2,bb,az,aE,am,h2⟩:=bc z q h1;exact⟨F2,L2,bb,az,aE,m.trans am,h2⟩
  obtain⟨F1,L1,be,z,q,m,l⟩:=t _ hs he l
  clear t
  have bu:vo A.pan r i=false:=by
   cases hb:vo A.pan r i with
   | false=>rfl
   | true=>rw[hb] at l;simp only[mT,aQ] at l
  rw[bu] at l;simp only[mT] at l
  clear he
  have he:=q;have hd:∀k,o.dst=some k->k<a.tmps.size:=by
   intro k hk;rw[hk] at ao;rw[hn];have h2:Nat.blt k A.n=true:=ao;simpa using h2
  have av:dstsOf c (i::is)=match o.dst with | some d=>d::dstsOf c is | none=>dstsOf c is:=by
   simp only[dstsOf,hi,Option.bind_some];cases o.dst<;>rfl
  have ac:∀j,j∉dstsOf c (i::is)->o.dst≠some j/\j∉dstsOf c is:=by
   intro j hj;rw[av] at hj;cases ho:o.dst with
   | none=>rw[ho] at hj;exact⟨by simp,hj⟩
   | some d =>
    rw[ho] at hj;simp only[aaW,not_or] at hj;exact⟨by simp;exact fun e=>hj.1 e.symm,hj.2⟩
  have ad:evalOp P s o.dst F1 L1 be (fun F' L' ρ'=>aQ P y F' L' ρ' K)->o.wp P a w (wpOps P c Q is) Q:=by
   intro l;have:=fe (Q:=Q) z q hd bl l;refine Oper.wp_mono ?_ (pQ (asg:=[]) this);rintro a' w' ⟨⟨F',L',ρ',g1,g2,g3,g4,g5,g6⟩,bo⟩;refine ih ag g1 g2 (by rw[g3,hn]) g6 ?_;rintro aw ba ⟨F'',L'',aa,k1,k2,k3,k4,k5,k6,k7⟩;refine hQ aw ba ⟨F'',L'',aa,k1,k2,k3,k4.trans g4,(m.trans g5).trans k5,fun j hj=>?_,k7⟩;obtain⟨n1,n2⟩:=ac j hj;rw[k6 j n2,bo j n1]
  have skip:aQ P y F1 L1 (put o.dst (.v undef) be) K->wpOps P c Q is (a.put o.dst undef) w:=by
   intro l;refine ih ag z (q.put hd (v:=undef) (x:=.v undef) rfl cq eJ (sQ L1)) (by rw[jx,hn]) l ?_;rintro aw ba ⟨F'',L'',aa,k1,k2,k3,k4,k5,k6,k7⟩;refine hQ aw ba ⟨F'',L'',aa,k1,k2,k3,k4.trans (gj _ _ _),m.trans k5,fun j hj=>?_,k7⟩;obtain⟨n1,n2⟩:=ac j hj;rw[k6 j n2,jZ n1]
  simp only[wpOps,hi];cases al:o.guard with
  | none =>
   rw[al] at hg;simp only[gX,aaO] at hg;subst hg;simp only[aQ] at l;rw[o5 (by simp[Region.wanted,al])];exact .inl (ad l)
  | some p =>
   obtain⟨j,u⟩:=p;rw[al] at hg;simp only[gX] at hg;split at hg
   case h_2=>cases hg
   rename_i d bi;injection hg with hg
   subst hg;simp only[aQ] at l;split at l
   ·rename_i b hb;have f:=q.eq d;rw[hb] at f;have hy:yielded c a.tmps j=some b:=by
     simp only[yielded,bi,Option.bind_some,qJ f]
    have hw:Region.wanted o (yielded c a.tmps)=(b == u):=by
     simp only[Region.wanted,al,hy];cases b<;>cases u<;>rfl
    rw[hw];cases b<;>simp only[zq] at l
    ·rw[kG hb] at l;cases u
     ·exact .inl (ad l)
     ·exact skip l
    ·rw[kG hb] at l;cases u
     ·exact skip l
     ·exact .inl (ad l)
   ·rename_i vs hb;have f:=q.eq d;rw[hb] at f;have hy:yielded c a.tmps j=none:=by
     simp only[yielded,bi,Option.bind_some];rw[aa8] at f;cases e:a.tmps[d]? with
     | none=>rfl
     | some v=>rw[e] at f;simp only[Option.getD_some,conc] at f;rw[f]
    have hw:Region.wanted o (yielded c a.tmps)=false:=by
     simp only[Region.wanted,al,hy];rfl
    rw[hw];exact skip l
   ·exact l.elim
theorem BS {a:Act}{w:World}{d:List ai}{K:di}:∀(ks:List Nat) {F:au}{L:Loc}{ρ:Env},St F L w->aA L ρ a->aQ P (ks.map ai.frz++d) F L ρ K ->
  ∃F' L' ρ',St F' L' w/\aA L' ρ' a/\Step F L w F' L' w/\aQ P d F' L' ρ' K:=by
 intro ks
 induction ks with
 | nil=>intro F L ρ o he h;exact⟨F,L,ρ,o,he,Step.refl _ _ _,h⟩
 | cons k ks n =>
  intro F L ρ o he h;simp only[aa0,aa4,aQ] at h;split at h
  ·rename_i u t cs' s;obtain⟨F1,p,q,f,m,c⟩:=rP o he s;obtain⟨F2,L2,l,j,e,b,r⟩:=n f m (h F1 p q);exact⟨F2,L2,l,j,e,c.trans b,r⟩
  ·obtain⟨F1,L1,f,m,c,h1⟩:=qI o he h;obtain⟨F2,L2,l,j,e,b,r⟩:=n f m h1;exact⟨F2,L2,l,j,e,c.trans b,r⟩
theorem EY {ss:List ai}{E:Nat->di}{R N:di}{F:au}{L:Loc}{ρ:Env}{a:Act}{w:World}:∀(ks:List Nat),St F L w->aA L ρ a->jo P (EF ks (.regD ss)) E R N F L ρ ->
  ∃F' L' ρ',St F' L' w/\aA L' ρ' a/\Step F L w F' L' w/\aQ P ss F' L' ρ' N
 | [],b,he,h=>⟨F,L,ρ,b,he,Step.refl _ _ _,by simpa only[EF,jo] using h⟩
 | k::l,b,he,h=>by
  simp only[EF,jo] at h;have j:aQ P ((k::l).map ai.frz++[]) F L ρ (fun F L ρ=>aQ P ss F L ρ N):=by simpa only[aa0,abo] using h
  obtain⟨F1,L1,c,h1,f,e,d⟩:=BS (k::l) b he j;simp only[aQ] at d;exact⟨F1,L1,c,h1,f,e,d⟩
theorem qh {A:dc}:∀(c:Code) {z:ay},low P A c=some z->∀{E:Nat->di}{R N:di}{F:au}{L:Loc}{ρ:Env}{a:Act}{w:World},St F L w->aA L ρ a->a.tmps.size=A.n ->
  jo P z E R N F L ρ->c.wp P (QQ A.n F L w a (dJ c) (fun _ _ _=>False) E R N) a w:=by
 intro c
 induction c with
 | skip =>
  intro z b E R N F L ρ a w p he o m;simp only[low,aaO] at b;subst b;exact wp_skip ⟨F,L,ρ,p,he,o,rfl,Step.refl _ _ _,fun _ _=>rfl,m⟩
 | label l =>
  intro z b E R N F L ρ a w p he o m;simp only[low,aaO] at b;subst b;exact wp_label ⟨F,L,ρ,p,he,o,rfl,Step.refl _ _ _,fun _ _=>rfl,m⟩
 | exit id =>
  intro z b E R N F L ρ a w p he o m;simp only[low,aaO] at b;subst b;exact wp_exit ⟨F,L,ρ,p,he,o,rfl,Step.refl _ _ _,fun _ _=>rfl,m⟩
 | ret =>
  intro z b E R N F L ρ a w p he o m;simp only[low,aaO] at b;subst b;exact wp_ret ⟨F,L,ρ,p,he,o,rfl,Step.refl _ _ _,fun _ _=>rfl,m⟩
 | region r db bj =>
  intro z b E R N F L ρ a w p he o m;cases bj with
  | false =>
   simp only[low] at b;split at b
   case h_2=>cases b
   rename_i ss cb;injection b with b;subst b
   simp only[jo] at m;exact wp_region (zF _ cb p he o m fun a' w' h=>h)
  | true =>
   simp only[low] at b;split at b
   case h_2=>cases b
   rename_i is cl ss h1 q;split at b
   case h_2 =>
    split at b
    case h_2=>cases b
    injection b with b;subst b
    simp only[jo] at m
   rename_i h0;split at b
   case h_2=>cases b
   rename_i h3;injection b with b;subst b
   obtain⟨F1,L1,aa,aw,az,s,m⟩:=EY _ p he m;have h4:CV A.ord r=is:=by simp only[CV,h1]
   rw[h4] at q;exact xg q h3 aw az o m fun a' w' h=>dZ.after (asg1:=[]) s rfl (fun _ _=>rfl) h (fun _ h=>vv h List.not_mem_nil) (fun _ h=>h)
 | seq x y al ag =>
  intro z b E R N F L ρ a w p he o m;simp only[low] at b;split at b
  case h_2=>cases b
  rename_i h1 q;injection b with b;subst b
  simp only[jo] at m;refine wp_seq (wp_mono (al h1 p he o m) ?_);intro e a1 w1 d;cases e with
  | normal =>
   obtain⟨F1,L1,aa,g1,g2,g3,g4,g5,g6,g7⟩:=d;refine wp_mono (ag q g1 g2 g3 g7) ?_;intro e2 a2 w2 ar;cases e2<;>first
    | exact dZ.after g5 g4 g6 ar (fun j h=>aaX.2 (.inl h)) (fun j h=>aaX.2 (.inr h))
    | exact ar
    | exact(noPan ar).elim
  | exit id=>exact d.mono fun j h=>aaX.2 (.inl h)
  | ret=>exact d.mono fun j h=>aaX.2 (.inl h)
  | goto l=>exact d
  | panic c=>exact(noPan d).elim
  | outgrown=>exact d
 | cond c x y al ag =>
  intro z b E R N F L ρ a w p he o m;simp only[low] at b;split at b
  case h_2=>cases b
  rename_i h0 h1 q;injection b with b;subst b
  simp only[jo] at m;split at m
  case h_2=>exact m.elim
  rename_i t ht;have hc:a.eval c=.bool t:=by rw[aD h0 he,cG ht]
  refine wp_cond hc ?_;cases t
  ·simp only[zq] at m;refine wp_mono (ag q p he o m) ?_;intro e a1 w1 d;cases e<;>first
    | exact d.mono fun j h=>aaX.2 (.inr h)
    | exact(noPan d).elim
    | exact d
  ·simp only[zq] at m;refine wp_mono (al h1 p he o m) ?_;intro e a1 w1 d;cases e<;>first
    | exact d.mono fun j h=>aaX.2 (.inl h)
    | exact(noPan d).elim
    | exact d
 | block id x ih =>
  intro z b E R N F L ρ a w p he o m;simp only[low] at b;split at b
  case h_2=>cases b
  rename_i h1;injection b with b;subst b
  simp only[jo] at m;refine wp_block (wp_mono (ih h1 p he o m) ?_);intro e a1 w1 d;cases e with
  | exit j =>
   simp only[Exit.inBlock];simp only[QQ] at d
   by_cases hj:j=id
   ·subst hj;have hb:Nat.beq j j=true:=by simp
    rw[hb] at d;rw[o5 rfl];exact d
   ·have hb:Nat.beq j id=false:=by
     cases h:Nat.beq j id with
     | true=>exact vv (aaR h) hj
     | false=>rfl
    rw[hb] at d;rw[q9 hj];exact d
  | normal=>exact d
  | ret=>exact d
  | goto l=>exact d
  | panic c=>exact(noPan d).elim
  | outgrown=>exact d
 | loop x ih =>
  intro z b E R N F L ρ a w p he o m;simp only[low] at b;split at b
  case h_2=>cases b
  rename_i sx h1;injection b with b;subst b
  simp only[jo] at m;obtain⟨σ,x0,Inv,ls,lv,Lf,μ,i0,i1,i2,i3,i4⟩:=m
  -- the frame at a loop's ac
  have ac:∀(y:σ) (F1:au) (L1:Loc) (aa:Env) (a1:Act) (w1:World),(∀t,a1.tmps.getD t undef=conc L1 (aa t))->(∀j,j∉dJ x->a1.tmps.getD j undef=a.tmps.getD j undef)->holds ls ((lv y).map .v) aa ->
    aA (Lf y) (puts ls ((lv y).map .v) (pH (dJ x) (fun j=>a1.tmps.getD j undef) ρ)) a1:=by
   intro y F1 L1 aa a1 w1 bz bs hh;have bi:∀j k off,pH (dJ x) (fun j=>a1.tmps.getD j undef) ρ j=.own k off->j∉dJ x/\ρ j=.own k off:=by
    intro j k off e;simp only[pH] at e;split at e
    ·cases e
    ·rename_i hm;exact⟨fun h=>(by rw[cH.2 h] at hm;cases hm),e⟩
   have bo:∀j ad i,pH (dJ x) (fun j=>a1.tmps.getD j undef) ρ j=.el ad i->ρ j=.el ad i:=by
    intro j ad i e;simp only[pH] at e;split at e
    ·cases e
    ·exact e
   refine⟨fun j=>?_,fun j k off e=>?_,fun j ad i e=>?_⟩
   ·rcases wU ls (lv y) aa (pH (dJ x) (fun j=>a1.tmps.getD j undef) ρ) bz hh j with⟨v,q,h3⟩ | q
    ·rw[q,h3];rfl
    ·rw[q];simp only[pH];split
     ·rfl
     ·rename_i hm;have hj:j∉dJ x:=fun h=>by rw[cH.2 h] at hm;cases hm
      rw[bs j hj,he.eq j];cases e:ρ j with
      | v u=>rfl
      | el u i=>rfl
      | own k off =>
       obtain⟨g,ty,cs,hg⟩:=he.own j k off e;obtain⟨cs',av⟩:=qK (i3 y) hg;simp only[conc,hg,av]
   ·rcases ol ls (lv y) (pH (dJ x) (fun j=>a1.tmps.getD j undef) ρ) j with q | ⟨v,q⟩
    ·rw[q] at e;obtain⟨_,e'⟩:=bi j k off e;obtain⟨g,ty,cs,hg⟩:=he.own j k off e';obtain⟨cs',av⟩:=qK (i3 y) hg;exact⟨g,ty,cs',av⟩
    ·rw[q] at e;cases e
   ·rcases ol ls (lv y) (pH (dJ x) (fun j=>a1.tmps.getD j undef) ρ) j with q | ⟨v,q⟩
    ·rw[q] at e;exact he.el j ad i (bo j ad i e)
    ·rw[q] at e;cases e
  refine uy (fun n a1 w1=>∃(y:σ) (F1:au),n=μ y/\F.le F1/\Inv y F1/\St F1 (Lf y) w1/\a1.tmps.size=A.n/\a1.defers=a.defers/\Step F L w F1 (Lf y) w1/\(∀j,j∉dJ x->a1.tmps.getD j undef=a.tmps.getD j undef) /\
   aA (Lf y) (puts ls ((lv y).map .v) (pH (dJ x) (fun j=>a1.tmps.getD j undef) ρ)) a1) ?_ ?_
  ·exact⟨_,x0,F,rfl,au.le_refl F,i0,p.gives i2,o,rfl,rQ i2,fun _ _=>rfl,ac x0 F L ρ a w he.eq (fun _ _=>rfl) i1⟩
  ·rintro n a1 w1 ⟨y,F1,rfl,bd,bc,aw,ch,ao,s,ab,az⟩;refine wp_mono (ih h1 aw az ch (i4 y F1 _ bd bc)) ?_;intro e a2 w2 d;cases e with
   | normal =>
    obtain⟨F2,L2,ce,g1,g2,g3,g4,g5,g6,⟨y',k1,k2,k3,k4⟩⟩:=d;have an:∀j,j∉dJ x->a2.tmps.getD j undef=a.tmps.getD j undef:=fun j hj=>by rw[g6 j hj,ab j hj]
    exact⟨μ y',k4,y',F2,rfl,au.le_trans bd g5.le,k1,g1.gives k3,g3,g4.trans ao,(s.trans g5).trans (rQ k3),an,ac y' F2 L2 ce a2 w2 g2.eq an k2⟩
   | exit j=>exact dZ.after s ao ab d (fun j h=>h) (fun j h=>h)
   | ret=>exact dZ.after s ao ab d (fun j h=>h) (fun j h=>h)
   | goto l=>exact d
   | panic c=>exact(noPan d).elim
   | outgrown=>exact d
 | rangeFunc f ps x y al ag=>intro z b;simp only[low] at b;cases b
 | scope x ih =>
  intro z b E R N F L ρ a w p he o m;simp only[low] at b;refine wp_scope_straight (wp_mono (ih b p he o m) ?_);intro e a1 w1 d;cases e<;>exact d
 | goto l=>intro z b;simp only[low] at b;cases b
 | refuse cz=>intro z b;simp only[low] at b;cases b
end
end Go.Fr
namespace Go.Fr.T
open Go Go.RowKit Go.Fr
theorem Kc:∀{a:List Own}{ns:List Nat}{i:Nat}{o:Own},CF a ns->a[i]?=some o->∃g t cs,o=.box g t cs
 | [],ns,i,o,h,e=>by simp at e
 | b::a,[],i,o,h,e=>h.elim
 | b::a,n::ns,i,o,h,e=>by
  cases i with
  | zero =>
   simp only[aa6,aaO] at e;subst e;cases b with
   | row=>exact h.1.elim
   | box g t cs=>exact⟨g,t,cs,rfl⟩
  | succ i=>exact Kc h.2 (by simpa using e)
def HZ (n:Nat):Env:=fun j=>match Nat.blt j n with | true=>.own (1000+j) 0 | false=>.v undef
theorem Nr {a:List Own}{ns:List Nat}{m:Nat}(h:CF a ns):aA (inp a) (HZ a.length) {tmps:=(a.map lB).toArray++Array.replicate m undef,defers:=[]}:=by
 have f:∀j,j<a.length->∃g t cs,a[j]?=some (.box g t cs):=fun j d=>by
  obtain⟨g,t,cs,e⟩:=Kc h (aaQ d);exact⟨g,t,cs,by rw[aaQ d,e]⟩
 have hi:∀j,(inp a).get (1000+j)=a[j]?:=fun j=>by rw[aF,o5 (by omega),show 1000+j-1000=j by omega]
 refine⟨fun j=>?_,fun j k off e=>?_,fun j l i e=>?_⟩
 ·simp only[HZ,aa8];cases hb:Nat.blt j a.length with
  | true =>
   have b:j<a.length:=by simpa using hb
   obtain⟨g,t,cs,e⟩:=f j b;rw[Array.getElem?_append_left (by simpa using b)];simp only[conc,hi,e,List.getElem?_toArray,aa9,abq,Option.getD_some,lB]
  | false =>
   have c:¬j<a.length:=fun h=>by rw[(Nat.blt_eq ..).mpr h] at hb;cases hb
   rw[Array.getElem?_append_right (by simpa using c)];simp only[Array.getElem?_replicate,conc];split<;>rfl
 ·simp only[HZ] at e;split at e
  ·rename_i hb;have b:j<a.length:=by simpa using hb
   injection e with e1 e2
   subst e1;obtain⟨g,t,cs,e⟩:=f j b;exact⟨g,t,cs,by rw[hi,e]⟩
  ·cases e
 ·simp only[HZ] at e;split at e<;>cases e
theorem Ke {P:Program}{H d r0:Nat}{fn:Func}{o:Oper}{rest:Code}{A:dc}{sc:ay}{PS:Value->Prop}{ns:List Nat}{out:Value->List (List Value)}
  (hf:P.funcs[H]?=some fn) (hb:fn.body=some (.seq (.region r0 #[o] false) rest)) (hname:(fn.name == "runtime.NumGoroutine")=false) (ho:o.op=.call {callee:=.builtin .recover,args:=#[],argTypes:=#[]}) (hd:o.dst=some d) (hg:o.guard=none)
  (hnt:fn.ntmps=A.n) (hres:fn.results=#[]) (hl:low P A rest=some sc) (hdn:d<A.n) (hns:ns.length<=A.n)
  (hidle:∀(bs:List Own) (w:World),CF bs ns->CallsD P H (bs.map lB).toArray .returning w fun e u' w'=>e=.returned (.tuple #[])/\u'=.returning/\w'=w)
  (hcat:∀(F:au) (bs:List Own) (v:Value),PS v->CF bs ns->jo P sc (fun _ _ _ _=>False) (fun _ L' _=>L'.sub (List.range' 1000 bs.length)=some (List.zipWith pz bs (out v))) (fun _ L' _=>L'.sub (List.range' 1000 bs.length)=some (List.zipWith pz bs (out v))) F (inp bs) (put (some d) (.v v) (HZ bs.length))) :
  nN P H PS ns out:=by
 refine⟨fun cap w=>?_,hidle,fun F bs v older w hv hbx hs=>?_⟩
 ·simp[invoke];rw[iz ⟨fn,hf,by rw[hb];rfl,hname⟩]
 refine callsD_of_wpS hf hb fun c₀ cs hu=>?_;have hlen:=wC hbx;have he0:=Nr (m:=fn.ntmps-(bs.map lB).toArray.size) hbx;generalize htm:(bs.map lB).toArray++Array.replicate (fn.ntmps-(bs.map lB).toArray.size) undef=tm at he0 ⊢;have hsz:tm.size=A.n:=by
  rw[<-htm,<-hnt];simp;omega
 refine wpS_seq (wpS_region ?_);simp[wpOpsS,go_sem,recoverD,hu,ho,hd,hg,Region.wanted,Exit.thenS,hsz,hdn];have he1:=he0.put (L':=inp bs) (d:=some d) (v:=v) (x:=.v v) (fun k e=>by injection e with e;subst e;simpa[hsz] using hdn) rfl cq eJ (fun k g ty cs e=>⟨cs,e⟩);refine wpS_of_wp (wp_mono (qh rest hl hs ⟨he1.eq,he1.own,he1.el⟩ (by simpa using hsz) (hcat F bs v hv hbx)) ?_);have fin:∀(a':Act) (w':World),dZ A.n F (inp bs) w {tmps:=tm.setIfInBounds d v,defers:=[]} (dJ rest) (fun _ L' _=>L'.sub (List.range' 1000 bs.length)=some (List.zipWith pz bs (out v))) a' w' ->
   a'.defers=[]/\∃u',({c₀ with mode:=FrameMode.panicking ({v,recovered:=true}::older)}::cs:List Frame)={c₀ with mode:=u'}::cs/\∃x,(results fn a'.tmps).run P w'=.ok x w' /\
    ((Ending.returned x=.returned (.tuple #[])/\u'=.panicking ({v,recovered:=true}::older))/\∃F',St F' (inp (List.zipWith pz bs (out v))) w'/\Step F (inp bs) w F' (inp (List.zipWith pz bs (out v))) w'):=by
  rintro a' w' ⟨F',L',ρ',g1,g2,g3,g4,g5,g6,k1⟩;obtain⟨e1,e2⟩:=ct k1;refine⟨g4,_,rfl,.tuple #[],by simp[results,hres],⟨rfl,rfl⟩,F',g1.handed k1 List.nodup_range',?_⟩;refine⟨g5.le,g5.os,g5.tape,g5.output,g5.size,g5.same,g5.frz,fun b hb=>g5.own b ?_⟩;obtain⟨j,p,e,hb⟩:=hb;rw[aF] at e;split at e
  case isFalse=>cases e
  have hlt:j-1000<(List.zipWith pz bs (out v)).length:=(aaU.1 e).1;have hk:(List.range' 1000 bs.length)[j-1000]?=some ((List.range' 1000 bs.length)[j-1000]'(by omega)):=aaQ (by omega);exact⟨_,p,by rw[e2 _ _ hk];exact e,hb⟩
 intro e a' w' hq;cases e with
 | normal =>
  obtain⟨k1,u',k2,x,k3,⟨k4,k5⟩,k6⟩:=fin a' w' hq;exact⟨k1,u',k2,x,k3,k4,k5,k6⟩
 | ret =>
  obtain⟨k1,u',k2,x,k3,⟨k4,k5⟩,k6⟩:=fin a' w' hq;exact⟨k1,u',k2,x,k3,k4,k5,k6⟩
 | exit j=>obtain⟨F',L',ρ',_,_,_,_,_,_,h⟩:=hq;exact h.elim
 | goto l=>exact hq.elim
 | outgrown=>exact hq.elim
 | panic ch=>obtain⟨v,hch,hp⟩:=hq;obtain⟨F',L',_,_,_,_,_,hp⟩:=hp;exact hp.elim
def P6:Op->Bool
 | .call {callee:=.builtin .recover,args:=⟨[]⟩,argTypes:=⟨[]⟩}=>true
 | _=>false
def BU (P:Program) (A:dc) (fn:Func):Option (ay×Nat) :=
 match fn.body with
 | some (.seq (.region _ ⟨[o]⟩ false) rest)=>match P6 o.op,o.dst,o.guard,low P A rest,fn.results with
  | true,some d,none,some sc,⟨[]⟩=>match fn.name == "runtime.NumGoroutine",Nat.beq fn.ntmps A.n&&Nat.blt d A.n with
   | false,true=>some (sc,d)
   | _,_=>none
  | _,_,_,_,_=>none
 | _=>none
theorem vE {P:Program}{H d:Nat}{fn:Func}{A:dc}{k:ay}{PS:Value->Prop}{ns:List Nat}{out:Value->List (List Value)}(hf:P.funcs[H]?=some fn) (a:BU P A fn=some (k,d)) (j:Nat.ble ns.length A.n=true)
  (c:∀(b:List Own) (w:World),CF b ns->CallsD P H (b.map lB).toArray .returning w fun e y w'=>e=.returned (.tuple #[])/\y=.returning/\w'=w)
  (f:∀(F:au) (b:List Own) (v:Value),PS v->CF b ns->jo P k (fun _ _ _ _=>False) (fun _ L' _=>L'.sub (List.range' 1000 b.length)=some (List.zipWith pz b (out v))) (fun _ L' _=>L'.sub (List.range' 1000 b.length)=some (List.zipWith pz b (out v))) F (inp b) (put (some d) (.v v) (HZ b.length))) :
  nN P H PS ns out:=by
 unfold BU at a;split at a
 case h_2=>cases a
 rename_i r o l hb;split at a
 case h_2=>cases a
 rename_i d' m h1 x p z q;split at a
 case h_2=>cases a
 rename_i s h;simp only[aaO,Prod.mk.injEq] at a;obtain⟨rfl,rfl⟩:=a;simp only[aaN] at h;obtain⟨h,t⟩:=h;have u:o.op=.call {callee:=.builtin .recover,args:=#[],argTypes:=#[]}:=by
  unfold P6 at h1;split at h1
  ·assumption
  ·cases h1
 exact Ke hf hb s u x p (aaR h) q z (by simpa using t) (abb j) c f
end Go.Fr.T
namespace Go.Fr
open Go Go.RowKit
mutual
def G.bulk:G->Nat
 | .int _ _=>1
 | .bool _=>1
 | .str s=>s.size+1
 | .sl _ l=>G.aai l+1
 | .st l=>G.aai l+1
def G.aai:List G->Nat
 | []=>0
 | x::l=>G.bulk x+G.aai l
end
mutual
def ig {H:Type}:DataW H->Nat
 | .lit (.string bytes)=>bytes.length+1
 | .lit _=>1
 | .nil=>1
 | .ptr d=>ig d+1
 | .slice elems spare=>d9 elems+d9 spare+1
 | .agg parts=>d9 parts+1
 | .iface _ d=>ig d+1
 | .map entries=>lD entries+1
 | .held _=>1
def d9 {H:Type}:List (DataW H)->Nat
 | []=>0
 | d::r=>ig d+d9 r
def lD {H:Type}:List (Lit×DataW H)->Nat
 | []=>0
 | x::r=>sj x+lD r
def sj {H:Type}:Lit×DataW H->Nat
 | (.string bytes,d)=>bytes.length+ig d+1
 | (_,d)=>ig d+1
end
def Ok (P:Program):Nat->TypeId->G->Prop
 | 0,_,_=>False
 | n+1,t,g=>match P.underlying t with
  | some .bool=>∃b,g=.bool b
  | some (.int k)=>∃x,g=.int k x/\(Lit.int k x).wf=true
  | some .string=>∃s,g=.str s
  | some (.slice e)=>∃l,g=.sl (P.cellsOf e) l/\∀x∈l,Ok P n e x
  | some (.struct a)=>∃l,g=.st l/\l.length=a.size/\∀(i:Nat) (f:Field) (x:G),a[i]?=some f->l[i]?=some x->Ok P n f.type x
  | _=>False
def yj (P:Program):Nat->List Field->Nat->Bool
 | o,[],n=>Nat.beq o n
 | o,f::a,n=>Nat.beq f.offset o&&yj P (o+P.cellsOf f.type) a n
def KR (P:Program) (S:List TypeId) (t:TypeId):Bool :=
 match P.underlying t with
 | some .bool=>true
 | some (.int _)=>true
 | some .string=>true
 | some (.slice e)=>eZ S e&&Nat.blt 0 (P.cellsOf e)
 | some (.struct a)=>yj P 0 a.toList (P.cellsOf t)&&a.toList.all fun f=>eZ S f.type
 | _=>false
def flat (P:Program) (S:List TypeId):Bool:=S.all (KR P S)
theorem vF {Q:Nat->G->Prop}:∀(n:Nat),(∀i,i<n->∃g,Q i g)->∃l:List G,l.length=n/\∀i g,l[i]?=some g->Q i g
 | 0,_=>⟨[],rfl,fun i g h=>by simp at h⟩
 | n+1,h=>by
  obtain⟨l,h1,b⟩:=vF n (fun i hi=>h i (by omega));obtain⟨g,c⟩:=h n (by omega);refine⟨l++[g],by simp[h1],fun i x a=>?_⟩
  by_cases hi:i<l.length
  ·rw[abG hi] at a;exact b i x a
  ·rw[abH (by omega)] at a;have:i-l.length=0:=by
    cases e:i-l.length with
    | zero=>rfl
    | succ k=>rw[e] at a;simp at a
   rw[this] at a;simp only[aa6,aaO] at a;subst a;have:i=n:=by omega
   subst this;exact c
theorem yp {H:Type}:∀{l:List G}{ds:List (DataW H)},l.length=ds.length->(∀(i:Nat) g d,l[i]?=some g->ds[i]?=some d->g.bulk<=ig d)->G.aai l<=d9 ds
 | [],_,_,_=>by simp[G.aai]
 | x::l,[],h,_=>by simp at h
 | x::l,d::ds,h,hb=>by
  simp only[G.aai,d9];have h1:=hb 0 x d (by simp) (by simp);have e:=yp (l:=l) (ds:=ds) (by simpa using h) (fun i g a c b=>hb (i+1) g a (by simpa using c) (by simpa using b));omega
section
variable {H:Type}{enc:TypeId×Value->H}{P:Program}{w:World}{base:Nat}{spare:Nat->Bool}{held:Bool}
def qk (w:World):au:=fun b=>w.heap[b]?
theorem AO {a:Addr}{n:Nat}{cs:List Value}(h:w.cells? base a n=some cs) (q:0<n):cs.length=n/\dG (qk w) (some a) 0 cs:=by
 obtain⟨_,f,m⟩:=World.cells?_some h;refine⟨f,?_⟩;have h0:=m 0 q;rw[aaQ (by omega)] at h0;have d:a.spot=none:=by simpa[Addr.add] using World.cell?_spot h0
 have k:∃j t l,w.heap[a.block]?=some (.cells j t l):=by
  simp only[World.cell?,Addr.add] at h0;split at h0
  ·rename_i c t l e;exact⟨c,t,l,e⟩
  ·cases h0
 obtain⟨j,t,l,hb⟩:=k;refine⟨a,j,t,l,rfl,hb,d,fun i v p=>?_⟩;have hi:i<n:=by rw[<-f];exact(aaU.1 p).1
 have:=m i hi;obtain⟨b,o,r⟩:=a;simp only at d;subst d;rw[p,cT] at this;simp only[World.cell?] at this;simp only at hb;rw[hb] at this;simpa using this
theorem Ce {F:au}{a:Addr}{n:Nat}{cs:List Value}(d:a.spot=none) (h:dG F (some (a.add n)) 0 cs):dG F (some a) n cs:=by
 obtain⟨b,o,p⟩:=a;simp only at d;subst d;rw[cT] at h;obtain⟨m,c,t,l,e,hb,f,j⟩:=h;injection e with e
 subst e;exact⟨_,c,t,l,rfl,hb,rfl,fun i v k=>by have:=j i v k;simpa[Nat.add_assoc] using this⟩
theorem DB {F:au}{a:Addr}{cs:List Value}(h:dG F (some a) 0 cs):a.spot=none:=by
 obtain⟨d,c,t,f,e,hb,b,j⟩:=h;injection e with e
 subst e;exact b
theorem OC {S:List TypeId}(hS:flat P S=true):∀(q:Nat) (t:TypeId) (cs:List Value) (x:DataW H×List MemPlace),t∈S->DataW.trod enc P w base spare held q t cs=some x ->
  ∃g,Ok P q t g/\Rd (qk w) g cs/\g.bulk<=ig x.1:=by
 intro q
 induction q with
 | zero=>intro t cs x _ h;simp[DataW.trod] at h
 | succ n ih =>
  intro t cs x ht h;have hf:=aa1.1 hS t ht;simp only[KR] at hf;split at hf
  ·rename_i p;obtain⟨b,rfl,rfl⟩:=DataW.trod_bool p h;exact⟨.bool b,by simp[Ok,p],by simp[Rd],by simp[G.bulk,ig]⟩
  ·rename_i k p;obtain⟨m,rfl,rfl,hw⟩:=DataW.trod_int p h;exact⟨.int k m,by simp[Ok,p,hw],by simp[Rd,hw],by simp[G.bulk,ig]⟩
  ·rename_i p;obtain⟨s,rfl,rfl,hw⟩:=DataW.trod_string p h;exact⟨.str s,by simp[Ok,p],by simp[Rd],by simp[G.bulk,ig]⟩
  ·rename_i e p;simp only[aaN] at hf;have he:e∈S:=cH.1 hf.1;have v:0<P.cellsOf e:=by simpa using hf.2
   rcases DataW.trod_slice p h with⟨rfl,rfl⟩ | ⟨a,len,cap,elems,bl,m,e1,rfl,rfl,hb,hl,hm,aa,av,_,_⟩
   ·refine⟨.sl (P.cellsOf e) [],by simp[Ok,p],?_,by simp[G.bulk,G.aai,ig]⟩;rw[P0];exact⟨none,0,rfl,by simp,by simp,fun _=>⟨rfl,rfl⟩,fun j x hx=>by simp at hx⟩
   ·obtain rfl:m=n:=by omega
    have ag:0<len->a.spot=none:=by
     intro h0;have h1:=av 0 h0;rw[aaQ (by omega)] at h1;obtain⟨es,h2,h3⟩:=Option.bind_eq_some_iff.1 h1;have:=DB (AO h2 v).2;simpa[Addr.add] using this
    obtain⟨l,an,ae⟩:=vF (Q:=fun i g=>Ok P m e g/\(∃es,es.length=P.cellsOf e/\dG (qk w) (some a) (i*P.cellsOf e) es/\Rd (qk w) g es)/\∀y,elems[i]?=some y->g.bulk<=ig y.1) len (by
     intro i hi;have h1:=av i hi;rw[aaQ (by omega)] at h1;obtain⟨es,h2,h3⟩:=Option.bind_eq_some_iff.1 h1;obtain⟨g,g1,g2,g3⟩:=ih e es _ he h3;obtain⟨g4,g5⟩:=AO h2 v;refine⟨g,g1,⟨es,g4,Ce (ag (by omega)) g5,g2⟩,fun y r=>?_⟩;rw[aaQ (by omega)] at r;injection r with r
     subst r;exact g3)
    refine⟨.sl (P.cellsOf e) l,?_,?_,?_⟩
    ·simp only[Ok,p];refine⟨l,rfl,fun x hx=>?_⟩;obtain⟨i,hi⟩:=abh.1 hx;exact(ae i x hi).1
    ·rw[P0];exact⟨some a,cap,by rw[an],by omega,hm,fun e=>(by cases e),fun j x hx=>(ae j x hx).2.1⟩
    ·simp only[G.bulk,ig];have:=yp (l:=l) (ds:=elems.map (·.1)) (by simp[an,aa]) (fun i g d hg hd=>by
      simp only[aa9,Option.map_eq_some_iff] at hd;obtain⟨y,r,rfl⟩:=hd;exact(ae i g hg).2.2 y r)
     omega
  ·rename_i fs p;simp only[aaN] at hf;obtain⟨ac,ao⟩:=hf;obtain⟨xs,m,e1,rfl,aa,bb,u⟩:=DataW.trod_struct p h;obtain rfl:m=n:=by omega
   have key:∀(fl:List Field) (z:List (DataW H×List MemPlace)) (o:Nat),yj P o fl (P.cellsOf t)=true->z.length=fl.length->(∀f∈fl,f.type∈S) ->
     (∀(i:Nat) f,fl[i]?=some f->DataW.trod enc P w base spare held m f.type ((cs.drop f.offset).take (P.cellsOf f.type))=z[i]?) ->
     ∃l,l.length=fl.length/\(∀(i:Nat) f g,fl[i]?=some f->l[i]?=some g->Ok P m f.type g)/\lW (qk w) l (cs.drop o)/\G.aai l<=d9 (z.map (·.1)):=by
    intro fl
    induction fl with
    | nil =>
     intro z o hc _ _ _;simp only[yj] at hc;have:=aaR hc;refine⟨[],rfl,fun i f g h=>by simp at h,?_,by simp[G.aai]⟩;simp only[lW];rw[List.drop_eq_nil_iff];omega
    | cons f fl az =>
     intro z o hc r ab u;simp only[yj,aaN] at hc;have ar:=aaR hc.1
     match z,r with
     | y::z,r =>
      have h0:=u 0 f (by simp);simp only[aa6] at h0;obtain⟨g,g1,g2,g3⟩:=ih f.type _ _ (ab f (by simp)) h0;obtain⟨l,l1,l2,l3,l4⟩:=az z (o+P.cellsOf f.type) hc.2 (by simpa using r) (fun f' c=>ab f' (by simp[c])) (fun i f' c=>by
       have:=u (i+1) f' (by simpa using c);simpa using this)
      refine⟨g::l,by simp[l1],fun i f' g' c ad=>?_,?_,?_⟩
      ·cases i with
       | zero=>simp only[aa6,aaO] at c ad;subst c;subst ad;exact g1
       | succ i=>exact l2 i f' g' (by simpa using c) (by simpa using ad)
      ·simp only[lW];refine⟨(cs.drop o).take (P.cellsOf f.type),cs.drop (o+P.cellsOf f.type),?_,by rw[<-ar];exact g2,l3⟩;rw[<-List.drop_drop,List.take_append_drop]
      ·simp only[G.aai,aa0,d9];omega
   obtain⟨l,l1,l2,l3,l4⟩:=key fs.toList xs 0 ac (by simp[bb]) (fun f hf=>cH.1 (aa1.1 ao f hf)) (fun i f hi=>u i f (by simpa using hi));refine⟨.st l,?_,?_,?_⟩
   ·simp only[Ok,p];exact⟨l,rfl,by simpa using l1,fun i f x hi hx=>l2 i f x (by simpa using hi) hx⟩
   ·simp only[Rd];simpa using l3
   ·simp only[G.bulk,ig];omega
  ·cases hf
end
namespace Api
abbrev I (n:Int):G:=.int .i64 n
inductive Ty where
 | mk (kind id:Int) (args:List Ty)
 deriving Inhabited
def Ty.kind:Ty->Int | .mk k _ _=>k
def Ty.id:Ty->Int | .mk _ i _=>i
def Ty.args:Ty->List Ty | .mk _ _ l=>l
mutual
def Ty.g:Ty->G
 | .mk k i l=>.st [I k,I i,.sl 3 (Ty.gs l)]
def Ty.gs:List Ty->List G
 | []=>[]
 | t::l=>t.g::Ty.gs l
end
theorem Ty.aaD:∀l:List Ty,Ty.gs l=l.map Ty.g
 | []=>rfl
 | t::l=>by simp[Ty.gs,Ty.aaD l]
structure aR where
 param:Int
 trait:Int
def aR.g (b:aR):G:=.st [I b.param,I b.trait]
structure Term where
 kind:Int
 a:Int
 targets:List Int
def Term.g (x:Term):G:=.st [I x.kind,I x.a,.sl 1 (x.targets.map I)]
structure OD where
 op:Int
 dst:Int
 a:Int
 b:Int
 n:Int
 args:List Int
 types:List Ty
def OD.g (x:OD):G:=.st [I x.op,I x.dst,I x.a,I x.b,I x.n,.sl 1 (x.args.map I),.sl 3 (x.types.map Ty.g)]
structure Block where
 code:List OD
 fin:Term
def Block.g (x:Block):G:=.st [.sl 7 (x.code.map OD.g),x.fin.g]
structure OE where
 name:ByteArray
 module:Int
 params:Int
 bounds:List aR
 arity:Int
 result:Ty
 locals:List Ty
 blocks:List Block
 ties:List Int
def OE.g (f:OE):G:=.st [.str f.name,I f.module,I f.params,.sl 2 (f.bounds.map aR.g),I f.arity,f.result.g,.sl 3 (f.locals.map Ty.g),.sl 4 (f.blocks.map Block.g),.sl 1 (f.ties.map I)]
structure Variant where
 name:ByteArray
 fields:List Ty
def Variant.g (x:Variant):G:=.st [.str x.name,.sl 3 (x.fields.map Ty.g)]
structure Data where
 name:ByteArray
 module:Int
 params:Int
 variants:List Variant
 drop:Int
def Data.g (d:Data):G:=.st [.str d.name,I d.module,I d.params,.sl 2 (d.variants.map Variant.g),I d.drop]
structure Impl where
 trait:Int
 module:Int
 params:Int
 bounds:List aR
 type:Ty
 func:Int
def Impl.g (x:Impl):G:=.st [I x.trait,I x.module,I x.params,.sl 2 (x.bounds.map aR.g),x.type.g,I x.func]
structure Prog where
 modules:List ByteArray
 uses:List (List Int)
 datas:List Data
 traits:List ByteArray
 homes:List Int
 impls:List Impl
 funcs:List OE
 main:Int
def Prog.g (p:Prog):G:=.st [.sl 1 (p.modules.map .str),.sl 1 (p.uses.map fun l=>.sl 1 (l.map I)),.sl 5 (p.datas.map Data.g),.sl 1 (p.traits.map .str),.sl 1 (p.homes.map I),.sl 8 (p.impls.map Impl.g),.sl 11 (p.funcs.map OE.g),I p.main]
section
variable {F:au}{cs:List Value}
end
end Api
end Go.Fr
namespace Go.Fr
open Go Go.RowKit
namespace Api
section
variable {P:Program}
def Rl (P:Program) (n:Nat):List TypeId->List G->Prop
 | [],[]=>True
 | t::ts,x::l=>Ok P n t x/\Rl P n ts l
 | _,_=>False
theorem KS {n:Nat}:∀{fl:List Field}{l:List G},l.length=fl.length->(∀(i:Nat) (f:Field) (x:G),fl[i]?=some f->l[i]?=some x->Ok P n f.type x)->Rl P n (fl.map (·.type)) l
 | [],[],_,_=>trivial
 | [],x::l,h,_=>by simp at h
 | f::fl,[],h,_=>by simp at h
 | f::fl,x::l,h,a=>⟨a 0 f x (by simp) (by simp),KS (by simpa using h) fun i f' c hf b=>a (i+1) f' c (by simpa using hf) (by simpa using b)⟩
theorem ok_int {n:Nat}{t:TypeId}{g:G}{k:IntKind}(h:P.underlying t=some (.int k)) (a:Ok P n t g):∃x,g=.int k x:=by
 cases n with
 | zero=>exact a.elim
 | succ n=>simp only[Ok,h] at a;obtain⟨x,h1,_⟩:=a;exact⟨x,h1⟩
theorem Rm {n:Nat}{t:TypeId}{g:G}(h:P.underlying t=some .string) (a:Ok P n t g):∃x,g=.str x:=by
 cases n with
 | zero=>exact a.elim
 | succ n=>simp only[Ok,h] at a;exact a
theorem Gs {b:Type}{f:b->G}:∀{l:List G},(∀x∈l,∃y,x=f y)->∃a:List b,l=a.map f
 | [],_=>⟨[],rfl⟩
 | x::l,h=>by
  obtain⟨y,rfl⟩:=h x (by simp);obtain⟨a,rfl⟩:=Gs (l:=l) (fun z c=>h z (by simp[c]));exact⟨y::a,rfl⟩
theorem Rn {n:Nat}{t e:TypeId}{g:G}{sz:Nat}{c:Type}{f:c->G}(h:P.underlying t=some (.slice e)) (a:P.cellsOf e=sz) (b:Ok P n t g) (he:∀m x,m<n->Ok P m e x->∃y,x=f y):∃l:List c,g=.sl sz (l.map f):=by
 cases n with
 | zero=>exact b.elim
 | succ n =>
  simp only[Ok,h] at b;obtain⟨l,rfl,j⟩:=b;obtain⟨k,rfl⟩:=Gs (f:=f) (fun x d=>he n x (by omega) (j x d));exact⟨k,by rw[a]⟩
theorem SW {n:Nat}{t:TypeId}{g:G}{c:Array Field}{ts:List TypeId}(h:P.underlying t=some (.struct c)) (a:c.toList.map (·.type)=ts) (b:Ok P n t g):∃m l,m<n/\g=.st l/\Rl P m ts l:=by
 cases n with
 | zero=>exact b.elim
 | succ n =>
  simp only[Ok,h] at b;obtain⟨l,rfl,j,d⟩:=b;subst a;exact⟨n,l,by omega,rfl,KS (by simpa using j) fun i f x hf e=>d i f x (by simpa using hf) e⟩
def uX (P:Program) (t:TypeId) (ts:List TypeId):Bool:=match P.underlying t with | some (.struct fs)=>decide (fs.toList.map (·.type)=ts) | _=>false
def tO (P:Program) (t e sz:Nat):Bool:=match P.underlying t with | some (.slice e')=>Nat.beq e' e&&Nat.beq (P.cellsOf e) sz | _=>false
def UO (P:Program) (t:TypeId):Bool:=match P.underlying t with | some (.int .i64)=>true | _=>false
def VX (P:Program) (t:TypeId):Bool:=match P.underlying t with | some .string=>true | _=>false
theorem kE {t:TypeId}{ts:List TypeId}(h:uX P t ts=true) {n:Nat}{g:G}(b:Ok P n t g):∃m l,m<n/\g=.st l/\Rl P m ts l:=by
 simp only[uX] at h;split at h
 ·rename_i c a;exact SW a (by simpa using h) b
 ·cases h
theorem eF {t e sz:Nat}(h:tO P t e sz=true) {n:Nat}{g:G}{a:Type}{f:a->G}(d:Ok P n t g) (he:∀m x,m<n->Ok P m e x->∃y,x=f y):∃l:List a,g=.sl sz (l.map f):=by
 simp only[tO] at h;split at h
 ·rename_i j b;simp only[aaN] at h;have h1:=aaR h.1;have c:=aaR h.2;subst h1;exact Rn b c d he
 ·cases h
theorem E8 {t:TypeId}(h:UO P t=true) {n:Nat}{g:G}(b:Ok P n t g):∃x,g=I x:=by
 simp only[UO] at h;split at h
 ·rename_i a;exact ok_int a b
 ·cases h
theorem yq {t:TypeId}(h:VX P t=true) {n:Nat}{g:G}(b:Ok P n t g):∃x,g=.str x:=by
 simp only[VX] at h;split at h
 ·rename_i a;exact Rm a b
 ·cases h
theorem zL {n:Nat}{b:TypeId}{l:List G}(h:Rl P n [b] l):∃a,l=[a]/\Ok P n b a:=by
 match l,h with
 | [a],h=>exact⟨a,rfl,h.1⟩
theorem bf {n:Nat}{b:TypeId}{ts:List TypeId}{l:List G}(h:Rl P n (b::ts) l):∃a r,l=a::r/\Ok P n b a/\Rl P n ts r:=by
 match l,h with
 | a::r,h=>exact⟨a,r,rfl,h.1,h.2⟩
theorem SX {t e ts:TypeId}(hi:UO P e=true) (r:uX P t [e,e,ts]=true) (h:tO P ts t 3=true):∀(n:Nat) (g:G),Ok P n t g->∃x:Ty,g=x.g:=by
 intro n
 induction n using Nat.strongRecOn with
 | _ n o =>
  intro g v;obtain⟨m,l,w,rfl,d⟩:=kE r v;obtain⟨a,l,rfl,p,d⟩:=bf d;obtain⟨b,l,rfl,hb,d⟩:=bf d;obtain⟨c,rfl,q⟩:=zL d;obtain⟨k,rfl⟩:=E8 hi p;obtain⟨i,rfl⟩:=E8 hi hb;obtain⟨xs,rfl⟩:=eF h q (f:=Ty.g) (fun u x j s=>o u (by omega) x s);exact⟨.mk k i xs,by simp[Ty.g,Ty.aaD]⟩
structure dK where
 int:TypeId
 str:TypeId
 ints:TypeId
 strs:TypeId
 intss:TypeId
 ty:TypeId
 tys:TypeId
 bound:TypeId
 bounds:TypeId
 term:TypeId
 ins:TypeId
 inss:TypeId
 block:TypeId
 blocks:TypeId
 func:TypeId
 funcs:TypeId
 variant:TypeId
 variants:TypeId
 data:TypeId
 datas:TypeId
 impl:TypeId
 impls:TypeId
 prog:TypeId
def dK.tyOk (P:Program) (d:dK):Bool:=UO P d.int&&uX P d.ty [d.int,d.int,d.tys]&&tO P d.tys d.ty 3
def dK.aak (P:Program) (d:dK):Bool:=d.tyOk P&&VX P d.str&&tO P d.ints d.int 1&&uX P d.bound [d.int,d.int]&&tO P d.bounds d.bound 2&&uX P d.term [d.int,d.int,d.ints] &&
 uX P d.ins [d.int,d.int,d.int,d.int,d.int,d.ints,d.tys]&&tO P d.inss d.ins 7&&uX P d.block [d.inss,d.term]&&tO P d.blocks d.block 4 &&
 uX P d.func [d.str,d.int,d.int,d.bounds,d.int,d.ty,d.tys,d.blocks,d.ints]
def dK.aam (P:Program) (d:dK):Bool:=d.aak P&&tO P d.strs d.str 1&&tO P d.intss d.ints 1&&uX P d.variant [d.str,d.tys]&&tO P d.variants d.variant 2&&uX P d.data [d.str,d.int,d.int,d.variants,d.int] &&
 tO P d.datas d.data 5&&uX P d.impl [d.int,d.int,d.int,d.bounds,d.ty,d.int]&&tO P d.impls d.impl 8&&tO P d.funcs d.func 11&&uX P d.prog [d.strs,d.intss,d.datas,d.strs,d.ints,d.impls,d.funcs,d.int]
theorem dK.aas {d:dK}(h:d.aam P=true):d.aak P=true:=by
 simp only[dK.aam,aaN] at h;exact h.1.1.1.1.1.1.1.1.1.1
theorem dK.aar {d:dK}(h:d.aak P=true):d.tyOk P=true:=by
 simp only[dK.aak,aaN] at h;exact h.1.1.1.1.1.1.1.1.1.1
theorem dK.ty' {d:dK}(h:d.tyOk P=true) {n:Nat}{g:G}(a:Ok P n d.ty g):∃x:Ty,g=x.g:=by
 simp only[dK.tyOk,aaN] at h;exact SX h.1.1 h.1.2 h.2 n g a
theorem dK.i {d:dK}(h:d.tyOk P=true) {n:Nat}{g:G}(a:Ok P n d.int g):∃x:Int,g=I x:=by
 simp only[dK.tyOk,aaN] at h;exact E8 h.1.1 a
theorem dK.aaE {d:dK}(h:d.tyOk P=true) {n:Nat}{g:G}(c:Ok P n d.tys g):∃x:List Ty,g=.sl 3 (x.map Ty.g):=by
 have a:=h;simp only[dK.tyOk,aaN] at a;exact eF a.2 c fun m x _ b=>dK.ty' h b
theorem dK.bnd {d:dK}(h:d.aak P=true) {n:Nat}{g:G}(k:Ok P n d.bound g):∃x:aR,g=x.g:=by
 have hf:=h;have e:=dK.aar hf;have a:=hf;simp only[dK.aak,aaN] at a;obtain⟨⟨⟨⟨⟨⟨⟨⟨⟨⟨_,k1⟩,s⟩,f⟩,y⟩,q⟩,t⟩,p⟩,k8⟩,k9⟩,k10⟩:=a;obtain⟨m,w,v,rfl,c⟩:=kE f k;obtain⟨r,o,rfl,j,b⟩:=bf c;obtain⟨v0,rfl⟩:=dK.i e j;obtain⟨u,rfl,l⟩:=zL b;obtain⟨v1,rfl⟩:=dK.i e l;exact⟨⟨v0,v1⟩,rfl⟩
theorem dK.trm {d:dK}(h:d.aak P=true) {n:Nat}{g:G}(r:Ok P n d.term g):∃x:Term,g=x.g:=by
 have hf:=h;have j:=dK.aar hf;have a:=hf;simp only[dK.aak,aaN] at a;obtain⟨⟨⟨⟨⟨⟨⟨⟨⟨⟨_,k1⟩,o⟩,w⟩,k4⟩,k⟩,k6⟩,v⟩,k8⟩,k9⟩,k10⟩:=a;obtain⟨m,l0,hm,rfl,e⟩:=kE k r;obtain⟨y,u,rfl,l,b⟩:=bf e;obtain⟨v0,rfl⟩:=dK.i j l;obtain⟨g1,t,rfl,s,c⟩:=bf b;obtain⟨v1,rfl⟩:=dK.i j s;obtain⟨z,rfl,p⟩:=zL c;obtain⟨v2,rfl⟩:=eF o p (f:=I) fun m x _ q=>dK.i j q;exact⟨⟨v0,v1,v2⟩,rfl⟩
theorem dK.ins' {d:dK}(h:d.aak P=true) {n:Nat}{g:G}(hg:Ok P n d.ins g):∃x:OD,g=x.g:=by
 have hf:=h;have a:=dK.aar hf;have b:=hf;simp only[dK.aak,aaN] at b;obtain⟨⟨⟨⟨⟨⟨⟨⟨⟨⟨_,k1⟩,y⟩,k3⟩,k4⟩,k5⟩,z⟩,k7⟩,k8⟩,k9⟩,k10⟩:=b;obtain⟨m,l0,hm,rfl,k⟩:=kE z hg;obtain⟨g0,l1,rfl,t,e⟩:=bf k;obtain⟨v0,rfl⟩:=dK.i a t;obtain⟨g1,l2,rfl,e1,j⟩:=bf e;obtain⟨v1,rfl⟩:=dK.i a e1;obtain⟨g2,l3,rfl,e2,o⟩:=bf j;obtain⟨v2,rfl⟩:=dK.i a e2;obtain⟨g3,l4,rfl,r,p⟩:=bf o;obtain⟨v3,rfl⟩:=dK.i a r;obtain⟨g4,l5,rfl,u,l⟩:=bf p;obtain⟨v4,rfl⟩:=dK.i a u;obtain⟨g5,l6,rfl,q,c⟩:=bf l;obtain⟨w,rfl⟩:=eF y q (f:=I) fun m x _ hx=>dK.i a hx;obtain⟨g6,rfl,s⟩:=zL c;obtain⟨v,rfl⟩:=dK.aaE a s;exact⟨⟨v0,v1,v2,v3,v4,w,v⟩,rfl⟩
theorem dK.blk {d:dK}(h:d.aak P=true) {n:Nat}{g:G}(l:Ok P n d.block g):∃x:Block,g=x.g:=by
 have hf:=h;have v:=dK.aar hf;have a:=hf;simp only[dK.aak,aaN] at a;obtain⟨⟨⟨⟨⟨⟨⟨⟨⟨⟨_,k1⟩,t⟩,q⟩,k4⟩,r⟩,u⟩,e⟩,k8⟩,k9⟩,k10⟩:=a;obtain⟨m,z,y,rfl,c⟩:=kE k8 l;obtain⟨s,p,rfl,j,b⟩:=bf c;obtain⟨v0,rfl⟩:=eF e j (f:=OD.g) fun m x _ k=>dK.ins' hf k;obtain⟨w,rfl,o⟩:=zL b;obtain⟨v1,rfl⟩:=dK.trm hf o;exact⟨⟨v0,v1⟩,rfl⟩
theorem dK.fn {d:dK}(h:d.aak P=true) {n:Nat}{g:G}(hg:Ok P n d.func g):∃x:OE,g=x.g:=by
 have hf:=h;have a:=dK.aar hf;have b:=hf;simp only[dK.aak,aaN] at b;obtain⟨⟨⟨⟨⟨⟨⟨⟨⟨⟨_,k1⟩,k2⟩,k3⟩,k4⟩,k5⟩,k6⟩,k7⟩,k8⟩,k9⟩,k10⟩:=b;obtain⟨m,l0,hm,rfl,o⟩:=kE k10 hg;obtain⟨g0,l1,rfl,w,k⟩:=bf o;obtain⟨v0,rfl⟩:=yq k1 w;obtain⟨g1,l2,rfl,e1,l⟩:=bf k;obtain⟨v1,rfl⟩:=dK.i a e1;obtain⟨g2,l3,rfl,e2,q⟩:=bf l;obtain⟨v2,rfl⟩:=dK.i a e2;obtain⟨g3,l4,rfl,u,r⟩:=bf q;obtain⟨v3,rfl⟩:=eF k4 u (f:=aR.g) fun m x _ c=>dK.bnd hf c;obtain⟨g4,l5,rfl,z,p⟩:=bf r;obtain⟨v4,rfl⟩:=dK.i a z;obtain⟨g5,l6,rfl,t,j⟩:=bf p;obtain⟨v5,rfl⟩:=dK.ty' a t;obtain⟨g6,l7,rfl,v,e⟩:=bf j;obtain⟨v6,rfl⟩:=dK.aaE a v;obtain⟨g7,l8,rfl,y,s⟩:=bf e;obtain⟨v7,rfl⟩:=eF k9 y (f:=Block.g) fun m x _ c=>dK.blk hf c;obtain⟨g8,rfl,e8⟩:=zL s;obtain⟨v8,rfl⟩:=eF k2 e8 (f:=I) fun m x _ c=>dK.i a c;exact⟨⟨v0,v1,v2,v3,v4,v5,v6,v7,v8⟩,rfl⟩
theorem dK.aaM {d:dK}(h:d.aam P=true) {n:Nat}{g:G}(o:Ok P n d.variant g):∃x:Variant,g=x.g:=by
 have h0:=h;have hf:=dK.aas h;have l:=dK.aar hf;have a:=hf;simp only[dK.aak,aaN] at a;obtain⟨⟨⟨⟨⟨⟨⟨⟨⟨⟨_,k1⟩,k2⟩,t⟩,k4⟩,u⟩,k6⟩,r⟩,k8⟩,k9⟩,k10⟩:=a;simp only[dK.aam,aaN] at h;obtain⟨⟨⟨⟨⟨⟨⟨⟨⟨⟨h,p1⟩,y⟩,j⟩,w⟩,p5⟩,s⟩,p7⟩,z⟩,p⟩,k⟩:=h;obtain⟨m,l0,hm,rfl,c⟩:=kE j o;obtain⟨v,q,rfl,e,b⟩:=bf c;obtain⟨v0,rfl⟩:=yq k1 e;obtain⟨g1,rfl,f⟩:=zL b;obtain⟨v1,rfl⟩:=dK.aaE l f;exact⟨⟨v0,v1⟩,rfl⟩
theorem dK.dat {d:dK}(h:d.aam P=true) {n:Nat}{g:G}(y:Ok P n d.data g):∃x:Data,g=x.g:=by
 have h0:=h;have hf:=dK.aas h;have j:=dK.aar hf;have a:=hf;simp only[dK.aak,aaN] at a;obtain⟨⟨⟨⟨⟨⟨⟨⟨⟨⟨_,k1⟩,k2⟩,k3⟩,k4⟩,k5⟩,k6⟩,k7⟩,k8⟩,k9⟩,k10⟩:=a;simp only[dK.aam,aaN] at h;obtain⟨⟨⟨⟨⟨⟨⟨⟨⟨⟨h,p1⟩,p2⟩,p3⟩,q⟩,z⟩,p6⟩,p7⟩,p8⟩,p9⟩,t⟩:=h;obtain⟨m,l0,hm,rfl,e⟩:=kE z y;obtain⟨g0,l1,rfl,p,b⟩:=bf e;obtain⟨v0,rfl⟩:=yq k1 p;obtain⟨g1,l2,rfl,r,c⟩:=bf b;obtain⟨v1,rfl⟩:=dK.i j r;obtain⟨g2,l3,rfl,u,k⟩:=bf c;obtain⟨v2,rfl⟩:=dK.i j u;obtain⟨g3,l4,rfl,o,l⟩:=bf k;obtain⟨v3,rfl⟩:=eF q o (f:=Variant.g) fun m x _ v=>dK.aaM h0 v;obtain⟨g4,rfl,s⟩:=zL l;obtain⟨w,rfl⟩:=dK.i j s;exact⟨⟨v0,v1,v2,v3,w⟩,rfl⟩
theorem dK.imp {d:dK}(h:d.aam P=true) {n:Nat}{g:G}(hg:Ok P n d.impl g):∃x:Impl,g=x.g:=by
 have h0:=h;have hf:=dK.aas h;have b:=dK.aar hf;have a:=hf;simp only[dK.aak,aaN] at a;obtain⟨⟨⟨⟨⟨⟨⟨⟨⟨⟨_,k1⟩,k2⟩,k3⟩,k4⟩,k5⟩,k6⟩,k7⟩,k8⟩,k9⟩,k10⟩:=a;simp only[dK.aam,aaN] at h;obtain⟨⟨⟨⟨⟨⟨⟨⟨⟨⟨h,p1⟩,p2⟩,p3⟩,p4⟩,p5⟩,p6⟩,w⟩,p8⟩,p9⟩,u⟩:=h;obtain⟨m,l0,hm,rfl,j⟩:=kE w hg;obtain⟨g0,l1,rfl,r,c⟩:=bf j;obtain⟨v0,rfl⟩:=dK.i b r;obtain⟨g1,l2,rfl,s,e⟩:=bf c;obtain⟨v1,rfl⟩:=dK.i b s;obtain⟨g2,l3,rfl,y,l⟩:=bf e;obtain⟨v2,rfl⟩:=dK.i b y;obtain⟨g3,l4,rfl,q,o⟩:=bf l;obtain⟨v3,rfl⟩:=eF k4 q (f:=aR.g) fun m x _ z=>dK.bnd hf z;obtain⟨g4,l5,rfl,t,k⟩:=bf o;obtain⟨v4,rfl⟩:=dK.ty' b t;obtain⟨g5,rfl,p⟩:=zL k;obtain⟨v,rfl⟩:=dK.i b p;exact⟨⟨v0,v1,v2,v3,v4,v⟩,rfl⟩
theorem dK.prg {d:dK}(h:d.aam P=true) {n:Nat}{g:G}(hg:Ok P n d.prog g):∃x:Prog,g=x.g:=by
 have h0:=h;have hf:=dK.aas h;have r:=dK.aar hf;have b:=hf;simp only[dK.aak,aaN] at b;obtain⟨⟨⟨⟨⟨⟨⟨⟨⟨⟨_,k1⟩,u⟩,k3⟩,k4⟩,k5⟩,k6⟩,k7⟩,k8⟩,k9⟩,k10⟩:=b;simp only[dK.aam,aaN] at h;obtain⟨⟨⟨⟨⟨⟨⟨⟨⟨⟨h,v⟩,p2⟩,p3⟩,p4⟩,p5⟩,p6⟩,p7⟩,p8⟩,z⟩,o⟩:=h;obtain⟨m,l0,hm,rfl,p⟩:=kE o hg;obtain⟨g0,l1,rfl,e0,j⟩:=bf p;obtain⟨v0,rfl⟩:=eF v e0 (f:=G.str) fun m x _ a=>yq k1 a;obtain⟨g1,l2,rfl,e1,k⟩:=bf j;obtain⟨v1,rfl⟩:=eF p2 e1 (f:=fun(l:List Int)=>G.sl 1 (l.map I)) fun m x _ a=>eF u a (f:=I) fun m x _ a=>dK.i r a;obtain⟨g2,l3,rfl,e2,s⟩:=bf k;obtain⟨v2,rfl⟩:=eF p6 e2 (f:=Data.g) fun m x _ a=>dK.dat h0 a;obtain⟨g3,l4,rfl,y,t⟩:=bf s;obtain⟨v3,rfl⟩:=eF v y (f:=G.str) fun m x _ a=>yq k1 a;obtain⟨g4,l5,rfl,e4,q⟩:=bf t;obtain⟨v4,rfl⟩:=eF u e4 (f:=I) fun m x _ a=>dK.i r a;obtain⟨g5,l6,rfl,w,e⟩:=bf q;obtain⟨v5,rfl⟩:=eF p8 w (f:=Impl.g) fun m x _ a=>dK.imp h0 a;obtain⟨g6,l7,rfl,e6,c⟩:=bf e;obtain⟨v6,rfl⟩:=eF z e6 (f:=OE.g) fun m x _ a=>dK.fn hf a;obtain⟨g7,rfl,e7⟩:=zL c;obtain⟨v7,rfl⟩:=dK.i r e7;exact⟨⟨v0,v1,v2,v3,v4,v5,v6,v7⟩,rfl⟩
end
end Api
end Go.Fr
namespace Go.Fr.T
open Go Go.RowKit Go.Fr
mutual
def ru:G->List C
 | .int k n=>[.int k n]
 | .bool b=>[.bool b]
 | .str s=>[.str s]
 | .sl _ l=>[.sl (sn l)]
 | .st l=>kZ l
def sn:List G->List (List C)
 | []=>[]
 | x::l=>ru x::sn l
def kZ:List G->List C
 | []=>[]
 | x::l=>ru x++kZ l
end
theorem yt:∀l:List G,sn l=l.map ru
 | []=>rfl
 | x::l=>by simp only[sn,aa0,yt l]
theorem Cf {a b:List C}(h:eH a=true) (k:eH b=true):eH (a++b)=true:=by
 rw[nF] at *;intro c d;rcases aaX.1 d with d | d
 ·exact h c d
 ·exact k c d
mutual
theorem Cg {F:au}:∀{g:G}{cs:List Value},Rd F g cs->g.bulk<=maxLen->ax F [] (ru g) cs/\eH (ru g)=true
 | .int k n,cs,h,hb=>by
  simp only[Rd] at h;obtain⟨rfl,h⟩:=h;simp only[ru,ax,Rel];exact⟨⟨_,_,rfl,⟨rfl,h⟩,rfl⟩,rfl⟩
 | .bool b,cs,h,hb=>by
  simp only[Rd] at h;subst h;simp only[ru,ax,Rel];exact⟨⟨_,_,rfl,rfl,rfl⟩,rfl⟩
 | .str s,cs,h,hb=>by
  simp only[Rd] at h;subst h;simp only[G.bulk] at hb;simp only[ru,ax,Rel];exact⟨⟨_,_,rfl,⟨rfl,by omega⟩,rfl⟩,rfl⟩
 | .sl sz l,cs,h,hb=>by
  simp only[Rd] at h;obtain⟨a,c,rfl,h1,h2,h3,h4⟩:=h;simp only[G.bulk] at hb;have hl:(sn l).length=l.length:=by simp[yt]
  simp only[ru,ax,Rel];refine⟨⟨_,_,rfl,⟨a,c,by rw[hl],by rw[hl];exact h1,by rw[hl];omega,fun e=>?_,sz,AP h4 (by omega)⟩,rfl⟩,rfl⟩;obtain⟨e1,e2⟩:=h3 e;subst e1;exact⟨rfl,e2⟩
 | .st l,cs,h,hb=>by
  simp only[Rd] at h;simp only[G.bulk] at hb;simp only[ru];exact yu h (by omega)
theorem AP {F:au}{a:Option Addr}{sz:Nat}:∀{i:Nat}{l:List G},s9 F a sz i l->G.aai l<=maxLen->gk F a sz i (sn l)
 | _,[],_,_=>by simp only[sn,gk]
 | i,x::l,h,hb=>by
  simp only[s9] at h;obtain⟨⟨es,h1,h2,h3⟩,h4⟩:=h;simp only[G.aai] at hb;obtain⟨r1,r2⟩:=Cg h3 (by omega);simp only[sn,gk];exact⟨⟨es,h1,h2,r2,r1⟩,AP h4 (by omega)⟩
theorem yu {F:au}:∀{l:List G}{cs:List Value},lW F l cs->G.aai l<=maxLen->ax F [] (kZ l) cs/\eH (kZ l)=true
 | [],cs,h,_=>by simp only[lW] at h;subst h;simp only[kZ,ax];exact⟨trivial,rfl⟩
 | x::l,cs,h,hb=>by
  simp only[lW] at h;obtain⟨c1,c2,rfl,h1,h2⟩:=h;simp only[G.aai] at hb;obtain⟨r1,r2⟩:=Cg h1 (by omega);obtain⟨q1,q2⟩:=yu h2 (by omega);simp only[kZ];exact⟨r1.append q1,Cf r2 q2⟩
end
open Api
abbrev IC (n:Int):C:=.int .i64 n
def Ie (l:List Int):List (List C):=l.map fun n=>[IC n]
def KT (l:List ByteArray):List (List C):=l.map fun s=>[C.str s]
mutual
def aM:Ty->List C
 | .mk k i l=>[IC k,IC i,.sl (Ig l)]
def Ig:List Ty->List (List C)
 | []=>[]
 | t::l=>aM t::Ig l
end
theorem DC:∀l:List Ty,Ig l=l.map aM
 | []=>rfl
 | t::l=>by simp only[Ig,aa0,DC l]
theorem iM (t:Ty):aM t=[IC t.kind,IC t.id,.sl (t.args.map aM)]:=by
 cases t;simp only[aM,DC,Ty.kind,Ty.id,Ty.args]
def aS (b:aR):List C:=[IC b.param,IC b.trait]
def KU (x:Term):List C:=[IC x.kind,IC x.a,.sl (Ie x.targets)]
def Ro (x:OD):List C:=[IC x.op,IC x.dst,IC x.a,IC x.b,IC x.n,.sl (Ie x.args),.sl (x.types.map aM)]
def E9 (x:Block):List C:=[.sl (x.code.map Ro),IC x.fin.kind,IC x.fin.a,.sl (Ie x.fin.targets)]
def Rq (f:OE):List C:=[.str f.name,IC f.module,IC f.params,.sl (f.bounds.map aS),IC f.arity,IC f.result.kind,IC f.result.id,.sl (f.result.args.map aM),.sl (f.locals.map aM),.sl (f.blocks.map E9),.sl (Ie f.ties)]
def tP (x:Variant):List C:=[.str x.name,.sl (x.fields.map aM)]
def nR (d:Api.Data):List C:=[.str d.name,IC d.module,IC d.params,.sl (d.variants.map tP),IC d.drop]
def dF (x:Impl):List C:=[IC x.trait,IC x.module,IC x.params,.sl (x.bounds.map aS),IC x.type.kind,IC x.type.id,.sl (x.type.args.map aM),IC x.func]
def jU (p:Prog):List C:=[.sl (KT p.modules),.sl (p.uses.map fun l=>[.sl (Ie l)]),.sl (p.datas.map nR),.sl (KT p.traits),.sl (Ie p.homes),.sl (p.impls.map dF),.sl (p.funcs.map Rq),IC p.main]
theorem iF {a:Type}{f:a->G}{h:a->List C}(hf:∀x,ru (f x)=h x) (l:List a):sn (l.map f)=l.map h:=by
 rw[yt,abS];exact abV fun x _=>hf x
theorem yw (l:List Int):sn (l.map I)=Ie l:=iF (fun _=>rfl) l
theorem Rs (l:List ByteArray):sn (l.map .str)=KT l:=iF (fun _=>rfl) l
mutual
theorem yx:∀t:Ty,ru t.g=aM t
 | .mk k i l=>by simp only[Ty.g,ru,kZ,aM,Gt l,abo,aa4,abr]
theorem Gt:∀l:List Ty,sn (Ty.gs l)=Ig l
 | []=>rfl
 | t::l=>by simp only[Ty.gs,sn,Ig,yx t,Gt l]
end
theorem Ch (l:List Ty):sn (l.map Ty.g)=l.map aM:=iF yx l
theorem uY (b:aR):ru b.g=aS b:=rfl
theorem KV (x:Term):ru x.g=KU x:=by simp only[Term.g,ru,kZ,KU,yw,abo,aa4,abr]
theorem OG (x:OD):ru x.g=Ro x:=by simp only[OD.g,ru,kZ,Ro,yw,Ch,abo,aa4,abr]
theorem Ih (x:Block):ru x.g=E9 x:=by simp only[Block.g,ru,kZ,E9,KV,KU,iF OG,abo,aa4,abr]
theorem OH (f:OE):ru f.g=Rq f:=by simp only[OE.g,ru,kZ,Rq,yx,iM,Ch,yw,iF uY,iF Ih,abo,aa4,abr]
theorem DE (x:Variant):ru x.g=tP x:=by simp only[Variant.g,ru,kZ,tP,Ch,abo,aa4,abr]
theorem KW (x:Api.Data):ru x.g=nR x:=by simp only[Data.g,ru,kZ,nR,iF DE,abo,aa4,abr]
theorem KX (x:Impl):ru x.g=dF x:=by simp only[Impl.g,ru,kZ,dF,yx,iM,iF uY,abo,aa4,abr]
theorem KY (x:Prog):ru x.g=jU x:=by
 simp only[Prog.g,ru,kZ,jU,yw,Rs,iF KW,iF KX,iF OH,abo,aa4,abr];rw[iF (f:=fun l=>G.sl 1 (l.map I)) (h:=fun l=>[C.sl (Ie l)]) (fun l=>by simp only[ru,yw])]
theorem cP {l:List Ty}{k:Nat}{x:Ty}{K:List C->Prop}(a:l[k]?=some x) (h:K [IC x.kind,IC x.id,.sl (x.args.map aM)]):uI (l.map aM) (k:Int) 3 K:=EW a (iM x) rfl h
end Go.Fr.T
namespace Go.Fr.T
open Go Go.RowKit Go.Fr Go.ChangeShapes Go.WideShapes Go.ChangeAt
def uZ:G->C
 | .int k n=>.int k n
 | .bool b=>.bool b
 | .str s=>.str s
 | .sl _ l=>.sl (sn l)
 | .st l=>.agg (kZ l)
def Qh (P:Program):List TypeId->List G->Prop
 | [],[]=>True
 | t::ts,g::gs=>(∃n,Ok P n t g)/\Qh P ts gs
 | _,_=>False
section
variable {H:Type}{enc:TypeId×Value->H}{P:Program}{W:World}
theorem tQ {F:au}{L:Loc}{c:C}{v:Value}(h:ax F L [c] [v]):Rel F L c v:=by
 simp only[ax] at h;obtain⟨x,y,e,h1,a⟩:=h;injection e with e1 e2
 subst e1;exact h1
theorem OI {S:List TypeId}(hS:flat P S=true) {t:TypeId}(u:t∈S) {r:Reach}{w:Nat}{y:Nat->Bool}{z:Bool}{v:Value}{d:DataW H}{ps:List MemPlace}(f:Value.okWide P W r w t v)
  (h:DataW.Trod enc P W 0 y z t v d ps) (hb:ig d<=maxLen):∃n g,Ok P n t g/\Rel (qk W) [] (uZ g) v/\g.bulk<=ig d:=by
 obtain⟨o,h⟩:=h;obtain⟨g,h1,x,s⟩:=OC hS o t _ _ u h;refine⟨o,g,h1,?_,s⟩;have p:=(Cg x (abx s hb)).1;have hf:=aa1.1 hS t u;cases o with
 | zero=>exact h1.elim
 | succ n =>
 simp only[KR] at hf;simp only[Ok] at h1;split at hf
 ·rename_i j;obtain⟨b,rfl⟩:=okWide_bool j f;simp only[j] at h1;obtain⟨q,rfl⟩:=h1;exact tQ p
 ·rename_i k j;obtain⟨m,rfl⟩:=okWide_int j f;simp only[j] at h1;obtain⟨q,rfl,_⟩:=h1;exact tQ p
 ·rename_i j;obtain⟨m,rfl⟩:=okWide_string j f;simp only[j] at h1;obtain⟨q,rfl⟩:=h1;exact tQ p
 ·rename_i e j;obtain⟨a,l,c,rfl⟩:=okWide_slice j f;simp only[j] at h1;obtain⟨q,rfl,_⟩:=h1;exact tQ p
 ·rename_i fs j;simp only[Value.okWide,j] at f;obtain⟨cs,rfl,_,_⟩:=f;simp only[j] at h1;obtain⟨l,rfl,_⟩:=h1;simp only[uZ,Rel];exact⟨cs.toList,by simp,p⟩
 ·cases hf
theorem AQ {S:List TypeId}(hS:flat P S=true) {r:Reach}{k:Nat}{u:Nat->Bool}{w:Bool}:∀{ts:List TypeId}{a:List Value}{ds:List (DataW H)}{ps:List MemPlace},(∀t∈ts,t∈S) ->
  (∀(j:Nat) t v,ts[j]?=some t->a[j]?=some v->Value.okWide P W r k t v)->DataW.TrodAll enc P W 0 u w ts a ds ps->d9 ds<=maxLen ->
  ∃gs,Qh P ts gs/\ax (qk W) [] (gs.map uZ) a/\G.aai gs<=d9 ds
 | [],[],[],_,_,_,_,_=>⟨[],trivial,by simp only[abE,ax],by simp[G.aai]⟩
 | t::ts,v::a,d::ds,ps,e,f,⟨p,q,h1,o,_⟩,hb=>by
  simp only[d9] at hb ⊢;obtain⟨n,g,s,l,y⟩:=OI hS (e t (by simp)) (f 0 t v rfl rfl) h1 (by omega);obtain⟨gs,k1,m,x⟩:=AQ hS (fun t b=>e t (by simp[b])) (fun j t v b c=>f (j+1) t v (by simpa using b) (by simpa using c)) o (by omega);refine⟨g::gs,⟨⟨n,s⟩,k1⟩,?_,by simp only[G.aai];omega⟩;simp only[aa0,ax];exact⟨v,a,rfl,l,m⟩
 | [],_::_,_,_,_,_,h,_=>h.elim
 | [],[],_::_,_,_,_,h,_=>h.elim
 | _::_,[],_,_,_,_,h,_=>h.elim
 | _::_,_::_,[],_,_,_,h,_=>h.elim
theorem zM {ts:List TypeId}(m:laidOutB P=true) (c:ts.all (fun t=>P.readableRec t&&decide (t<P.types.size))=true) {W':World}(hb:Below W.heap.size W W') {j:Nat->Bool} :
  ∀{a:List Value}{ds:List (DataW H)}{ps:List MemPlace},DataW.TrodAll enc P W 0 (fun _=>true) true ts a ds ps->(∀x∈ps,x.block<W.heap.size)->(∀x∈ps,j x.block=true)->DataW.TrodAll enc P W' 0 j true ts a ds ps:=by
 induction ts with
 | nil =>
  intro a ds ps h _ _
  match a,ds,h with
  | [],[],h=>exact h
 | cons t ts k =>
  intro a ds ps h h1 f
  match a,ds,h with
  | v::a,d::ds,⟨p,q,k1,l,e⟩ =>
   subst e;simp only[abf,aaN,aa2] at c;refine⟨p,q,WideElems.Trod_stays m c.1.1 c.1.2 k1 (fun x b=>hb.same (h1 x (by simp[b]))) (fun x b=>f x (by simp[b])),k (by simpa using c.2) l (fun x b=>h1 x (by simp[b])) (fun x b=>f x (by simp[b])),rfl⟩
theorem zN {f:Func}{s:ChangeSpec}{W W':World}{args:Array Value}{v:Value}{ds gs:List (DataW H)}{a pa pv:List MemPlace}
  (o:DataW.Whole enc P f.params.toList s.vars false W args.toList ds gs a)
  (k:∀(b:Nat) (m:Nat->Bool) (y:Bool),DataW.TrodAll enc P W' b m y f.resultTypes.toList (v.resultList f.resultTypes.size) (s.fn H (ds++gs)).results [])
  (d:∀m:Nat->Bool,(∀p∈a,m p.block=true)->DataW.TrodAll enc P W' 0 m true f.params.toList args.toList (s.fn H (ds++gs)).args pa)
  (c:∀m:Nat->Bool,(∀p∈a,m p.block=true)->DataW.TrodVars enc P W' m s.vars (s.fn H (ds++gs)).vars pv)
  (l:a=pa++pv) (hb:Below W.heap.size W W')
  (q:∀(j:Nat) (t:TypeId) (r:Value),f.resultTypes[j]?=some t->(v.resultList f.resultTypes.size)[j]?=some r->Value.okWide P W' .any 0 t r) :
  s.post enc P f false true false false W args v W':=by
 have h:∀p∈a,(fun b=>decide (b<W.heap.size)) p.block=true:=fun p e=>by simpa using o.lt p e
 have u:∀p∈a,p.block<W.heap.size:=fun p e=>o.lt p e;refine⟨ds,gs,a,[],pa,pv,o,k _ _ _,d _ h,c _ h,World.keptBut_mono (fun p e=>⟨e,?_⟩) (hb.frame (·∈a)),fun _=>?_⟩
 ·rw[l,aaX] at e;exact Or.inr e
 ·obtain⟨_,_,_,_,_,w,z⟩:=o;refine⟨q,_,_,([]++pa)++pv,⟨[]++pa,pv,trodAll_append (d _ (fun _ _=>rfl)) (k _ _ _),c _ (fun _ _=>rfl),rfl,?_,?_⟩,?_⟩
  ·intro b off e;have n:MemPlace.cell b off∈a:=by rw[l];simpa using e
   rw[hb.frozen (p:=⟨b,off,none⟩) (u _ n)];exact w b off n
  ·intro x;cases x
  ·intro p e _;rw[l];simpa using e
theorem entry {f:FuncId}{ts:List TypeId}{S:List TypeId}(hS:flat P S=true) (w:∀t∈ts,t∈S) {r:Reach}{p:Nat}{args:Array Value}{ds:List (DataW H)}{ps:List MemPlace}
  (d:∀(j:Nat) t v,ts[j]?=some t->args.toList[j]?=some v->Value.okWide P W r p t v) (h:DataW.TrodAll enc P W 0 (fun _=>true) true ts args.toList ds ps) (m:d9 ds<=1048576)
  (q:sK (qk W)) (law:∀gs,Qh P ts gs->G.aai gs<=1048576->CallsT P f (gs.map uZ) [] (aU [] (.bool true))) :
  Calls P f args W fun e W'=>e=.returned (.bool true)/\Below W.heap.size W W':=by
 obtain⟨gs,k1,u,z⟩:=AQ hS w d h (abx m (by decide));have s:=(law gs k1 (by omega)).out (qk W) [] args.toList rfl (fun k=>by rw[show(inp []).get k=none from rfl,show(cC []).get k=none from rfl];trivial) u;have he:∀k,(inp []).get k=none:=fun _=>rfl;have l:St (qk W) (inp []) W:=⟨fun b o h=>h,fun k o h=>(by rw[he] at h;cases h),fun k o g h=>(by rw[he] at h;cases h),fun k k' o o' g h=>(by rw[he] at h;cases h),q⟩;refine Calls.mono (s.run W l) ?_;rintro e W' ⟨v,F',Lo,rfl,x,a,Mo,c,q1,y,n,q4,rfl,rfl⟩;simp only[Rel] at n;subst n;exact⟨rfl,a.os,a.tape,a.output,a.size,fun k m=>a.same k m (by rintro⟨_,_,h,_⟩;cases h)⟩
theorem zO {f:FuncId}{fn:Func}{s:ChangeSpec}{S:List TypeId}{tb:TypeId}(hl:laidOutB P=true) (hS:flat P S=true) (hm:fn.params.toList.all (fun t=>S.contains t&&(P.readableRec t&&decide (t<P.types.size)))=true)
  (d:fn.resultTypes=#[tb]) (o:P.underlying tb=some .bool) (a:s.vars=[])
  (law:∀gs,Qh P fn.params.toList gs->G.aai gs<=1048576->CallsT P f (gs.map uZ) [] (aU [] (.bool true)))
  {r:Reach}{b0:Nat}{args:Array Value}{ds gs:List (DataW H)}{c:List MemPlace}(h:s.fn H ds={results:=[.lit (.bool true)],args:=ds})
  (m:∀(j:Nat) t v,fn.params[j]?=some t->args[j]?=some v->Value.okWide P W r b0 t v)
  (u:DataW.Whole enc P fn.params.toList s.vars false W args.toList ds gs c) (hk:d9 ds<=1048576) (hG:sK (qk W):=by exact trivial) :
  Calls P f args W fun e W'=>∃v,e=.returned v/\s.post enc P fn false true false false W args v W':=by
 have n:=u;rw[a] at u;obtain⟨p,q,hA,hV,rfl,ad,an⟩:=u;obtain⟨rfl,rfl⟩:=trodVars_none hV;have k:=aa1.1 hm;refine(entry hS (fun t w=>by have:=k t w;simp only[aaN,List.contains_iff_mem] at this;exact this.1) (fun j t v h1 h2=>m j t v (by simpa using h1) (by simpa using h2)) hA hk hG law).mono ?_;rintro e W' ⟨rfl,hb⟩;refine⟨_,rfl,zN (pa:=p) (pv:=[]) n ?_ ?_ ?_ rfl hb (ok_one d rfl (okWide_bool_mk o _))⟩
 ·intro b z hd;simp only[abo,h,d];exact trodAll_cons_mk (shut_bool o _) trodAll_mk0
 ·intro z l;simp only[abo,h];exact zM hl (aa1.2 fun t w=>by have:=k t w;simp only[aaN] at this ⊢;exact this.2) hb hA (fun x y=>n.lt x (by simp[y])) (fun x y=>l x (by simp[y]))
 ·intro z l;rw[a];simp only[abo,h];exact rfl
end
end Go.Fr.T
namespace Go.Fr.T
open Go Go.RowKit Go.Fr Go.Fr.Api
theorem ql {P:Program}{t:TypeId}{ts:List TypeId}{gs:List G}(h:Qh P (t::ts) gs):∃g r n,gs=g::r/\Ok P n t g/\Qh P ts r:=by
 cases gs with
 | nil=>exact h.elim
 | cons g r=>obtain⟨⟨n,h1⟩,a⟩:=h;exact⟨g,r,n,rfl,h1,a⟩
theorem OJ {P:Program}{gs:List G}(h:Qh P [] gs):gs=[]:=by
 cases gs with
 | nil=>rfl
 | cons g r=>exact h.elim
theorem Gu {l:List G}:uZ (.st l)=.agg (ru (.st l)):=by simp only[uZ,ru]
theorem OL (x:Ty):uZ x.g=.agg (aM x):=by
 rw[<-yx];cases x;exact Gu
theorem Ii (x:Prog):uZ x.g=.agg (jU x):=by
 rw[<-KY];exact Gu
theorem Rt (n:Int):uZ (I n)=IC n:=rfl
theorem vU {a:Sort _}{p:a->Prop}{K:Prop}(h:∃x,p x) (H:∀x,p x->K):K:=h.elim H
theorem fJ {a:Type}{l:List a}{k:Nat}{K:Prop}(h:k<l.length) (H:∀x,l[k]?=some x->x∈l->K):K:=H l[k] (aaQ h) (List.getElem_mem h)
theorem aZ {a:Type}{l:List a}{k:Nat}{K:Prop}(h:k<l.length) (H:∀x,l[k]?=some x->x∈l->l.drop k=x::l.drop (k+1)->K):K:=H l[k] (aaQ h) (List.getElem_mem h) (List.drop_eq_getElem_cons h)
section
variable {P:Program}{L:TL}{ρ:aK}
def Such (p:Prop):List TO->C->Prop:=fun Mo v=>Mo=[]/\∃b,v=.bool b/\(b=true->p)
theorem SY {Lin:List TO}{v:C}{p:Prop}(b:Bool) (hb:aG Lin (List.range' 1000 Lin.length) []=true) (e:v.aat.ren (bA [] 1000)=.bool b) (a:b=true->p):fZ Lin L v (Such p) :=
 ⟨[],[],L,v,v,[],rfl,.inl ⟨rfl,rfl⟩,rfl,rfl,hb,fun _=>⟨rfl,b,e,a⟩⟩
end
end Go.Fr.T
namespace Go.Fr.T
open Go Go.RowKit Go.Fr
end Go.Fr.T
