/- Part of the proofs of the statements of this seat. -/
import Derived.Test.YthfdbepkalpplaaFW1
import Derived.Tactics
import Derived.Tactics2
import Derived.Defers
import Derived.Recover
import Derived.OneCell
import Derived.ChangeArms
import Derived.DataReads
import Derived.Carry
import Derived.ChangeSame
import Derived.WalkKit
import Derived.ProofKit
import Derived.OpenShut
set_option maxRecDepth 10000
set_option linter.unusedVariables false
set_option linter.unusedSimpArgs false
namespace Go.Fr.T
open Go Go.RowKit Go.Fr
section
variable {P:Program}{G:Nat->Option (Nat×TypeId)}{F:aA}{L:Loc}{ρ:Env}{M:TL}{τ:aG}
def Both (G:Nat->Option (Nat×TypeId)) (K:TK):dQ:=fun F L ρ=>∃M τ,TS G F L ρ M τ/\K M τ
theorem lW {k:Nat}{a:Option Addr}{c n:Nat}{t sz:Nat}{xs:List Value}(h:L.get k=some (.row (.slice a n c) t sz n xs)):aN F L (.rw k) (.v (.slice a n c)) :=
 ⟨_,rfl,by simp only[Rel];exact⟨a,c,t,sz,n,xs,rfl,h⟩⟩
theorem Te {g:Nat}{F':aA}{t:TypeId}{cs:List C}{a:List Value}{fr:Nat×Nat}(b:F' g=some (.cells a.toArray t fr)) (h1:fB cs=true) (c:aB F' [] cs a):aN F' L (.pt cs 0) (.v (.pointer (some ⟨g,0,none⟩))) :=
 ⟨g,0,0,a,.inl ⟨rfl,rfl⟩,⟨0,_,t,fr,b,rfl,fun i v hi=>by simpa using hi⟩,h1,c⟩
theorem jK (he:∀j,aN F L (τ j) (ρ j)) {sz:Nat}:∀{xs:List X},qK τ sz xs=true->gC L ρ sz xs=true/\aR F sz (vL τ xs) (cellsOf L ρ xs)/\(vL τ xs).length=xs.length
 | [],_=>⟨rfl,by simp only[vL,cellsOf,aR],rfl⟩
 | x::xs,h=>by
  simp only[qK] at h;split at h
  case h_2=>cases h
  rename_i h1 h2 h3 h4;obtain⟨k1,c,d⟩:=jK he h;have b:=iN he h1;have a:(aO (val L ρ x)).length=sz:=by rw[b.len];exact cn h2
  refine⟨by simp only[gC,jF a];exact k1,?_,by simp only[vL,abo,d]⟩;simp only[vL,cellsOf,aR];exact⟨_,_,rfl,a,oF h3,lD (jI h4 b),c⟩
theorem eM {t:Nat}(h:UQ t=true):t<1048576/\t≠0:=by
 unfold UQ at h;split at h
 ·cases h
 ·rename_i h1;have:=abq h;exact⟨by omega,fun e=>by subst e;simp at h1⟩
theorem Hg {t:TypeId}{x:X}{k:Nat}{K:TK}(f:TS G F L ρ M τ) (l:M.get k=none) (m:(dG τ x).okc=true) (d:t<1048576/\t≠0) (h:K (M.set k (.box t (dc (dG τ x)))) (bH (some k) (.own k 0) τ)) (g:Nat) :
  Both G K F (L.set k (.box g t (aO (val L ρ x)))) (put (some k) (.own k 0) ρ):=by
 have a:=cu f.tl l;have b:Ext L (L.set k (.box g t (aO (val L ρ x)))):=by
  intro j p e;refine⟨p,?_,Own.aav p⟩;rw[Loc.aap,fo (by rintro rfl;rw[a] at e;cases e)];exact e
 have h1:=f.new (aA.le_refl F) a (o:=.box g t (aO (val L ρ x))) (to:=.box t (dc (dG τ x))) ⟨⟨d.1,.inl rfl,d.2⟩,(iN f.env m).ext (aA.le_refl F) b⟩;exact⟨_,_,h1.put (c:=.own k 0) (sv:=.own k 0) ⟨rfl,g,t,_,by rw[Loc.aap,eu rfl]⟩ (some k),h⟩
theorem Bv {t:TypeId}{zs:List Value}{k:Nat}{K:TK}(d:TS G F L ρ M τ) (e:M.get k=none) (a:t<1048576/\t≠0) (h:K (M.set k (.box t (zs.map sM))) (bH (some k) (.own k 0) τ)) (g:Nat) :
  Both G K F (L.set k (.box g t zs)) (put (some k) (.own k 0) ρ):=by
 have b:=cu d.tl e;have h1:=d.new (aA.le_refl F) b (o:=.box g t zs) (to:=.box t (zs.map sM)) ⟨⟨a.1,.inl rfl,a.2⟩,lB zs⟩;exact⟨_,_,h1.put (c:=.own k 0) (sv:=.own k 0) ⟨rfl,g,t,_,by rw[Loc.aap,eu rfl]⟩ (some k),h⟩
theorem Hh {e n sz:Nat}{xs:List X}{d:Option Nat}{K:TK}(b:TS G F L ρ M τ) (k:qK τ sz xs=true) (f:xs.length=n) (o:n<=maxLen) (h:K M (bH d (.slx (vL τ xs)) τ)) {g:Nat}{F':aA}(a:F.le F')
  (m:F' g=some (.cells (cellsOf L ρ xs).toArray e (0,0))):Both G K F' L (put d (.v (.slice (some ⟨g,0,none⟩) n n)) ρ):=by
 obtain⟨k1,j,l⟩:=jK b.env k;have hf:dY F' (some ⟨g,0,none⟩) 0 (cellsOf L ρ xs):=⟨_,_,_,_,rfl,m,rfl,fun i v hi=>by simpa using hi⟩;refine⟨_,_,(b.mono a).put (c:=.slx (vL τ xs)) ⟨_,rfl,?_⟩ d,h⟩;simp only[Rel];exact⟨⟨g,0,none⟩,by rw[l,f],by omega,sz,(j.mono a).frz hf⟩
theorem OY {e n sz:Nat}{xs:List X}{k:Nat}{K:TK}(b:TS G F L ρ M τ) (j:qK τ sz xs=true) (m:xs.length=n) (l:n<=maxLen) (d:M.get k=none) (h:K (M.set k (.row e sz (vL τ xs))) (bH (some k) (.rw k) τ)) (g:Nat) :
  Both G K F (L.set k (.row (.slice (some ⟨g,0,none⟩) n n) e sz n (cellsOf L ρ xs))) (put (some k) (.v (.slice (some ⟨g,0,none⟩) n n)) ρ):=by
 obtain⟨k1,f,p⟩:=jK b.env j;have a:=cu b.tl d;have h1:=b.new (aA.le_refl F) a (o:=.row (.slice (some ⟨g,0,none⟩) n n) e sz n (cellsOf L ρ xs)) (to:=.row e sz (vL τ xs)) ⟨rfl,rfl,by rw[p,m],⟨l,_,_,rfl,fun e=>(by cases e)⟩,f⟩;exact⟨_,_,h1.put (c:=.rw k) (lW (by rw[Loc.aap,eu rfl])) (some k),h⟩
theorem tC {e sz:Nat}{k:Nat}{els b:List (List C)}{d:Option Nat}{K:TK}(r:TS G F L ρ M τ) {s:Value}{xs f:List Value}(l:L.get k=some (.row s e sz els.length xs)) (q:aR F sz els xs) (n:aR F sz b f)
  (m:els.length+b.length<=maxLen) (h:K ((M.aaq (C.kill k)).set k (.row e sz (els++b))) (bH d (.rw k) fun j=>(τ j).kill k)) {v:Value}(o:∃a c,v=.slice a (els.length+b.length) c/\(a=none->els.length+b.length=0)) :
  Both G K F (L.set k (.row v e sz (els.length+b.length) (xs++f))) (put d (.v v) ρ):=by
 obtain⟨a,c,rfl,p⟩:=o;have h1:=r.aaL (k:=k) (o':=.row (.slice a (els.length+b.length) c) e sz (els.length+b.length) (xs++f)) (to:=.row e sz (els++b)) (fun g t cs e=>by rw[l] at e;injection e with e;cases e)
  ⟨rfl,rfl,by simp,⟨m,a,c,rfl,p⟩,q.append n⟩
 exact⟨_,_,h1.put (c:=.rw k) (lW (by rw[Loc.aap,eu rfl])) d,h⟩
theorem qQ {e sz:Nat}{k:Nat}{b:List (List C)}{d:Option Nat}{K:TK}(j:TS G F L ρ M τ) {f:List Value}(l:M.get k=none) (n:aR F sz b f)
  (q:b.length<=maxLen) (h:K (M.set k (.row e sz b)) (bH d (.rw k) τ)) {v:Value}(m:∃a c,v=.slice a (0+b.length) c/\(a=none->0+b.length=0)) :
  Both G K F (L.set k (.row v e sz (0+b.length) ([]++f))) (put d (.v v) ρ):=by
 obtain⟨a,c,rfl,p⟩:=m;have h1:=j.new (aA.le_refl F) (cu j.tl l) (o:=.row (.slice a (0+b.length) c) e sz (0+b.length) ([]++f)) (to:=.row e sz b) ⟨rfl,rfl,by simp,⟨by omega,a,c,rfl,p⟩,n⟩;exact⟨_,_,h1.put (c:=.rw k) (lW (by rw[Loc.aap,eu rfl])) d,h⟩
theorem uG {x:X}{k e sz:Nat}{els:List (List C)}(d:TS G F L ρ M τ) (p:dG τ x=.rw k) (h:M.get k=some (.row e sz els)) :
  ∃a c xs,ev ρ x=.v (.slice a els.length c)/\L.get k=some (.row (.slice a els.length c) e sz els.length xs)/\aR F sz els xs/\els.length<=maxLen:=by
 obtain⟨a,c,r,o,n,q,m,f⟩:=F5 d.env p;obtain⟨v,xs,b,⟨j,_⟩,l⟩:=mR d.tl h;rw[f] at b;injection b with b
 injection b with q1 q2 q3 q4 q5
 subst q2 q3 q4 q5;exact⟨a,c,_,m,f,l,j⟩
set_option maxHeartbeats 1000000 in
theorem D8 {e sz b:Nat}{s x:X}{d:Option Nat}{K:TK}(l:TS G F L ρ M τ) (h:OH e sz b (dG τ s) (dG τ x) d M τ K):∃sv xv,ev ρ s=.v sv/\ev ρ x=.v xv/\GU F L e sz b sv xv fun L1 v=>Both G K F L1 (Fr.put d (.v v) ρ):=by
 have he:=l.env;simp only[OH,gH] at h;split at h
 ·rename_i k f hs n;split at h
  case h_2=>exact h.elim
  rename_i e' ba els p;split at h
  case h_2=>exact h.elim
  rename_i h1 h2;obtain rfl:=aa5 h1;obtain rfl:=aa5 h2;obtain⟨g1,m,q,z⟩:=h;obtain⟨a,c,xs,e1,e2,hr,hm⟩:=uG l hs p;obtain⟨a',t,ao,y,e4,e5,e6,e7⟩:=lV he n;obtain⟨w,y1,y2,y3⟩:=jJ e7 g1;exact⟨_,_,e1,y,k,els.length,xs,f.length,w,.inl e2,⟨a',t,rfl,y1,y2.imp id .inl⟩,y3.ones,m,q,fun v hv=>tC l e2 hr y3 m z hv⟩
 ·rename_i f k hs n;split at h
  case h_2=>exact h.elim
  rename_i p;obtain⟨g1,m,q,z⟩:=h;obtain⟨a',t,ao,y,e4,e5,e6,e7⟩:=lV he n;obtain⟨w,y1,y2,y3⟩:=jJ e7 g1;simp only[ab1] at m q;exact⟨_,_,uz he hs,y,k,0,[],f.length,w,.inr (.inl ⟨cu l.tl p,rfl,rfl,rfl⟩),⟨a',t,rfl,y1,y2.imp id .inl⟩,y3.ones,m,q,fun v hv=>qQ l p y3 (by omega) z hv⟩
 ·rename_i els f k hs n;split at h
  case h_2=>exact h.elim
  rename_i p;obtain⟨g0,bl,g1,m,q,z⟩:=h;obtain⟨a,cb,e1,hm,e2⟩:=CC he hs;obtain⟨a',t,ao,y,e4,e5,e6,e7⟩:=lV he n;obtain⟨w,y1,y2,y3⟩:=jJ e7 g1;obtain⟨xs,x1,x2,x3⟩:=jJ e2 bl;refine⟨_,_,e1,y,k,els.length,xs,f.length,w,.inr (.inr ⟨cu l.tl p,a,rfl,g0,x1,x2⟩),⟨a',t,rfl,y1,y2.imp id .inl⟩,y3.ones,m,q,fun v hv=>?_⟩;obtain⟨av,cv,rfl,hn⟩:=hv;have h1:=l.new (aA.le_refl F) (cu l.tl p) (o:=.row (.slice av (els.length+f.length) cv) e sz (els.length+f.length) (xs++w)) (to:=.row e sz (els++f)) ⟨rfl,rfl,by simp,⟨m,av,cv,rfl,hn⟩,x3.append y3⟩;exact⟨_,_,h1.put (c:=.rw k) (lW (by rw[Loc.aap,eu rfl])) _,z⟩
 ·rename_i k k' hs n;have n:=CB n;split at h
  case h_2=>exact h.elim
  rename_i e' ba els bk az f p r;split at h
  case h_2=>exact h.elim
  rename_i h1 h2 h3;obtain rfl:=aa5 h1;obtain rfl:=aa5 h2;obtain rfl:=aa5 h3;obtain⟨g1,m,q,z⟩:=h;obtain⟨a,c,xs,e1,e2,hr,hm⟩:=uG l hs p;obtain⟨a',t,w,y,e4,j,bi⟩:=uG l n r;refine⟨_,_,e1,y,k,els.length,xs,f.length,w,.inl e2,⟨a',t,rfl,iM j,?_⟩,j.ones,m,q,fun v hv=>tC l e2 hr j m z hv⟩;cases a' with
  | some ad=>exact .inr (.inr ⟨k',_,_,_,_,_,ad,t,e4,rfl,rfl,fun i u hu=>hu⟩)
  | none =>
   obtain⟨v,bc,q1,⟨_,a2,c2,q2,q3⟩,q4⟩:=mR l.tl r;rw[e4] at q1;injection q1 with q1
   injection q1 with r1 r2 r3 r4 r5
   rw[<-r1] at q2;injection q2 with q2
   have hz:=q3 q2.symm;have hl:=iM j;refine .inr (.inl ⟨hz,List.length_eq_zero_iff.1 (by rw[hl,hz];simp)⟩)
 ·rename_i k' k hs n;have n:=CB n;split at h
  case h_2=>exact h.elim
  rename_i bk az f p r;split at h
  case h_2=>exact h.elim
  rename_i h3;obtain rfl:=aa5 h3;obtain⟨g1,m,q,z⟩:=h;obtain⟨a',t,w,y,e4,j,bi⟩:=uG l n r;simp only[ab1] at m q;refine⟨_,_,uz he hs,y,k,0,[],f.length,w,.inr (.inl ⟨cu l.tl p,rfl,rfl,rfl⟩),⟨a',t,rfl,iM j,?_⟩,j.ones,m,q,fun v hv=>qQ l p j (by omega) z hv⟩;cases a' with
  | some ad=>exact .inr (.inr ⟨k',_,_,_,_,_,ad,t,e4,rfl,rfl,fun i u hu=>hu⟩)
  | none =>
   obtain⟨v,bc,q1,⟨_,a2,c2,q2,q3⟩,q4⟩:=mR l.tl r;rw[e4] at q1;injection q1 with q1
   injection q1 with r1 r2 r3 r4 r5
   rw[<-r1] at q2;injection q2 with q2
   have hz:=q3 q2.symm;have hl:=iM j;refine .inr (.inl ⟨hz,List.length_eq_zero_iff.1 (by rw[hl,hz];simp)⟩)
 ·exact h.elim
theorem OZ {e sz b:Nat}{zs:List Value}{s x:X}{d:Option Nat}{K:TK}(c:TS G F L ρ M τ) (h:bX P (.app e sz b zs s x) d M τ K):evalOp P (.app e sz b zs s x) d F L ρ (Both G K):=by
 obtain⟨sv,j,f,a,h3⟩:=D8 c h;simp only[evalOp,f,a];exact h3
theorem KZ {e sz b:Nat}{zs:List Value}{s x:X}{d:Option Nat}{K:TK}(k:TS G F L ρ M τ) (h:bX P (.appX e sz b zs s x) d M τ K):evalOp P (.appX e sz b zs s x) d F L ρ (Both G K):=by
 obtain⟨sv,o,f,l,⟨j,n,xs,m,a,h1,h2,h3,h4,h5,h6⟩⟩:=D8 k h;simp only[evalOp,f,l];exact⟨j,n,xs,m,a,h1,h2,h3,h4,h5,fun v c _=>h6 v c⟩
set_option maxHeartbeats 1000000 in
theorem K0 {e sz b:Nat}{zs:List Value}{s x:X}{d:Option Nat}{K:TK}(j:TS G F L ρ M τ) (h:bX P (.appD e sz b zs s x) d M τ K):evalOp P (.appD e sz b zs s x) d F L ρ (Both G K):=by
 have he:=j.env;simp only[bX,gH,fP,fJ] at h;simp only[evalOp];split at h
 ·rename_i k f z w;split at h
  case h_2=>exact h.elim
  rename_i e' ba els m;split at h
  case h_2=>exact h.elim
  rename_i h1 h2;obtain rfl:=aa5 h1;obtain rfl:=aa5 h2;obtain⟨y,l,n,q⟩:=h;obtain⟨a,c,xs,e1,e2,hr,hm⟩:=uG j z m;obtain⟨a',c',t,u,e4,e5,e6,e7⟩:=lV he w;obtain⟨p,y1,y2,y3⟩:=jJ e7 y;rw[e1,u];exact⟨k,els.length,xs,f.length,p,.inl e2,⟨a',c',rfl,y1,y2⟩,y3.ones,l,n,fun v r _=>tC j e2 hr y3 l q r⟩
 ·rename_i f k z w;split at h
  case h_2=>exact h.elim
  rename_i m;obtain⟨y,l,n,q⟩:=h;obtain⟨a',c',t,u,e4,e5,e6,e7⟩:=lV he w;obtain⟨p,y1,y2,y3⟩:=jJ e7 y;simp only[ab1] at l n;rw[uz he z,u];exact⟨k,0,[],f.length,p,.inr (.inl ⟨rfl,cu j.tl m,rfl,rfl,rfl⟩),⟨a',c',rfl,y1,y2⟩,y3.ones,l,n,fun v r _=>qQ j m y3 (by omega) q r⟩
 ·rename_i els f k z w;split at h
  case h_2=>exact h.elim
  rename_i m;obtain⟨g0,ae,y,l,n,q⟩:=h;obtain⟨a,az,e1,hm,e2⟩:=CC he z;obtain⟨a',c',t,u,e4,e5,e6,e7⟩:=lV he w;obtain⟨p,y1,y2,y3⟩:=jJ e7 y;obtain⟨xs,x1,x2,x3⟩:=jJ e2 ae;rw[e1,u];refine⟨k,els.length,xs,f.length,p,.inr (.inr ⟨rfl,cu j.tl m,a,rfl,g0,x1,x2⟩),⟨a',c',rfl,y1,y2⟩,y3.ones,l,n,fun v r _=>?_⟩;obtain⟨av,cv,rfl,hn⟩:=r;have h1:=j.new (aA.le_refl F) (cu j.tl m) (o:=.row (.slice av (els.length+f.length) cv) e sz (els.length+f.length) (xs++p)) (to:=.row e sz (els++f)) ⟨rfl,rfl,by simp,⟨l,av,cv,rfl,hn⟩,x3.append y3⟩;exact⟨_,_,h1.put (c:=.rw k) (lW (by rw[Loc.aap,eu rfl])) _,q⟩
 ·exact h.elim
theorem Bw {n:Nat}{y x:X}{d:Option Nat}{K:TK}(s:TS G F L ρ M τ) (h:storeT false n y x d M τ K):evalOp P (.store n y x) d F L ρ (Both G K):=by
 have he:=s.env;simp only[storeT,gH,fP,fJ] at h;simp only[evalOp];split at h
 ·rename_i k off h1 h2 h3 hy;split at h
  case h_2=>exact h.elim
  rename_i t cs hk;split at h
  case h_2=>exact h.elim
  rename_i hl;obtain⟨g,ty,vs,hL,q,u⟩:=lM s.tl hk;have l:=iN he h1;have o:iD (aO (val L ρ x)) n=true:=jF (by rw[l.len];exact cn h2);have ho:=xP (oG l h3);rw[o,ho,(jx he hy).1];simp only[hL];have ae:=(q.drop off).take n;rw[py u.2.2 (jF (by rw[ae.len];exact cn hl))];have h4:=s.turn (o':=.box g ty (bY vs off (aO (val L ρ x)))) (to:=.box t (jw cs off (dc (dG τ x)))) hL ⟨rfl,rfl⟩ (fun g' t' cs' e=>by injection e with a b c;subst a b;exact⟨_,rfl⟩)
   (fun L' hx=>⟨u,(nK q l).ext (aA.le_refl F) hx⟩)
  exact⟨_,_,h4.put (c:=.und) (sv:=.v undef) ⟨_,rfl,by simp only[Rel]⟩ d,h⟩
 ·rename_i k j off h1 h2 h3 hy;split at h
  case h_2=>exact h.elim
  rename_i t sz els h0 hk hp;obtain⟨r0,es,r1,r2,r3⟩:=h;obtain⟨ad,t',f,m,c,am,e1,e2⟩:=xO he hy;obtain⟨v,xs,z,⟨hm,q6⟩,q⟩:=mR s.tl hk;rw[e2] at z;injection z with z
  injection z with q1 q2 q3 q4 q5
  subst q1 q2 q3 q4 q5;have l:=iN he h1;have p:(aO (val L ρ x)).length=n:=by rw[l.len];exact cn h2
  have o:iD (aO (val L ρ x)) n=true:=jF p;have ho:=xP (oG l h3);rw[o,ho,e1];have bl:es.length=f:=by
   obtain⟨us,u1,_,u3,_⟩:=q.at r1;rw[<-u1,u3.len]
  have hn:off+n<=f:=abq r0;have r:=q.set (ds:=(dc (dG τ x)).map C.can) (us:=aO (val L ρ x)) (off:=off) r1 (by rw[p];exact hn) (lD (jI hp l)) (oF h3);have w:j<els.length:=(aa6.1 r1).1;have ag:=iM q;have h4:=s.turn (o':=.row (.slice (some ad) els.length c) t' f els.length (bY am (j*f+off) (aO (val L ρ x)))) (to:=.row t' f (els.set j (jw es off ((dc (dG τ x)).map C.can)))) e2 ⟨rfl,rfl,rfl⟩
   (fun g' bd cs' e=>by cases e) (fun L' hx=>⟨rfl,rfl,by simp,⟨hm,_,_,rfl,fun e=>(by cases e)⟩,r⟩)
  refine⟨k,_,_,_,_,_,ad,c,e2,rfl,rfl,?_,oG l h3,_,_,h4.put (c:=.und) (sv:=.v undef) ⟨_,rfl,by simp only[Rel]⟩ d,r3 es r1⟩;rw[ag,p];have:(j+1)*f<=els.length*f:=Nat.mul_le_mul_right _ w;rw[Nat.add_mul] at this;omega
 ·exact h.elim
theorem yS {n:Nat}{y x:X}{d:Option Nat}{K:TK}(m:TS G F L ρ M τ) (h:storeT true n y x d M τ K):evalOp P (.storeD n y x) d F L ρ (Both G K):=by
 have he:=m.env;simp only[storeT,gH,fP,fJ] at h;simp only[evalOp];split at h
 ·rename_i k off h1 h2 h3 s;split at h
  case h_2=>exact h.elim
  rename_i t cs r;split at h
  case h_2=>exact h.elim
  rename_i u;obtain⟨g,ty,z,p,q,f⟩:=lM m.tl r;have o:=iN he h1;have j:iD (aO (val L ρ x)) n=true:=jF (by rw[o.len];exact cn h2);have ho:=xP (oG o h3);rw[j,ho,(jx he s).1];simp only[p];have l:=(q.drop off).take n;rw[py f.2.2 (jF (by rw[l.len];exact cn u))];have h4:=m.turn (o':=.box g ty (bY z off (aO (val L ρ x)))) (to:=.box t (jw cs off (dc (dG τ x)))) p ⟨rfl,rfl⟩ (fun g' t' cs' e=>by injection e with a b c;subst a b;exact⟨_,rfl⟩)
   (fun L' w=>⟨f,(nK q o).ext (aA.le_refl F) w⟩)
  exact⟨_,_,h4.put (c:=.und) (sv:=.v undef) ⟨_,rfl,by simp only[Rel]⟩ d,h⟩
 ·exact h.elim
 ·exact h.elim
theorem Jc {e sz b:Nat}{zs:List Value}{l c:X}{d:Option Nat}{K:TK}(j:TS G F L ρ M τ) (h:bX P (.makeS e sz b zs l c) d M τ K):evalOp P (.makeS e sz b zs l c) d F L ρ (Both G K):=by
 have he:=j.env;simp only[bX,gH,fP,fJ] at h;simp only[evalOp];split at h
 case h_2=>exact h.elim
 rename_i k1 n z m k t v;split at h
 case h_2=>exact h.elim
 rename_i s h1 h2;rw[(gW he t).1,(gW he v).1];have a:=cu j.tl s;simp only[a];obtain⟨x,q,r,p,u⟩:=h;refine⟨x,q,r,p,fun g=>?_⟩;have w:aB F [] ((zs.map sM).map C.can) zs:=lD (lB zs);have f:∀i:Nat,aR F sz (List.replicate i ((zs.map sM).map C.can)) (List.replicate i zs).flatten:=by
  intro i
  induction i with
  | zero=>simp only[List.replicate_zero,List.flatten_nil,aR]
  | succ i y =>
   simp only[ack,List.flatten_cons,aR];exact⟨zs,_,rfl,by have:=cn h1;simpa using this,oF h2,w,y⟩
 have h3:=j.new (aA.le_refl F) a (o:=.row (.slice (some ⟨g,0,none⟩) n.toNat m.toNat) e sz n.toNat (List.replicate n.toNat zs).flatten) (to:=.row e sz (List.replicate n.toNat ((zs.map sM).map C.can)))
  ⟨rfl,rfl,by simp,⟨abN (Int.toNat_le_toNat q) p,_,_,rfl,fun e=>(by cases e)⟩,f _⟩
 exact⟨_,_,h3.put (c:=.rw k) (lW (by rw[Loc.aap,eu rfl])) (some k),u⟩
end
section
variable {P:Program}{G:Nat->Option (Nat×TypeId)}{F:aA}{L:Loc}{ρ:Env}{M:TL}{τ:aG}
theorem CF:∀{ks:List Nat}{i j m:Nat},bn ks i j=some m->∃n,ks[n]?=some j/\m=i+n
 | [],_,_,_,h=>by simp[bn] at h
 | k::ks,i,j,m,h=>by
  simp only[bn] at h;cases a:Nat.beq j k with
  | true =>
   have:=aa5 a;subst this;rw[a] at h;injection h with h
   exact⟨0,by simp,by omega⟩
  | false =>
   rw[a] at h;obtain⟨n,h1,h2⟩:=CF h;exact⟨n+1,by simpa using h1,by omega⟩
theorem oJ {ko:List Nat}{j m:Nat}(h:aL ko j=some m):1000<=j/\ko[j-1000]?=some m:=by
 simp only[aL] at h;split at h
 ·rename_i h1;exact⟨abq h1,h⟩
 ·cases h
theorem dw:∀{l:List Nat},aU l=true->l.Nodup
 | [],_=>List.nodup_nil
 | k::l,h=>by
  simp only[aU] at h;split at h
  ·cases h
  ·rename_i h1;exact List.nodup_cons.2 ⟨fun a=>(by rw[di.2 a] at h1;cases h1),dw h⟩
theorem K1 {L':Loc}{f:Nat->Option Nat}(hf:∀j m,f j=some m->∀o,L.get j=some o->L'.get m=some o) (c:C) (v:Value) (d:c.leaf=true) (h:Rel F L c v):Rel F L' (xL f c) v:=by
 cases c<;>simp only[C.leaf,abl] at d<;>simp only[xL]
 case rw j =>
  simp only[Rel] at h;obtain⟨a,c,t,sz,n,xs,rfl,h⟩:=h;cases b:f j with
  | none=>simp only[Rel]
  | some m=>simp only[Rel];exact⟨a,c,t,sz,n,xs,rfl,hf j m b _ h⟩
 case own j off =>
  simp only[Rel] at h;obtain⟨g,t,cs,h,rfl⟩:=h;cases b:f j with
  | none=>simp only[Rel]
  | some m=>simp only[Rel];exact⟨g,t,cs,hf j m b _ h,rfl⟩
 case mpr j =>
  simp only[Rel] at h;obtain⟨g,cs,h,rfl⟩:=h;cases b:f j with
  | none=>simp only[Rel]
  | some m=>simp only[Rel];exact⟨g,cs,hf j m b _ h,rfl⟩
 case ownv=>exact h.elim
 case elr=>exact h.elim
 all_goals
  exact bP (aA.le_refl F) (fun k e=>by rcases e with⟨off,e⟩ | e | e<;>cases e) rfl h
theorem Rel.ren {L':Loc}{f:Nat->Option Nat}(hf:∀j m,f j=some m->∀o,L.get j=some o->L'.get m=some o) {c:C}{v:Value}(h:Rel F L c v):Rel F L' (c.ren f) v:=Rel.mp (K1 hf) 3 h
theorem cZ.ren {L':Loc}{f:Nat->Option Nat}(hf:∀j m,f j=some m->∀o,L.get j=some o->L'.get m=some o):∀{o:TO}{p:Own},cZ F L o p->cZ F L' (o.aaq (C.ren f)) p
 | .box t cs,.box g a d,r=>⟨r.1,r.2.map fun c _ v h=>h.ren hf⟩
 | .row t sz els,.row v a b n xs,r=>r
 | .box _ _,.row ..,r=>r.elim
 | .row ..,.box ..,r=>r.elim
 | .map _,.row ..,r=>r.elim
 | .map es,.box g a d,r=>r
theorem kN (e:bV F L M):∀{ks:List Nat}{Lin:List TO},M.sub ks=some Lin->∃Li,L.sub ks=some Li/\Li.length=Lin.length/\∀(i:Nat) o p,Lin[i]?=some o->Li[i]?=some p->cZ F L o p
 | [],Lin,h=>by simp only[TL.sub,aa1] at h;subst h;exact⟨[],rfl,rfl,by simp⟩
 | k::ks,Lin,h=>by
  simp only[TL.sub] at h;split at h
  case h_2=>cases h
  rename_i o l h1 h2;injection h with h
  subst h;obtain⟨Li,m,q,n⟩:=kN e h2;rcases eL (e k) with⟨a,f⟩ | ⟨o',p,a,f,j⟩
  ·rw[h1] at a;cases a
  ·rw[h1] at a;injection a with a
   subst a;refine⟨p::Li,by simp only[Loc.sub,f,m],by simp[q],fun i d b hi c=>?_⟩;cases i with
   | zero=>simp only[abm,aa1] at hi c;subst hi;subst c;exact j
   | succ i=>exact n i d b (by simpa using hi) (by simpa using c)
theorem lX {ks:List Nat}{Li:List Own}(a:L.sub ks=some Li):∀j m,bn ks 1000 j=some m->∀o,L.get j=some o->(inp Li).get m=some o:=by
 intro j m h o c;obtain⟨n,h1,rfl⟩:=CF h;obtain⟨_,b⟩:=cP a;rw[aJ,eu (by omega),show 1000+n-1000=n by omega,<-b n j h1];exact c
theorem lN (f:bV F L M) {ks:List Nat}{Lin:List TO}{Li:List Own}(e:Li.length=Lin.length) (c:L.sub ks=some Li) (d:∀(i:Nat) o p,Lin[i]?=some o->Li[i]?=some p->cZ F L o p) :
  bV F (inp Li) (cT (Lin.map (TO.aaq (C.ren (bn ks 1000))))):=by
 intro k;rw[cG,aJ];split
 ·rw[abk];cases b:Lin[k-1000]? with
  | none =>
   have:Li[k-1000]?=none:=by rw[abT] at b ⊢;omega
   rw[this];trivial
  | some o =>
   have a:k-1000<Li.length:=by have:=(aa6.1 b).1;omega
   rw[aa4 a];exact(d _ _ _ b (aa4 a)).ren (lX c)
 ·trivial
def lY (L:Loc) (k:Nat):Loc:=match L.get k with | some (.row ..)=>L.del k | _=>L
def mU:List Nat->Loc->Loc
 | [],L=>L
 | k::ks,L=>mU ks (lY L k)
theorem vS (k:Nat):(∀c v,c.leaf=true->Rel F L c v->Rel F (lY L k) (gG k c) v)/\(∀c sv,c.leaf=true->aN F L c sv->aN F (lY L k) (gG k c) sv):=by
 by_cases a:∃v t sz n xs,L.get k=some (.row v t sz n xs)
 ·obtain⟨v,t,sz,n,xs,a⟩:=a;have e:lY L k=L.del k:=by simp only[lY,a]
  rw[e];have h1:∀g t cs,L.get k≠some (.box g t cs):=fun g t cs h=>by rw[a] at h;injection h with h;cases h
  have h2:∀j,j≠k->∀o,L.get j=some o->∃o',(L.del k).get j=some o'/\Own.like o o':=fun j d o f=>⟨o,by rw[Loc.aau,fo d];exact f,Own.aav o⟩;exact⟨oI h1 h2 (aA.le_refl F),pL h1 h2 (aA.le_refl F)⟩
 ·have e:lY L k=L:=by
   simp only[lY];split
   ·rename_i h;exact o5 ⟨_,_,_,_,_,h⟩ a
   ·rfl
  rw[e];refine⟨fun c v b h=>?_,fun c sv b h=>?_⟩
  ·cases c<;>simp only[gG]<;>first
    | exact h
    | exact h.elim
    | (split<;>first | exact h | (simp only[Rel];done))
  ·cases c<;>simp only[gG]<;>first
    | exact h
    | (split<;>first | exact h | trivial)
theorem Rel.kills:∀(ks:List Nat) {L:Loc}{c:C}{v:Value},Rel F L c v->Rel F (mU ks L) (C.kills ks c) v
 | [],L,c,v,h=>h
 | k::ks,L,c,v,h=>Rel.kills ks (Rel.mp (vS k).1 3 h)
theorem aN.kills:∀(ks:List Nat) {L:Loc}{c:C}{sv:SV},aN F L c sv->aN F (mU ks L) (C.kills ks c) sv
 | [],L,c,sv,h=>h
 | k::ks,L,c,sv,h=>aN.kills ks (aN.mp (vS k).1 (vS k).2 3 h)
theorem cZ.kills (ks:List Nat) {L:Loc}:∀{o:TO}{p:Own},cZ F L o p->cZ F (mU ks L) (o.aaq (C.kills ks)) p
 | .box t cs,.box g a d,r=>⟨r.1,r.2.map fun c _ v h=>h.kills ks⟩
 | .row t sz els,.row v a b n xs,r=>r
 | .box _ _,.row ..,r=>r.elim
 | .row ..,.box ..,r=>r.elim
 | .map _,.row ..,r=>r.elim
 | .map es,.box g a d,r=>r
theorem D9 {k j:Nat}{o:Own}(h:(lY L k).get j=some o):L.get j=some o/\(j=k->∃g t cs,o=.box g t cs):=by
 unfold lY at h;split at h
 ·rw[Loc.aau] at h;split at h
  ·cases h
  ·rename_i a;exact⟨h,fun e=>o5 e a⟩
 ·rename_i b;refine⟨h,fun e=>?_⟩;subst e;cases o with
  | box g t cs=>exact⟨g,t,cs,rfl⟩
  | row v t sz n xs=>exact o5 h (b v t sz n xs)
theorem pM:∀{ks:List Nat}{L:Loc}{j:Nat}{o:Own},(mU ks L).get j=some o->L.get j=some o/\(j∈ks->∃g t cs,o=.box g t cs)
 | [],L,j,o,h=>⟨h,by simp⟩
 | k::ks,L,j,o,h=>by
  obtain⟨h1,h2⟩:=pM (ks:=ks) h;obtain⟨h3,h4⟩:=D9 h1;exact⟨h3,fun a=>by
   rcases abd.1 a with e | e
   ·exact h4 e
   ·exact h2 e⟩
theorem yT (ks:List Nat) (M:TL) (k:Nat):(TL.kills ks M).get k=(M.get k).map (TO.aaq (C.kills ks)):=by
 cases ks with
 | nil =>
  simp only[TL.kills];cases M.get k with
  | none=>rfl
  | some o =>
   cases o with
   | box t cs =>
    have e:(C.kills []:C->C)=id:=rfl;simp[TO.aaq,e]
   | row t sz els=>rfl
   | map es=>rfl
 | cons a ks=>exact qP _ _ _
theorem yU (ks:List Nat) (τ:aG) (j:Nat):dO ks τ j=(τ j).kills ks:=by cases ks<;>rfl
def CG:TO->Bool
 | .row _ _ _=>true
 | _=>false
theorem gQ:∀{Lin:List TO}{ks ko:List Nat},aH Lin ks ko=true->∀(i:Nat) o,Lin[i]?=some o->CG o=false->∃k,ks[i]?=some k/\ko[i]?=some k
 | [],_,_,_,i,o,e,_=>by simp at e
 | .box d f::l,[],ko,h,i,o,e,_=>by cases ko<;>simp[aH] at h
 | .box d f::l,k::ks,[],h,i,o,e,_=>by simp[aH] at h
 | .box d f::l,k::ks,c::ko,h,i,o,e,a=>by
  simp only[aH] at h;split at h
  case h_2=>cases h
  rename_i b;have:=aa5 b;subst this;cases i with
  | zero=>exact⟨k,by simp,by simp⟩
  | succ i=>simpa using gQ h i o (by simpa using e) a
 | .map es::l,[],ko,h,i,o,e,_=>by cases ko<;>simp[aH] at h
 | .map es::l,k::ks,[],h,i,o,e,_=>by simp[aH] at h
 | .map es::l,k::ks,c::ko,h,i,o,e,a=>by
  simp only[aH] at h;split at h
  case h_2=>cases h
  rename_i b;have:=aa5 b;subst this;cases i with
  | zero=>exact⟨k,by simp,by simp⟩
  | succ i=>simpa using gQ h i o (by simpa using e) a
 | .row ..::l,k::ks,c::ko,h,i,o,e,a=>by
  simp only[aH] at h;cases i with
  | zero =>
   simp only[abm,aa1] at e;subst e;cases a
  | succ i=>simpa using gQ h i o (by simpa using e) a
 | .row ..::l,k::ks,[],h,i,o,e,a=>by
  simp only[aH] at h;cases i with
  | zero =>
   simp only[abm,aa1] at e;subst e;cases a
  | succ i =>
   obtain⟨c,h1,h2⟩:=gQ h i o (by simpa using e) a;simp at h2
 | .row ..::l,[],ko,h,i,o,e,_=>by simp[aH] at h
theorem yV {Lin:List TO}{ks ko:List Nat}(h:aH Lin ks ko=true) (i:Nat) (t:TypeId) (cs:List C) (e:Lin[i]?=some (.box t cs)):∃k,ks[i]?=some k/\ko[i]?=some k:=gQ h i _ e rfl
theorem rN {M:TL}{ks:List Nat}:∀{ko:List Nat},jP M ks ko=true->∀k∈ko,k∈ks\/M.get k=none
 | [],_,k,a=>by simp at a
 | k0::ko,h,k,a=>by
  simp only[jP] at h;rcases abd.1 a with e | e
  ·subst e;split at h
   ·rename_i h1;exact .inl (di.1 h1)
   ·rename_i h1 h2;exact .inr h2
   ·cases h
  ·split at h
   ·exact rN h k e
   ·exact rN h k e
   ·cases h
theorem eV {ko:List Nat}{Lo:List Own}{L:Loc}(b:ko.Nodup) (c:ko.length=Lo.length) {i k:Nat}{o:Own}(a:ko[i]?=some k) (d:Lo[i]?=some o):(L.puts ko Lo).get k=some o:=by
 rcases dB ko Lo L k b c with⟨_,h2⟩ | ⟨e,h1,h2,_⟩
 ·exact o5 (aa8 a) h2
 ·have:=Bf b h1 a;subst this;rw[h2,d]
theorem tD {k:Nat}{t sz:Nat}{els:List (List C)}(h:M.get k=some (.row t sz els)):∀{ks:List Nat},k∈ks->k∈rowsOf M ks
 | [],a=>by cases a
 | j::ks,a=>by
  simp only[rowsOf];rcases abd.1 a with rfl | a
  ·rw[h];simp
  ·split
   ·exact abz _ (tD h a)
   ·exact tD h a
theorem yX {ks:List Nat}{k:Nat}{o:Own}(f:bV F L M) (e:k∈ks) (h:L.get k=some o) (hb:k∈rowsOf M ks->∃g t cs,o=.box g t cs):∃g t cs,o=.box g t cs:=by
 rcases eL (f k) with⟨d,a⟩ | ⟨q,p,d,a,c⟩
 ·rw[h] at a;cases a
 ·rw[h] at a;injection a with a
  subst a;cases q with
  | row t sz els=>exact hb (tD d e)
  | box t cs =>
   cases o with
   | row=>exact c.elim
   | box g b cs'=>exact⟨g,b,cs',rfl⟩
  | map es =>
   cases o with
   | row=>exact c.elim
   | box g b cs'=>exact⟨g,b,cs',rfl⟩
theorem rO {f:Nat}{args:List C}{vs:List Value}{ks ko:List Nat}{Lin:List TO}{R:List TO->C->Prop}{K:TL->aG->C->Prop}(ht:TS G F L ρ M τ) (ha:aB F L args vs)
  (h1:M.sub ks=some Lin) (h2:aU ks=true) (h3:aU ko=true) (h4:jP M ks ko=true) (h5:aH Lin ks ko=true)
  (h6:CallsT P f (args.map fun c=>c.aaw.ren (bn ks 1000)) (Lin.map (TO.aaq (C.ren (bn ks 1000)))) R)
  (h7:∀v Mo,R Mo v->Wf v->(∀o∈Mo,o.Wf)->ko.length=Mo.length/\K (((M.aas ks).kills (rowsOf M ks)).puts ko (Mo.map (TO.aaq (C.ren (aL ko))))) (dO (rowsOf M ks) τ) (v.ren (aL ko)).slt) :
  eJ P f vs F L (fun F' L' v=>∃M' al c,TS G F' L' ρ M' al/\aN F' L' c (.v v)/\K M' al c):=by
 obtain⟨Li,e1,e2,e3⟩:=kN ht.tl h1;have hn:=dw h2;have l:=dw h3;have ag:∀k,k∈ko->k∈ks\/L.get k=none:=fun k q=>(rN h4 k q).imp id fun e=>cu ht.tl e;have bc:=cP e1;refine⟨ks,ko,Li,gV Li R,e1,hn,l,ag,h6.out F Li vs (by simp[e2]) (lN ht.tl e2 e1 e3) ?_,?_⟩
 ·exact ha.map fun c _ v hc=>(jr hc).ren (lX e1)
 ·rintro v F' Lo hF ⟨Mo,c,q1,q2,q3,q4,q5⟩;have av:∀o∈Mo,o.Wf:=by
   intro o w;obtain⟨i,hi⟩:=abw.1 w;have d:i<Lo.length:=by rw[<-q1];exact(aa6.1 hi).1
   have:=q2 (1000+i);rw[cG,aJ,eu (by omega),eu (by omega),show 1000+i-1000=i by omega,hi,aa4 d] at this;exact cZ.wf this
  obtain⟨k1,k2⟩:=h7 c Mo q5 q3.wf av;have b:ko.length=Lo.length:=by rw[k1,q1]
  have a:∀k g t cs,k∈ks->L.get k=some (.box g t cs)->∃cs',Loc.get ((L.aas ks).puts ko Lo) k=some (.box g t cs'):=by
   intro k g t cs q hg;obtain⟨i,hi⟩:=abw.1 q;have u:Li[i]?=some (.box g t cs):=by rw[<-bc.2 i k hi];exact hg
   have d:i<Lin.length:=by rw[<-e2];exact(aa6.1 u).1
   have hr:=e3 i _ _ (aa4 d) u;cases hL:Lin[i] with
   | row=>rw[hL] at hr;exact hr.elim
   | box t' cs' =>
    obtain⟨k',n,b2⟩:=yV h5 i t' cs' (by rw[aa4 d,hL]);rw[hi] at n;injection n with n
    subst n;obtain⟨ac,ab⟩:=q4 i g t cs u;exact⟨ac,eV l b b2 ab⟩
   | map es =>
    obtain⟨k',n,b2⟩:=gQ h5 i (.map es) (by rw[aa4 d,hL]) rfl;rw[hi] at n;injection n with n
    subst n;obtain⟨ac,ab⟩:=q4 i g t cs u;exact⟨ac,eV l b b2 ab⟩
  refine⟨b,a,?_⟩;generalize s:(L.aas ks).puts ko Lo=L' at a
  -- what was there before
  have z:∀k,k∉ks->∀o,L.get k=some o->L'.get k=some o:=by
   intro k q o w;rw[<-s];rcases dB ko Lo (L.aas ks) k l b with⟨a1,a2⟩ | ⟨i,a1,a2,a3⟩
   ·rw[a1,fH,fo q];exact w
   ·rcases ag k (aa8 a1) with e | e
    ·exact o5 e q
    ·rw[w] at e;cases e
  have y:Ext (mU (rowsOf M ks) L) L':=by
   intro k o w;obtain⟨g1,g2⟩:=pM w
   by_cases q:k∈ks
   ·obtain⟨g,t,cs,rfl⟩:=yX ht.tl q g1 g2;obtain⟨cs',h⟩:=a k g t cs q g1;exact⟨_,h,rfl,rfl⟩
   ·exact⟨o,z k q o g1,Own.aav o⟩
  have r:∀j m,aL ko j=some m->∀o,(inp Lo).get j=some o->L'.get m=some o:=by
   intro j m hj o w;obtain⟨a1,a2⟩:=oJ hj;rw[aJ,eu a1] at w;rw[<-s];exact eV l b a2 w
  refine⟨_,_,_,⟨fun k=>?_,fun j=>?_,fun k g t e=>?_,ht.glob.mono hF⟩,kX (q3.ren r),k2⟩
  ·rcases oH ko (Mo.map (TO.aaq (C.ren (aL ko)))) ((M.aas ks).kills (rowsOf M ks)) k l (by simp[k1]) with⟨a1,a2⟩ | ⟨i,a1,a2,a3⟩
   ·have ae:L'.get k=(L.aas ks).get k:=by
     rw[<-s];rcases dB ko Lo (L.aas ks) k l b with⟨n,_⟩ | ⟨i,n,_,_⟩
     ·exact n
     ·exact o5 (aa8 n) a2
    rw[a1,ae,yT,rM,fH];split
    ·trivial
    ·rcases eL (ht.tl k) with⟨c1,c2⟩ | ⟨o,p,c1,c2,hr⟩
     ·rw[c1,c2];trivial
     ·rw[c1,c2];exact(hr.kills (rowsOf M ks)).ext hF y
   ·rw[a2,abk];have d:i<Mo.length:=by simpa using a3
    have x:i<Lo.length:=by omega
    have ae:L'.get k=some (Lo[i]):=by rw[<-s];exact eV l b a1 (aa4 x)
    rw[ae,aa4 d];have:=q2 (1000+i);rw[cG,aJ,eu (by omega),eu (by omega),show 1000+i-1000=i by omega,aa4 d,aa4 x] at this;exact cZ.ren r this
  ·rw[yU];exact((ht.env j).kills (rowsOf M ks)).ext hF y
  ·obtain⟨cs,h⟩:=ht.kp k g t e
   by_cases q:k∈ks
   ·exact a k g t cs q h
   ·exact⟨cs,z k q _ h⟩
theorem vT {f:Nat}{args:List C}{vs:List Value}{ks:List Nat}{Lin:List TO}{R:List TO->C->Prop}{K:TL->aG->C->Prop}(ht:TS G F L ρ M τ) (ha:aB F L args vs)
  (h1:M.sub ks=some Lin) (h2:aU ks=true) (h6:iB P f (args.map fun c=>c.aaw.ren (bn ks 1000)) (Lin.map (TO.aaq (C.ren (bn ks 1000)))) R)
  (h7:∀v Mo,R Mo v->Wf v->(∀o∈Mo,o.Wf)->ks.length=Mo.length/\K ((M.aas ks).puts ks (Mo.map (TO.aaq (C.ren (aL ks))))) τ (v.ren (aL ks)).slt) :
  eJ P f vs F L (fun F' L' v=>∃M' ac c,TS G F' L' ρ M' ac/\aN F' L' c (.v v)/\K M' ac c):=by
 obtain⟨Li,e1,e2,e3⟩:=kN ht.tl h1;have q:=dw h2;have ad:=cP e1;refine⟨ks,ks,Li,_,e1,q,q,fun k d=>.inl d,h6.out F Li vs (by simp[e2]) (lN ht.tl e2 e1 e3) ?_,?_⟩
 ·exact ha.map fun c _ v hc=>(jr hc).ren (lX e1)
 ·rintro v F' Lo hF ⟨⟨Mo,c,q1,q2,q3,q4,q5⟩,bt,am⟩;have an:∀o∈Mo,o.Wf:=by
   intro o s;obtain⟨i,hi⟩:=abw.1 s;have r:i<Lo.length:=by rw[<-q1];exact(aa6.1 hi).1
   have:=q2 (1000+i);rw[cG,aJ,eu (by omega),eu (by omega),show 1000+i-1000=i by omega,hi,aa4 r] at this;exact cZ.wf this
  obtain⟨k1,k2⟩:=h7 c Mo q5 q3.wf an;have a:ks.length=Lo.length:=by rw[k1,q1]
  have b:∀k g t cs,k∈ks->L.get k=some (.box g t cs)->∃cs',Loc.get ((L.aas ks).puts ks Lo) k=some (.box g t cs'):=by
   intro k g t cs d hg;obtain⟨i,hi⟩:=abw.1 d;have y:Li[i]?=some (.box g t cs):=by rw[<-ad.2 i k hi];exact hg
   obtain⟨aw,av⟩:=q4 i g t cs y;exact⟨aw,eV q a hi av⟩
  refine⟨a,b,?_⟩;generalize l:(L.aas ks).puts ks Lo=L' at b;have x:∀k,k∉ks->∀o,L.get k=some o->L'.get k=some o:=by
   intro k d o s;rw[<-l];rcases dB ks Lo (L.aas ks) k q a with⟨a1,z⟩ | ⟨i,a1,z,a3⟩
   ·rw[a1,fH,fo d];exact s
   ·exact o5 (aa8 a1) d
  have w:Ext L L':=by
   intro k o s
   by_cases d:k∈ks
   ·obtain⟨i,hi⟩:=abw.1 d;have y:Li[i]?=some o:=by rw[<-ad.2 i k hi];exact s
    obtain⟨o',h1,h2⟩:=am i o y;exact⟨o',by rw[<-l];exact eV q a hi h1,h2⟩
   ·exact⟨o,x k d o s,Own.aav o⟩
  have n:∀j m,aL ks j=some m->∀o,(inp Lo).get j=some o->L'.get m=some o:=by
   intro j m hj o s;obtain⟨a1,z⟩:=oJ hj;rw[aJ,eu a1] at s;rw[<-l];exact eV q a z s
  refine⟨_,_,_,⟨fun k=>?_,fun j=>(ht.env j).ext hF w,fun k g t e=>?_,ht.glob.mono hF⟩,kX (q3.ren n),k2⟩
  ·rcases oH ks (Mo.map (TO.aaq (C.ren (aL ks)))) (M.aas ks) k q (by simp[k1]) with⟨a1,z⟩ | ⟨i,a1,z,a3⟩
   ·have aa:L'.get k=(L.aas ks).get k:=by
     rw[<-l];rcases dB ks Lo (L.aas ks) k q a with⟨b1,_⟩ | ⟨i,b1,_,_⟩
     ·exact b1
     ·exact o5 (aa8 b1) z
    rw[a1,aa,rM,fH];split
    ·trivial
    ·rcases eL (ht.tl k) with⟨c1,c2⟩ | ⟨o,p,c1,c2,hr⟩
     ·rw[c1,c2];trivial
     ·rw[c1,c2];exact hr.ext hF w
   ·rw[z,abk];have r:i<Mo.length:=by simpa using a3
    have u:i<Lo.length:=by omega
    have aa:L'.get k=some (Lo[i]):=by rw[<-l];exact eV q a a1 (aa4 u)
    rw[aa,aa4 r];have:=q2 (1000+i);rw[cG,aJ,eu (by omega),eu (by omega),show 1000+i-1000=i by omega,aa4 r,aa4 u] at this;exact cZ.ren n this
  ·obtain⟨cs,h⟩:=ht.kp k g t e
   by_cases d:k∈ks
   ·exact b k g t cs d h
   ·exact⟨cs,x k d _ h⟩
theorem rP {ks:List Nat}:∀{ko:List Nat},(∀k∈ko,k∈ks)->jP M ks ko=true
 | [],_=>rfl
 | k::ko,h=>by
  simp only[jP,di.2 (h k (by simp))];exact rP fun j a=>h j (by simp[a])
def Xv (hb:List (Nat×Nat)) (L:Loc):Prop:=∀k n,(k,n)∈hb->∃g t cs,L.get k=some (.box g t cs)/\cs.length=n
def Ga (F':aA) (L':Loc) (M':TL):Prop:=∀k o,M'.get k=some o->∃p,L'.get k=some p/\cZ F' L' o p
theorem Bx {F':aA}{L':Loc}{M':TL}(h:bV F' L' M'):Ga F' L' M':=fun k o e=>by
 rcases eL (h k) with⟨a,b⟩ | ⟨o',p,a,b,c⟩
 ·rw[e] at a;cases a
 ·rw[e] at a;injection a with a
  subst a;exact⟨p,b,c⟩
def O0 (PS:oE) (F':aA) (L':Loc) (v:Value):Prop:=∀s,PS.st=some s->∃M',Ga F' L' M'/\s M' v
theorem O0.no {PS:oE}(h:PS.st=none) {F':aA}{L':Loc}{v:Value}:O0 PS F' L' v:=fun s e=>by rw[h] at e;cases e
def Aq (G:Nat->Option (Nat×TypeId)) (PS:oE) (F':aA) (L':Loc) (v:Value):Prop:=Kp G L'/\PS.ps v/\Xv PS.hb L'/\O0 PS F' L' v
theorem Ea:∀{hb:List (Nat×Nat)}{ks:List Nat},jQ M ks hb=true->∀k n,(k,n)∈hb->k∉ks/\∃t cs,M.get k=some (.box t cs)/\cs.length=n
 | [],ks,_,k,n,h=>by cases h
 | (j,m)::l,ks,h,k,n,a=>by
  simp only[jQ] at h;split at h
  case h_2=>cases h
  rename_i t cs h1 h2;split at h
  case h_2=>cases h
  rename_i h3;rcases abd.1 a with e | a
  ·simp only[Prod.mk.injEq] at e;obtain⟨rfl,rfl⟩:=e;exact⟨fun b=>(by rw[di.2 b] at h1;cases h1),t,cs,h2,cn h3⟩
  ·exact Ea h k n a
theorem O1 {hb:List (Nat×Nat)}{ks:List Nat}{L':Loc}(e:bV F L M) (h:jQ M ks hb=true) (b:∀k g t cs,k∉ks->L.get k=some (.box g t cs)->L'.get k=some (.box g t cs)):Xv hb L':=by
 intro k n c;obtain⟨h1,t,cs,h2,h3⟩:=Ea h k n c;obtain⟨g,ty,a,f,d,_⟩:=lM e h2;exact⟨g,ty,a,b k g ty a h1 f,by rw[d.len,h3]⟩
theorem rQ {ks ko:List Nat}{Lin:List TO}{Li:List Own}{R:List TO->C->Prop}{K:TL->aG->C->Prop}(ht:TS G F L ρ M τ)
  (h2:aU ks=true) (h3:aU ko=true) (h4:jP M ks ko=true) (h5:aH Lin ks ko=true) (e1:L.sub ks=some Li) (e2:Li.length=Lin.length) (e3:∀(i:Nat) o p,Lin[i]?=some o->Li[i]?=some p->cZ F L o p)
  (h7:∀v Mo,R Mo v->Wf v->(∀o∈Mo,o.Wf)->ko.length=Mo.length/\K (((M.aas ks).kills (rowsOf M ks)).puts ko (Mo.map (TO.aaq (C.ren (aL ko))))) (dO (rowsOf M ks) τ) (v.ren (aL ko)).slt) :
  ∀v F' Lo,F.le F'->gV Li R F' Lo v->ko.length=Lo.length/\(∀k g t cs,k∈ks->L.get k=some (.box g t cs)->∃cs',Loc.get ((L.aas ks).puts ko Lo) k=some (.box g t cs')) /\
   ∃M' ae c,TS G F' ((L.aas ks).puts ko Lo) ρ M' ae/\aN F' ((L.aas ks).puts ko Lo) c (.v v)/\K M' ae c:=by
 have hn:=dw h2;have f:=dw h3;have ar:∀k,k∈ko->k∈ks\/L.get k=none:=fun k n=>(rN h4 k n).imp id fun e=>cu ht.tl e;have az:=cP e1;rintro v F' Lo hF ⟨Mo,c,q1,q2,q3,q4,q5⟩;have an:∀o∈Mo,o.Wf:=by
  intro o u;obtain⟨i,hi⟩:=abw.1 u;have d:i<Lo.length:=by rw[<-q1];exact(aa6.1 hi).1
  have:=q2 (1000+i);rw[cG,aJ,eu (by omega),eu (by omega),show 1000+i-1000=i by omega,hi,aa4 d] at this;exact cZ.wf this
 obtain⟨k1,k2⟩:=h7 c Mo q5 q3.wf an;have b:ko.length=Lo.length:=by rw[k1,q1]
 have a:∀k g t cs,k∈ks->L.get k=some (.box g t cs)->∃cs',Loc.get ((L.aas ks).puts ko Lo) k=some (.box g t cs'):=by
  intro k g t cs n hg;obtain⟨i,hi⟩:=abw.1 n;have s:Li[i]?=some (.box g t cs):=by rw[<-az.2 i k hi];exact hg
  have d:i<Lin.length:=by rw[<-e2];exact(aa6.1 s).1
  have hr:=e3 i _ _ (aa4 d) s;cases hL:Lin[i] with
  | row=>rw[hL] at hr;exact hr.elim
  | box t' cs' =>
   obtain⟨k',l,b2⟩:=yV h5 i t' cs' (by rw[aa4 d,hL]);rw[hi] at l;injection l with l
   subst l;obtain⟨aa,z⟩:=q4 i g t cs s;exact⟨aa,eV f b b2 z⟩
  | map es =>
   obtain⟨k',l,b2⟩:=gQ h5 i (.map es) (by rw[aa4 d,hL]) rfl;rw[hi] at l;injection l with l
   subst l;obtain⟨aa,z⟩:=q4 i g t cs s;exact⟨aa,eV f b b2 z⟩
 refine⟨b,a,?_⟩;generalize r:(L.aas ks).puts ko Lo=L' at a
 -- what was there before
 have y:∀k,k∉ks->∀o,L.get k=some o->L'.get k=some o:=by
  intro k n o u;rw[<-r];rcases dB ko Lo (L.aas ks) k f b with⟨a1,a2⟩ | ⟨i,a1,a2,a3⟩
  ·rw[a1,fH,fo n];exact u
  ·rcases ar k (aa8 a1) with e | e
   ·exact o5 e n
   ·rw[u] at e;cases e
 have x:Ext (mU (rowsOf M ks) L) L':=by
  intro k o u;obtain⟨g1,g2⟩:=pM u
  by_cases n:k∈ks
  ·obtain⟨g,t,cs,rfl⟩:=yX ht.tl n g1 g2;obtain⟨cs',h⟩:=a k g t cs n g1;exact⟨_,h,rfl,rfl⟩
  ·exact⟨o,y k n o g1,Own.aav o⟩
 have q:∀j m,aL ko j=some m->∀o,(inp Lo).get j=some o->L'.get m=some o:=by
  intro j m hj o u;obtain⟨a1,a2⟩:=oJ hj;rw[aJ,eu a1] at u;rw[<-r];exact eV f b a2 u
 refine⟨_,_,_,⟨fun k=>?_,fun j=>?_,fun k g t e=>?_,ht.glob.mono hF⟩,kX (q3.ren q),k2⟩
 ·rcases oH ko (Mo.map (TO.aaq (C.ren (aL ko)))) ((M.aas ks).kills (rowsOf M ks)) k f (by simp[k1]) with⟨a1,a2⟩ | ⟨i,a1,a2,a3⟩
  ·have ac:L'.get k=(L.aas ks).get k:=by
    rw[<-r];rcases dB ko Lo (L.aas ks) k f b with⟨l,_⟩ | ⟨i,l,_,_⟩
    ·exact l
    ·exact o5 (aa8 l) a2
   rw[a1,ac,yT,rM,fH];split
   ·trivial
   ·rcases eL (ht.tl k) with⟨c1,c2⟩ | ⟨o,p,c1,c2,hr⟩
    ·rw[c1,c2];trivial
    ·rw[c1,c2];exact(hr.kills (rowsOf M ks)).ext hF x
  ·rw[a2,abk];have d:i<Mo.length:=by simpa using a3
   have w:i<Lo.length:=by omega
   have ac:L'.get k=some (Lo[i]):=by rw[<-r];exact eV f b a1 (aa4 w)
   rw[ac,aa4 d];have:=q2 (1000+i);rw[cG,aJ,eu (by omega),eu (by omega),show 1000+i-1000=i by omega,aa4 d,aa4 w] at this;exact cZ.ren q this
 ·rw[yU];exact((ht.env j).kills (rowsOf M ks)).ext hF x
 ·obtain⟨cs,h⟩:=ht.kp k g t e
  by_cases n:k∈ks
  ·exact a k g t cs n h
  ·exact⟨cs,y k n _ h⟩
theorem yY {PS:oE}{Pp:Value->Prop}{f:Nat}{args:List C}{s:List Value}{ks ko:List Nat}{Lin:List TO}{R:List TO->C->Prop}{K:TL->aG->C->Prop}(a:TS G F L ρ M τ) (ha:aB F L args s)
  (h1:M.sub ks=some Lin) (h2:aU ks=true) (h3:aU ko=true) (h4:jP M ks ko=true) (h5:aH Lin ks ko=true) (n:jQ M ks PS.hb=true)
  (h6:CallsTX P f (args.map fun c=>c.aaw.ren (bn ks 1000)) (Lin.map (TO.aaq (C.ren (bn ks 1000)))) R Pp) (p:∀v,Pp v->PS.ps v) (w:PS.st=none)
  (h7:∀v Mo,R Mo v->Wf v->(∀o∈Mo,o.Wf)->ko.length=Mo.length/\K (((M.aas ks).kills (rowsOf M ks)).puts ko (Mo.map (TO.aaq (C.ren (aL ko))))) (dO (rowsOf M ks) τ) (v.ren (aL ko)).slt) :
  ∃Li,L.sub ks=some Li/\ks.Nodup/\ko.Nodup/\(∀k,k∈ko->k∈ks\/L.get k=none)/\o9 P f s.toArray F Li (gV Li R) Pp/\(∀v F' L',yA ks L L'->Pp v->Aq G PS F' L' v) /\
  ∀v F' Lo,F.le F'->gV Li R F' Lo v->ko.length=Lo.length/\(∀k g t cs,k∈ks->L.get k=some (.box g t cs)->∃cs',Loc.get ((L.aas ks).puts ko Lo) k=some (.box g t cs')) /\
   ∃M' j c,TS G F' ((L.aas ks).puts ko Lo) ρ M' j/\aN F' ((L.aas ks).puts ko Lo) c (.v v)/\K M' j c:=by
 obtain⟨Li,b,u,x⟩:=kN a.tl h1;have z:=dw h2;have r:=dw h3;have l:∀k,k∈ko->k∈ks\/L.get k=none:=fun k m=>(rN h4 k m).imp id fun e=>cu a.tl e;have ad:=cP b;refine⟨Li,b,z,r,l,h6.out F Li s (by simp[u]) (lN a.tl u b x) ?_,fun v F' L' d y=>⟨fun k g t e=>let⟨cs,h⟩:=a.kp k g t e;let⟨cs',h',_⟩:=d k g t cs h;⟨cs',h'⟩,p v y,O1 a.tl n fun k g t cs m e=>let⟨cs',h',q⟩:=d k g t cs e;by rw[h',q m],O0.no w⟩,?_⟩
 ·exact ha.map fun c _ v hc=>(jr hc).ren (lX b)
 ·exact rQ a h2 h3 h4 h5 b u x h7
theorem Bz {PS:oE}{Pp:Value->Prop}{f:Nat}{args:List C}{h:List Value}{ks ko:List Nat}{Lin:List TO}{R:List TO->C->Prop}{K:TL->aG->C->Prop}(n:TS G F L ρ M τ) (l:aB F L args h)
  (h1:M.sub ks=some Lin) (h2:aU ks=true) (h3:aU ko=true) (h4:jP M ks ko=true) (h5:aH Lin ks ko=true) (b:jQ M ks PS.hb=true)
  (h6:CallsTX P f (args.map fun c=>c.aaw.ren (bn ks 1000)) (Lin.map (TO.aaq (C.ren (bn ks 1000)))) R Pp) (d:∀v,Pp v->PS.ps v) (e:PS.st=none)
  (m:∀v Mo,R Mo v->Wf v->(∀o∈Mo,o.Wf)->ko.length=Mo.length/\K (((M.aas ks).kills (rowsOf M ks)).puts ko (Mo.map (TO.aaq (C.ren (aL ko))))) (dO (rowsOf M ks) τ) (v.ren (aL ko)).slt) :
  gu P (Aq G PS) f h F L (fun F' L' v=>∃M' a c,TS G F' L' ρ M' a/\aN F' L' c (.v v)/\K M' a c):=by
 obtain⟨Li,q,r,p,j,k,t,u⟩:=yY n l h1 h2 h3 h4 h5 b h6 d e m;exact⟨ks,ko,Li,gV Li R,fun _ _=>Pp,q,r,p,j,k.toS,fun v F' Lo _ _ hb s=>t v F' _ hb s,u⟩
theorem j7:∀{Lin:List TO}{ks ko:List Nat},aH Lin ks ko=true->aH Lin ks ks=true
 | [],ks,ko,h=>by simp only[aH]
 | .box t cs::l,[],ko,h=>by simp only[aH] at h;cases h
 | .map es::l,[],ko,h=>by simp only[aH] at h;cases h
 | .row t sz els::l,[],ko,h=>by simp only[aH] at h;cases h
 | .box t cs::l,k::ks,[],h=>by simp only[aH] at h;cases h
 | .map es::l,k::ks,[],h=>by simp only[aH] at h;cases h
 | .box t cs::l,k::ks,a::ko,h=>by
  have e:Nat.beq k k=true:=by simp
  simp only[aH] at h ⊢;split at h
  ·rw[e];exact j7 h
  ·cases h
 | .map es::l,k::ks,a::ko,h=>by
  have e:Nat.beq k k=true:=by simp
  simp only[aH] at h ⊢;split at h
  ·rw[e];exact j7 h
  ·cases h
 | .row t sz els::l,k::ks,[],h=>by
  simp only[aH] at h ⊢;exact j7 h
 | .row t sz els::l,k::ks,a::ko,h=>by
  simp only[aH] at h ⊢;exact j7 h
theorem BA {ps:Value->Prop}{hb:List (Nat×Nat)}{st:TL->Value->Prop}{PS:oE}{Pp:List TO->Value->Prop}{f:Nat}{args:List C}{vs:List Value}{ks ko:List Nat}{Lin:List TO}{R:List TO->C->Prop}{K:TL->aG->C->Prop}(l:TS G F L ρ M τ) (ha:aB F L args vs)
  (ac:PS=⟨ps,hb,some st⟩) (h1:M.sub ks=some Lin) (h2:aU ks=true) (h3:aU ko=true) (h4:jP M ks ko=true) (h5:aH Lin ks ko=true) (y:jQ M ks hb=true)
  (h6:CallsTS P f (args.map fun c=>c.aaw.ren (bn ks 1000)) (Lin.map (TO.aaq (C.ren (bn ks 1000)))) R Pp)
  (ab:∀v Mo,Pp Mo v->(∀o∈Mo,o.Wf)->ks.length=Mo.length->ps v/\st (((M.aas ks).kills (rowsOf M ks)).puts ks (Mo.map (TO.aaq (C.ren (aL ks))))) v)
  (h7:∀v Mo,R Mo v->Wf v->(∀o∈Mo,o.Wf)->ko.length=Mo.length/\K (((M.aas ks).kills (rowsOf M ks)).puts ko (Mo.map (TO.aaq (C.ren (aL ko))))) (dO (rowsOf M ks) τ) (v.ren (aL ko)).slt) :
  gu P (Aq G PS) f vs F L (fun F' L' v=>∃M' d c,TS G F' L' ρ M' d/\aN F' L' c (.v v)/\K M' d c):=by
 subst ac;obtain⟨Li,j,w,z⟩:=kN l.tl h1;have hn:=dw h2;have ad:=dw h3;have x:∀k,k∈ko->k∈ks\/L.get k=none:=fun k m=>(rN h4 k m).imp id fun e=>cu l.tl e;obtain⟨al,ag⟩:=cP j;refine⟨ks,ko,Li,gV Li R,_,j,hn,ad,x,h6.out F Li vs (by simp[w]) (lN l.tl w j z) (ha.map fun c _ v hc=>(jr hc).ren (lX j)),?_,rQ l h2 h3 h4 h5 j w z h7⟩;rintro v F' Lo hF r u ⟨Mo,q1,q2,q3⟩;have am:∀o∈Mo,o.Wf:=by
  intro o ho;obtain⟨i,hi⟩:=abw.1 ho;have a:i<Lo.length:=by rw[<-q1];exact(aa6.1 hi).1
  have:=q2 (1000+i);rw[cG,aJ,eu (by omega),eu (by omega),show 1000+i-1000=i by omega,hi,aa4 a] at this;exact cZ.wf this
 obtain⟨p1,p2⟩:=ab v Mo q3 am (by omega);have n:gV Li (fun Mo' _=>Mo'=Mo) F' Lo undef:=by
  refine⟨Mo,.any,q1,q2,by simp only[Rel],fun i g t cs e=>?_,rfl⟩;have a:i<ks.length:=by rw[<-al];exact(aa6.1 e).1
  have p:=ag i _ (aa4 a);rw[e] at p;obtain⟨cs',h,_⟩:=u _ g t cs p;have h2:Loc.get ((L.aas ks).puts ks Lo) ks[i]=Lo[i]?:=by
   have b:i<Lo.length:=by omega
   rw[aa4 b];exact eV hn r (aa4 a) (aa4 b)
  exact⟨cs',by rw[<-h2];exact h⟩
 have aa:aH Lin ks ks=true:=j7 h5;obtain⟨_,_,M',d,c,t1,_,rfl⟩:=rQ (K:=fun M' _ _=>M'=((M.aas ks).kills (rowsOf M ks)).puts ks (Mo.map (TO.aaq (C.ren (aL ks))))) l h2 h2 (rP fun k m=>m) aa j w z
  (fun v' Mo' e _ _=>by subst e;exact⟨by omega,rfl⟩) undef F' Lo hF n
 exact⟨t1.kp,p1,O1 l.tl y fun k g t cs m e=>(let⟨cs',h',q⟩:=u k g t cs e;by rw[h',q m]),fun s e=>by injection e with e;subst e;exact⟨_,Bx t1.tl,p2⟩⟩
theorem TS.same {L2:Loc}(b:TS G F L ρ M τ) (a:L.sameAs L2):TS G F L2 ρ M τ:=by
 have he:Ext L L2:=fun k o e=>⟨o,by rw[a k];exact e,Own.aav o⟩;refine⟨fun k=>?_,fun j=>(b.env j).ext (aA.le_refl F) he,fun k g t e=>?_,b.glob⟩
 ·rcases eL (b.tl k) with⟨d,c⟩ | ⟨o,p,d,c,f⟩
  ·rw[a k,d,c];trivial
  ·rw[a k,d,c];exact f.ext (aA.le_refl F) he
 ·obtain⟨cs,h⟩:=b.kp k g t e;exact⟨cs,by rw[a k];exact h⟩
theorem yZ:∀{ks fb:List Nat},qN ks fb=true->∀k∈ks,k∉fb
 | [],fb,_,k,h=>by cases h
 | j::ks,fb,h,k,a=>by
  simp only[qN] at h;split at h
  ·cases h
  ·rename_i b;rcases abd.1 a with rfl | a
   ·intro c;rw[di.2 c] at b;cases b
   ·exact yZ h k a
theorem y9 {PS:oE}{fb:List Nat}{f:Nat}{args:List C}{q:List Value}{K:TL->aG->C->Prop}(z:TS G F L ρ M τ) (w:aB F L args q) (h:pJ P PS fb f args M τ K) (m:PS.st=none) :
  lm P (Aq G PS) fb f q F L (fun F' L' v=>∃M' b c,TS G F' L' ρ M' b/\aN F' L' c (.v v)/\K M' b c):=by
 obtain⟨ks,Lin,R,Pp,h1,h2,h0,h5,d,h6,j,x⟩:=h;have h4:jP M ks ks=true:=rP (fun k r=>r);obtain⟨Li,q1,p,q3,q4,u,q6,q7⟩:=yY z w h1 h2 h2 h4 h5 d h6 j m x;refine⟨ks,Li,gV Li R,fun _ _=>Pp,q1,p,yZ h0,u.toS,fun v F' L' Lo _ _ l hp=>q6 v F' L' l hp,fun v F' Lo s n=>?_⟩;obtain⟨a1,a2,M',b,c,a3,a4,y⟩:=q7 v F' Lo s n;have a:=rJ (L:=L) p a1;refine⟨a1,fun i g t cs e=>?_,fun _=>⟨M',b,c,a3.same a,a4.ext (aA.le_refl F') fun k o e=>⟨o,by rw[a k];exact e,Own.aav o⟩,y⟩⟩;obtain⟨Mo,c',_,_,_,b4,_⟩:=n;exact b4 i g t cs e
theorem wO {ps:Value->Prop}{hb:List (Nat×Nat)}{st:TL->Value->Prop}{PS:oE}{fb:List Nat}{f:Nat}{args:List C}{vs:List Value}{K:TL->aG->C->Prop}(x:TS G F L ρ M τ) (ha:aB F L args vs) (am:PS=⟨ps,hb,some st⟩) (h:uw P ps hb st fb f args M τ K) :
  lm P (Aq G PS) fb f vs F L (fun F' L' v=>∃M' l c,TS G F' L' ρ M' l/\aN F' L' c (.v v)/\K M' l c):=by
 subst am;obtain⟨ks,Lin,R,Pp,h1,h2,h0,h5,ae,h6,ab,h7⟩:=h;have h4:jP M ks ks=true:=rP (fun k a=>a);obtain⟨Li,u,e2,e3⟩:=kN x.tl h1;have z:=dw h2;obtain⟨aE,be⟩:=cP u;refine⟨ks,Li,gV Li R,_,u,z,yZ h0,h6.out F Li vs (by simp[e2]) (lN x.tl e2 u e3) (ha.map fun c _ v hc=>(jr hc).ren (lX u)),?_,fun v F' Lo hF hR=>?_⟩
 ·rintro v F' L' Lo hF al r ⟨Mo,q1,q2,q3⟩;have aa:∀o∈Mo,o.Wf:=by
   intro o y;obtain⟨i,hi⟩:=abw.1 y;have d:i<Lo.length:=by rw[<-q1];exact(aa6.1 hi).1
   have:=q2 (1000+i);rw[cG,aJ,eu (by omega),eu (by omega),show 1000+i-1000=i by omega,hi,aa4 d] at this;exact cZ.wf this
  obtain⟨y1,y2⟩:=cP al;obtain⟨p1,p2⟩:=ab v Mo q3 aa (by omega);have p:∀j m,aL ks j=some m->∀o,(inp Lo).get j=some o->L'.get m=some o:=by
   intro j m hj o y;obtain⟨a1,w⟩:=oJ hj;rw[aJ,eu a1] at y;rw[y2 _ _ w];exact y
  refine⟨fun k g t e=>let⟨cs,h⟩:=x.kp k g t e;let⟨cs',h',_⟩:=r k g t cs h;⟨cs',h'⟩,p1,O1 x.tl ae fun k g t cs a e=>(let⟨cs',h',q⟩:=r k g t cs e;by rw[h',q a]),fun s e=>?_⟩;injection e with e
  subst e;refine⟨_,fun k o a=>?_,p2⟩;rcases oH ks (Mo.map (TO.aaq (C.ren (aL ks)))) [] k z (by simp;omega) with⟨a1,w⟩ | ⟨i,a1,w,a3⟩
  ·rw[a1] at a;cases a
  ·rw[w,abk] at a;have d:i<Mo.length:=by simpa using a3
   have n:i<Lo.length:=by omega
   rw[aa4 d] at a;injection a with a
   subst a;refine⟨Lo[i],by rw[y2 _ _ a1];exact aa4 n,?_⟩;have:=q2 (1000+i);rw[cG,aJ,eu (by omega),eu (by omega),show 1000+i-1000=i by omega,aa4 d,aa4 n] at this;exact cZ.ren p this
 ·obtain⟨a1,w,M',l,c,a3,a4,a5⟩:=rQ x h2 h2 h4 h5 u e2 e3 h7 v F' Lo hF hR;have b:=rJ (L:=L) z a1;refine⟨a1,fun i g t cs e=>?_,fun _=>⟨M',l,c,a3.same b,a4.ext (aA.le_refl F') fun k o e=>⟨o,by rw[b k];exact e,Own.aav o⟩,a5⟩⟩;obtain⟨Mo,c',_,_,_,b4,_⟩:=hR;exact b4 i g t cs e
end
section
variable {P:Program}{G:Nat->Option (Nat×TypeId)}{F:aA}{L:Loc}{ρ:Env}{M:TL}{τ:aG}{a:Act}{w:World}
theorem Eb {F':aA}(l:F.le F') {k:Nat}{a:Option Addr}{c:Nat}{t sz:Nat}{els:List (List C)}{xs:List Value}(m:L.get k=some (.row (.slice a els.length c) t sz els.length xs))
  (r:Rel F' (L.del k) (.sl els) (.slice a els.length c)):(∀d v,C.leaf d=true->Rel F L d v->Rel F' (L.del k) (nJ k els d) v)/\(∀d sv,C.leaf d=true->aN F L d sv->aN F' (L.del k) (nJ k els d) sv):=by
 have h2:∀j,j≠k->∀o,L.get j=some o->∃o',(L.del k).get j=some o'/\Own.like o o':=fun j f o y=>⟨o,by rw[Loc.aau,fo f];exact y,Own.aav o⟩;have b:∀g t cs,L.get k≠some (.box g t cs):=fun g t cs h=>by rw[m] at h;injection h with h;cases h
 constructor
 ·intro d v p h;cases d<;>simp only[C.leaf,abl] at p
  case rw j =>
   simp only[nJ];cases f:Nat.beq j k with
   | true =>
    have:=aa5 f;subst this;simp only[Rel] at h;obtain⟨a',x,u,n,s,q,rfl,h⟩:=h;rw[m] at h;injection h with h
    injection h with q1 q2 q3 q4 q5
    rw[<-q1];exact r
   | false =>
    have:=oI b h2 l (.rw j) v rfl h;simpa only[gG,f] using this
  all_goals
   have:=oI b h2 l _ v rfl h;simpa only[gG,nJ] using this
 ·intro d sv p h;cases d<;>simp only[C.leaf,abl] at p
  case rw j =>
   simp only[nJ];cases f:Nat.beq j k with
   | true =>
    have:=aa5 f;subst this;simp only[aN,Rel] at h;obtain⟨v,e,a',x,u,n,s,q,rfl,h⟩:=h;rw[m] at h;injection h with h
    injection h with q1 q2 q3 q4 q5
    rw[<-q1] at e;exact⟨_,e,r⟩
   | false =>
    have:=pL b h2 l (.rw j) sv rfl h;simpa only[gG,f] using this
  all_goals
   have:=pL b h2 l _ sv rfl h;simpa only[gG,nJ] using this
theorem cZ.frz {F':aA}(b:F.le F') {k:Nat}{els:List (List C)}(j:∀d v,C.leaf d=true->Rel F L d v->Rel F' (L.del k) (nJ k els d) v):∀{o:TO}{p:Own},cZ F L o p->cZ F' (L.del k) (o.aaq (C.frz k els)) p
 | .box t cs,.box g e l,r=>⟨r.1,r.2.map fun c _ v h=>Rel.mp j 3 h⟩
 | .row t sz els,.row v e f n xs,r=>⟨r.1,r.2.1,r.2.2.1,r.2.2.2.1,r.2.2.2.2.mono b⟩
 | .box _ _,.row ..,r=>r.elim
 | .row ..,.box ..,r=>r.elim
 | .map _,.row ..,r=>r.elim
 | .map es,.box g e l,r=>⟨r.1,r.2.mono b⟩
theorem pO {k:Nat}{t sz:Nat}{els:List (List C)}(hs:St F L w) (he:aC L ρ a) (m:TS G F L ρ M τ) (hk:M.get k=some (.row t sz els)) :
  ∃F' L',St F' L' w/\aC L' ρ a/\Step F L w F' L' w/\TS G F' L' ρ ((M.del k).aaq (C.frz k els)) (fun j=>(τ j).frz k els)/\(∀{c v},Rel F L c v->Rel F' L' (c.frz k els) v):=by
 obtain⟨v,xs,q,⟨hm,r,cv,rfl,x⟩,hr⟩:=mR m.tl hk;obtain⟨F',L',g1,g2,z,f,d,rfl⟩:=rF (KK:=fun F' L'=>F.le F'/\SI F' (.slice r els.length cv) sz els.length xs/\L'=L.del k) hs he ⟨_,_,_,_,_,q,fun F' f d=>⟨f,d,rfl⟩⟩;have n:Rel F' (L.del k) (.sl els) (.slice r els.length cv):=by
  simp only[Rel];rcases d with⟨b,l,y⟩ | ⟨ad,c2,b,l,y⟩
  ·injection b with q1 q2 q3
   have:els=[]:=List.length_eq_zero_iff.1 q2;subst this;exact⟨r,cv,rfl,by simp,by simp,fun _=>⟨rfl,q3⟩,sz,by simp only[gU]⟩
  ·injection b with q1 q2 q3
   subst q1 q3;exact⟨some ad,cv,rfl,y,hm,fun e=>(by cases e),sz,(hr.mono f).frz l⟩
 obtain⟨s,l2⟩:=Eb f q n;refine⟨F',L.del k,g1,g2,z,⟨fun j=>?_,fun j=>aN.mp s l2 3 (m.env j),fun j g t e=>?_,m.glob.mono f⟩,fun h=>Rel.mp s 3 h⟩
 ·rw[qP,TL.aau,Loc.aau];split
  ·trivial
  ·rcases eL (m.tl j) with⟨b,l⟩ | ⟨o,p,b,l,u⟩
   ·rw[b,l];trivial
   ·rw[b,l];exact u.frz f s
 ·obtain⟨cs,h⟩:=m.kp j g t e;exact⟨cs,by rw[Loc.aau,fo (by rintro rfl;rw[q] at h;injection h with h;cases h)];exact h⟩
def za (k g:Nat):SV->SV
 | .own b off=>match Nat.beq b k with | true=>.v (.pointer (some ⟨g,off,none⟩)) | false=>.own b off
 | .v x=>.v x
 | .el a i=>.el a i
theorem K2 {F':aA}(m:F.le F') {k g:Nat}{t:TypeId}{q:List Value}{es:List C}(s:L.get k=some (.box g t q)) (hg:F' g=some (.cells q.toArray t (0,0))) (h1:fB es=true) (y:aB F' [] es q) :
  (∀d v,C.leaf d=true->Rel F L d v->Rel F' (L.del k) (rK k es d) v)/\(∀d sv,C.leaf d=true->aN F L d sv->aN F' (L.del k) (rK k es d) (za k g sv)):=by
 have h2:∀j,j≠k->∀o,L.get j=some o->∃o',(L.del k).get j=some o'/\Own.like o o':=fun j f o ho=>⟨o,by rw[Loc.aau,fo f];exact ho,Own.aav o⟩;have p:∀o,OG F' g o o q:=fun o=>⟨0,_,t,(0,0),hg,by omega,fun i v hi=>by simpa using hi⟩;constructor
 ·intro d v hc h;cases d<;>simp only[C.leaf,abl] at hc<;>simp only[rK]
  case own j off =>
   cases f:Nat.beq j k with
   | true =>
    have:=aa5 f;subst this;simp only[Rel] at h ⊢;obtain⟨g',z,cs,e,rfl⟩:=h;rw[s] at e;injection e with e
    injection e with e1 e2 e3
    subst e1;exact⟨_,_,q,rfl,p off,h1,y⟩
   | false=>exact bP m (fun r e=>by
     rcases e with⟨off,e⟩ | e | e
     ·injection e with e;subst e;exact h2 j (gO f)
     ·cases e
     ·cases e) rfl h
  case rw j =>
   refine bP m (fun r e=>?_) rfl h;rcases e with⟨off,e⟩ | e | e
   ·cases e
   ·injection e with e
    subst e;refine h2 j ?_;rintro rfl;simp only[Rel] at h;obtain⟨a',c',z,ab,n',an,rfl,h⟩:=h;rw[s] at h;injection h with h
    cases h
   ·cases e
  case mpr j =>
   cases f:Nat.beq j k with
   | true=>simp only[Rel]
   | false=>exact bP m (fun r e=>by
     rcases e with⟨off,e⟩ | e | e
     ·cases e
     ·cases e
     ·injection e with e;subst e;exact h2 j (gO f)) rfl h
  case ownv=>exact h.elim
  case elr=>exact h.elim
  all_goals
   exact bP m (fun r e=>by rcases e with⟨off,e⟩ | e | e<;>cases e) rfl h
 ·intro d sv hc h;have keep:∀{c:C},(∀j off,c≠.own j off)->c.leaf=true->c≠.any->aN F L c sv->za k g sv=sv:=by
   intro c aa hl ac u;cases sv with
   | v x=>rfl
   | el a i=>rfl
   | own k' off =>
    exfalso;cases c<;>simp only[C.leaf,abl] at hl<;>first
     | exact aa _ _ rfl
     | exact ac rfl
     | (obtain⟨v,e,_⟩:=u;cases e;done)
     | (obtain⟨b,o,j,us,e | e,_⟩:=u
        ·cases e.1
        ·cases e)
     | (obtain⟨ad,t,sz,n,c,xs,e,_⟩:=u;cases e;done)
     | (obtain⟨v,e | ⟨b,o,j,e,_⟩,_⟩:=u
        ·cases e
        ·cases e)
  cases d<;>simp only[C.leaf,abl] at hc<;>simp only[rK]
  case any=>trivial
  case own j off =>
   obtain⟨rfl,g',z,cs,e⟩:=h;simp only[za];cases f:Nat.beq j k with
   | true =>
    have:=aa5 f;subst this;exact⟨g,off,0,q,.inl ⟨rfl,rfl⟩,p off,h1,y⟩
   | false =>
    obtain⟨o',q1,q2⟩:=h2 j (gO f) _ e;cases o' with
    | row=>exact q2.elim
    | box g2 t2 ae=>exact⟨rfl,g2,t2,ae,q1⟩
  case ownv j off =>
   rw[keep (c:=.ownv j off) (fun _ _ e=>by cases e) rfl (fun e=>by cases e) h];cases f:Nat.beq j k with
   | true =>
    have:=aa5 f;subst this;obtain⟨v,ao,l⟩:=h;simp only[Rel] at l;obtain⟨g',z,cs,e,rfl⟩:=l;rw[s] at e;injection e with e
    injection e with e1 e2 e3
    subst e1;rcases ao with rfl | ⟨b,o,i,rfl,e⟩
    ·exact⟨g,off,0,q,.inl ⟨rfl,rfl⟩,p off,h1,y⟩
    ·injection e with e
     injection e with e
     injection e with q1 q2 q3
     subst q1 q2;exact⟨g,o,i,q,.inr rfl,p (o+i),h1,y⟩
   | false =>
    refine dX m (fun r e=>?_) rfl h;rcases e with⟨off,e⟩ | ⟨off,e⟩ | e | ⟨a,b,e⟩ | e<;>first | cases e;done | skip
    injection e with e
    subst e;exact h2 j (gO f)
  case rw j =>
   rw[keep (c:=.rw j) (fun _ _ e=>by cases e) rfl (fun e=>by cases e) h];refine dX m (fun r e=>?_) rfl h;rcases e with⟨off,e⟩ | ⟨off,e⟩ | e | ⟨a,b,e⟩ | e<;>first | cases e;done | skip
   injection e with e
   subst e;refine h2 j ?_;rintro rfl;obtain⟨v,_,l⟩:=h;simp only[Rel] at l;obtain⟨a',c',z,ab,n',an,rfl,h⟩:=l;rw[s] at h;injection h with h
   cases h
  case elr j a b =>
   rw[keep (c:=.elr j a b) (fun _ _ e=>by cases e) rfl (fun e=>by cases e) h];refine dX m (fun r e=>?_) rfl h;rcases e with⟨off,e⟩ | ⟨off,e⟩ | e | ⟨a,b,e⟩ | e<;>first | cases e;done | skip
   injection e with e
   subst e;refine h2 j ?_;rintro rfl;obtain⟨ad,t,sz,n,c,xs,_,h⟩:=h;rw[s] at h;injection h with h
   cases h
  case mpr j =>
   rw[keep (c:=.mpr j) (fun _ _ e=>by cases e) rfl (fun e=>by cases e) h];cases f:Nat.beq j k with
   | true=>trivial
   | false =>
    refine dX m (fun r e=>?_) rfl h;rcases e with⟨off,e⟩ | ⟨off,e⟩ | e | ⟨a,b,e⟩ | e<;>first | cases e;done | skip
    injection e with e
    subst e;exact h2 j (gO f)
  all_goals
   rw[keep (fun _ _ e=>by cases e) rfl (fun e=>by cases e) h];exact dX m (fun r e=>by rcases e with⟨off,e⟩ | ⟨off,e⟩ | e | ⟨a,b,e⟩ | e<;>cases e) rfl h
theorem K3 (k g:Nat) (ρ:Env) (j:Nat):xY k g ρ j=za k g (ρ j):=by
 simp only[xY,za];cases ρ j<;>rfl
theorem Gb {k:Nat}{t:TypeId}{cs:List C}(hs:St F L w) (he:aC L ρ a) (f:TS G F L ρ M τ) (hk:M.get k=some (.box t cs)) (h1:fB cs=true) (h2:i9 cs=true) (hG:G k=none) :
  ∃F' L' ρ',St F' L' w/\aC L' ρ' a/\Step F L w F' L' w/\TS G F' L' ρ' ((M.del k).aaq (C.frb k cs)) (fun j=>(τ j).frb k cs):=by
 obtain⟨g,ty,vs,x,hr,s⟩:=lM f.tl hk;obtain⟨F',d,hg,g1,g2,g3⟩:=sZ hs he x;rw[jG s.2.2] at hg;obtain⟨z,l2⟩:=K2 (F:=F) d x hg h1 ((jI h2 hr).mono d);refine⟨F',L.del k,_,g1,g2,g3,⟨fun j=>?_,fun j=>?_,fun j g t e=>?_,f.glob.mono d⟩⟩
 ·rw[qP,TL.aau,Loc.aau];split
  ·trivial
  ·rcases eL (f.tl j) with⟨r,u⟩ | ⟨o,p,r,u,b⟩
   ·rw[r,u];trivial
   ·rw[r,u];cases o with
    | row t sz els =>
     cases p with
     | box=>exact b.elim
     | row v y am n xs=>exact⟨b.1,b.2.1,b.2.2.1,b.2.2.2.1,b.2.2.2.2.mono d⟩
    | box t cs =>
     cases p with
     | row=>exact b.elim
     | box g y us=>exact⟨b.1,b.2.map fun c _ v h=>Rel.mp z 3 h⟩
    | map es =>
     cases p with
     | row=>exact b.elim
     | box g y us=>exact⟨b.1,b.2.mono d⟩
 ·rw[K3];have m:=f.env j;cases l:(τ j).leaf with
  | true =>
   have e:(τ j).frb k cs=rK k cs (τ j):=xM l;simp only[e];exact l2 _ _ l m
  | false =>
   generalize ρ j=sv at m;generalize τ j=c at l m;have h':∃v,sv=.v v/\Rel F L c v:=by
    cases c<;>first | exact m | cases l
   obtain⟨v,rfl,hv⟩:=h';have q:Rel F' (L.del k) (c.frb k cs) v:=Rel.mp z 3 hv;cases c<;>first | exact⟨v,rfl,q⟩ | cases l
 ·obtain⟨cs,h⟩:=f.kp j g t e;exact⟨cs,by rw[Loc.aau,fo (by rintro rfl;rw[hG] at e;cases e)];exact h⟩
theorem pQ:∀{o:List Nat}{F:aA}{L:Loc}{M:TL}{τ:aG}{args:List C}{f:List Value}{K:TL->aG->List C->Prop},St F L w->aC L ρ a->TS G F L ρ M τ->aB F L args f->yK o M τ args K ->
  ∃F' L' M' e b,St F' L' w/\aC L' ρ a/\Step F L w F' L' w/\TS G F' L' ρ M' e/\aB F' L' b f/\K M' e b
 | [],F,L,M,τ,args,f,K,m,he,l,j,h=>⟨F,L,M,τ,args,m,he,Step.refl _ _ _,l,j,h⟩
 | k::o,F,L,M,τ,args,f,K,m,he,l,j,h=>by
  simp only[yK] at h;split at h
  case h_2=>exact h.elim
  rename_i t sz els r;obtain⟨F1,L1,g1,g2,q,p,y⟩:=pO m he l r;obtain⟨F2,L2,M2,n,d,k1,u,k3,z,x,s⟩:=pQ g1 g2 p (j.map fun c _ v hc=>y hc) h;exact⟨F2,L2,M2,n,d,k1,u,q.trans k3,z,x,s⟩
def uH (L:Loc):TL->Loc
 | []=>[]
 | (k,o)::l=>(k,match L.get k with
  | some p=>p
  | none=>match o with
   | .row t sz _=>.row (.slice none 0 0) t sz 0 []
   | .box _ _=>.row (.slice none 0 0) 0 0 0 []
   | .map _=>.row (.slice none 0 0) 0 0 0 [])::uH L l
theorem lZ:∀(M1:TL) (k:Nat),(uH L M1).get k=match M1.get k with
  | some o=>some (match L.get k with | some p=>p | none=>match o with | .row t sz _=>.row (.slice none 0 0) t sz 0 [] | .box _ _=>.row (.slice none 0 0) 0 0 0 [] | .map _=>.row (.slice none 0 0) 0 0 0 [])
  | none=>none
 | [],k=>rfl
 | (j,o)::l,k=>by
  simp only[uH,Loc.get,TL.get];cases h:Nat.beq j k with
  | true=>have:=aa5 h;subst this;rfl
  | false=>exact lZ l k
theorem Ec:∀{l:TL}{M1:TL},gives M M1 l->∀{k o},l.get k=some o->(∃p,M.get k=some p/\Xr M M1 p o)\/(M.get k=none/\∃t sz,o=.row t sz [])
 | [],M1,h,k,o,e=>by cases e
 | (j,p)::l,M1,h,k,o,e=>by
  simp only[gives] at h;simp only[TL.get] at e;split at e
  ·rename_i b;have:=aa5 b;subst this;injection e with e
   subst e;exact h.1
  ·exact Ec h.2 e
theorem vU (c:bV F L M) {M1:TL}:∀{l:TL},gives M M1 l->L.gives (uH L l)
 | [],h=>trivial
 | (j,p)::l,h=>by
  simp only[gives] at h;refine⟨?_,vU c h.2⟩;rcases h.1 with⟨q,b,f⟩ | ⟨b,t,sz,rfl⟩
  ·rcases eL (c j) with⟨e,d⟩ | ⟨o,m,e,d,k⟩
   ·rw[e] at b;cases b
   ·simp only[d];exact .inl trivial
  ·have:=cu c b;simp only[this];exact .inr ⟨trivial,t,sz,rfl⟩
theorem wP {L':Loc}{M1:TL}(q:∀k o,M1.get k≠none->L.get k=some o->L'.get k=some o):∀(n:Nat) {c:C}{v:Value},fZ M1 n c=true->Rel F L c v->Rel F L' c v:=by
 have d:∀{c:C}{v:Value},c.leaf=true->rL M1 c=true->Rel F L c v->Rel F L' c v:=by
  intro c v f b h;refine bP (aA.le_refl F) (fun k e o s=>⟨o,q k o ?_ s,Own.aav o⟩) f h;rcases e with⟨off,rfl⟩ | rfl | rfl
  ·simp only[rL] at b;intro e;rw[e] at b;cases b
  ·simp only[rL] at b;intro e;rw[e] at b;cases b
  ·simp only[rL] at b;intro e;rw[e] at b;cases b
 intro n
 induction n with
 | zero =>
  intro c v b h;cases f:c.leaf
  ·cases c<;>simp only[C.leaf,Bool.true_eq_false] at f<;>simp only[fZ,abl] at b
  ·refine d f ?_ h;cases c<;>simp only[C.leaf,abl] at f<;>simpa only[fZ] using b
 | succ n r =>
  intro c v b h;have all:∀{cs:List C}{j:List Value},cs.all (fZ M1 n)=true->aB F L cs j->aB F L' cs j:=by
   intro cs j h1 h2;have:=h2.map (g:=id) (F':=F) (L':=L') (fun c f v p=>r (abg.1 h1 c f) p);simpa using this
  cases f:c.leaf
  ·cases c<;>simp only[C.leaf,Bool.true_eq_false] at f<;>simp only[fZ,xo] at b<;>simp only[Rel] at h ⊢
   ·obtain⟨l,m,h1,h2,h3⟩:=h;exact⟨l,m,h1,all b.1 h2,all b.2 h3⟩
   ·obtain⟨j,h1,h2⟩:=h;exact⟨j,h1,all b h2⟩
   ·obtain⟨j,h1,h2⟩:=h;exact⟨j,h1,all b h2⟩
  ·refine d f ?_ h;cases c<;>simp only[C.leaf,abl] at f<;>simpa only[fZ] using b
theorem rR (j:bV F L M) {M1:TL}{c d:C}{v:Value}(h:OE M M1 c d) (b:Rel F L c v):Rel F (uH L M1) d v:=by
 rcases h with rfl | ⟨rfl,f⟩ | ⟨rfl,rfl⟩ | ⟨rfl,k,t,sz,rfl,h1,h2⟩ | ⟨els,rfl,rfl⟩
 ·simp only[Rel]
 ·refine wP (fun k o h1 h2=>?_) 3 f b;rw[lZ];cases e:M1.get k with
  | none=>exact o5 e h1
  | some q=>simp only[h2]
 ·exact uE (c:=.nils) (by simpa only[Rel] using b)
 ·simp only[Rel] at b ⊢;subst b;refine⟨none,0,t,sz,0,[],rfl,?_⟩;rw[lZ,h2];simp only[cu j h1]
 ·simpa only[Rel] using vR b
theorem Ed (k:bV F L M) {M1:TL}:∀{cs cs':List C}{b:List Value},KQ M M1 cs cs'->aB F L cs b->aB F (uH L M1) cs' b
 | [],cs',b,h,d=>by simp only[KQ] at h;subst h;simpa only[aB] using d
 | c::cs,cs',b,h,d=>by
  simp only[KQ] at h;obtain⟨m,l,rfl,h1,h2⟩:=h;simp only[aB] at d ⊢;obtain⟨v,e,rfl,j,f⟩:=d;exact⟨v,e,rfl,rR k h1 j,Ed k h2 f⟩
theorem O2 (l:bV F L M) {M1:TL}{o o':TO}{p:Own}(h:Xr M M1 o o') (b:cZ F L o p):cZ F (uH L M1) o' p:=by
 rcases h with⟨rfl,d⟩ | ⟨t,cs,cs',rfl,rfl,h⟩
 ·cases o with
  | row t sz els=>cases p with
   | row=>exact b
   | box=>exact b.elim
  | map es=>cases p with
   | row=>exact b.elim
   | box=>exact b
  | box t cs=>cases p with
   | row=>exact b.elim
   | box g j n =>
    simp only[RO] at d;refine⟨b.1,?_⟩;have:=b.2.map (g:=id) (F':=F) (L':=uH L M1) (fun c m v f=>wP (fun k o h1 h2=>by
     rw[lZ];cases e:M1.get k with
     | none=>exact o5 e h1
     | some q=>simp only[h2]) 3 (abg.1 d c m) f)
    simpa using this
 ·cases p with
  | row=>exact b.elim
  | box g j n=>exact⟨b.1,Ed l h b.2⟩
theorem zb (c:bV F L M) {M1:TL}(h:gives M M1 M1):bV F (uH L M1) M1:=by
 intro k;rw[lZ];cases e:M1.get k with
 | none=>trivial
 | some o =>
  rcases Ec h e with⟨q,b,l⟩ | ⟨b,t,sz,rfl⟩
  ·rcases eL (c k) with⟨d,f⟩ | ⟨q',p,d,f,j⟩
   ·rw[d] at b;cases b
   ·rw[d] at b;injection b with b
    subst b;simp only[f];exact O2 c l j
  ·simp only[cu c b];exact⟨rfl,rfl,rfl,⟨by simp,none,0,rfl,fun _=>rfl⟩,by simp only[aR]⟩
theorem ze (c:St F L w) (b:bV F L M) {M1:TL}(h:gives M M1 M1):St F (uH L M1) w/\Step F L w F (uH L M1) w:=⟨c.gives (vU b h),s5 (vU b h)⟩
theorem mV:∀{l M1:TL},pI l M1=true->∀{k o},l.get k=some o->CG o=false->∃o',M1.get k=some o'
 | [],M1,h,k,o,e,_=>by cases e
 | (j,.box p f)::l,M1,h,k,o,e,b=>by
  simp only[pI] at h;split at h
  case h_2=>cases h
  rename_i n m h1;simp only[TL.get] at e;split at e
  ·rename_i c;have:=aa5 c;subst this;exact⟨_,h1⟩
  ·exact mV h e b
 | (j,.map es)::l,M1,h,k,o,e,b=>by
  simp only[pI] at h;split at h
  case h_2=>cases h
  rename_i d h1;simp only[TL.get] at e;split at e
  ·rename_i c;have:=aa5 c;subst this;exact⟨_,h1⟩
  ·exact mV h e b
 | (j,.row ..)::l,M1,h,k,o,e,b=>by
  simp only[pI] at h;simp only[TL.get] at e;split at e
  ·injection e with e;subst e;cases b
  ·exact mV h e b
theorem zf:∀{l M1:TL},covers l M1=true->∀{k o},l.get k=some o->∃o',M1.get k=some o'
 | [],M1,h,k,o,e=>by cases e
 | (j,p)::l,M1,h,k,o,e=>by
  simp only[covers] at h;split at h
  case h_2=>cases h
  rename_i q h1;simp only[TL.get] at e;split at e
  ·rename_i b;have:=aa5 b;subst this;exact⟨_,h1⟩
  ·exact zf h e
theorem K4 {L':Loc}(he:aC L ρ a) (h:∀k g t cs,L.get k=some (.box g t cs)->∃cs',L'.get k=some (.box g t cs')):aC L' ρ a:=by
 refine⟨fun t=>?_,fun t k off e=>?_,he.el⟩
 ·rw[he.eq t];cases e:ρ t with
  | v x=>rfl
  | el a j=>rfl
  | own k off =>
   obtain⟨g,ty,cs,c⟩:=he.own t k off e;obtain⟨cs',b⟩:=h _ _ _ _ c;simp only[conc,c,b]
 ·obtain⟨g,ty,cs,c⟩:=he.own t k off e;obtain⟨cs',b⟩:=h _ _ _ _ c;exact⟨g,ty,cs',b⟩
theorem qR (n:St F L w) (he:aC L ρ a) (c:TS G F L ρ M τ) {M1:TL}(h:gives M M1 M1) (m:covers M M1=true) :
  St F (uH L M1) w/\aC (uH L M1) ρ a/\Step F L w F (uH L M1) w/\TS G F (uH L M1) ρ M1 τ/\Ext L (uH L M1):=by
 obtain⟨h1,h2⟩:=ze n c.tl h;have b:∀k o,L.get k=some o->(uH L M1).get k=some o:=by
  intro k o e;rcases eL (c.tl k) with⟨f,d⟩ | ⟨q,p,f,d,r⟩
  ·rw[d] at e;cases e
  ·obtain⟨o',l⟩:=zf m f;rw[lZ,l];simp only[e]
 refine⟨h1,K4 he fun k g t cs e=>⟨cs,b _ _ e⟩,h2,⟨zb c.tl h,fun j=>(c.env j).ext (aA.le_refl F) fun k o e=>⟨o,b k o e,Own.aav o⟩,fun k g t e=>?_,c.glob⟩,fun k o e=>⟨o,b k o e,Own.aav o⟩⟩;obtain⟨cs,h⟩:=c.kp k g t e;exact⟨cs,b _ _ h⟩
theorem Tf {F:aA}{args:List C}{b:List Value}(ha:aB F L args b):aB F (inp []) (args.map fun c=>c.aaw.ren (bn [] 1000)) b :=
 ha.map fun c _ v d=>(jr d).ren (fun j m e=>by cases e)
theorem Xw {F:aA}{L:Loc}{args:List C}{f:List Value}{d:Nat}{o:Own}(h:L.get d=some o) (ha:aB F L args f):aB F (inp [o]) (args.map fun c=>c.aaw.ren (bn [d] 1000)) f :=
 ha.map fun c _ v k=>(jr k).ren (fun j m e o' b=>by
  obtain⟨n,h1,rfl⟩:=CF e;cases n with
  | zero =>
   simp only[abm,aa1] at h1;subst h1;rw[h] at b;injection b with b
   subst b;rfl
  | succ n=>simp at h1)
theorem Gc:bV F (inp []) (cT []):=fun k=>by rw[cG,aJ];split<;>simp[yL]
theorem gV.aaC {Li:List Own}{R:List TO->C->Prop}:∀F G L v,aA.le F G->gV Li R F L v->gV Li R G L v:=by
 rintro F G L v b ⟨Mo,c,d,e,j,f,h⟩;exact⟨Mo,c,d,e.mono b,j.mono b,f,h⟩
theorem vV {f:Nat}{args:List C}{vs:List Value}{d:Option Nat}{K:TL->aG->C->Prop}(s:TS G F L ρ M τ) (ha:aB F L args vs) (h:pK P f args M τ d K) :
  dZ P f vs F L d (fun F' L' v=>∃M' aw c,TS G F' L' ρ M' aw/\aN F' L' c (.v v)/\K M' aw c):=by
 cases h with
 | frz R h k =>
  refine .frz (gV [] R) (h.out F [] vs rfl Gc (Tf ha)) ?_;rintro v F' Lo l ⟨Mo,c,q,u,b,q4,q5⟩;obtain⟨rfl,k2⟩:=k c Mo q5 b.wf;have:Lo=[]:=List.length_eq_zero_iff.1 (by rw[<-q];rfl);subst this;exact⟨rfl,fun _=>⟨M,τ,_,s.mono l,kX (b.ext (aA.le_refl F') (fun k o e=>by rw[aJ] at e;split at e<;>simp at e)),k2⟩⟩
 | own R k h hd hk kk =>
  refine .own (gV [] R) k (h.out F [] vs rfl Gc (Tf ha)) hd (cu s.tl hk) ?_;rintro v F' Lo l ⟨Mo,c,q,u,b,q4,q5⟩;have be:∀o∈Mo,o.Wf:=by
   intro o ho;obtain⟨i,hi⟩:=abw.1 ho;have bs:i<Lo.length:=by rw[<-q];exact(aa6.1 hi).1
   have:=u (1000+i);rw[cG,aJ,eu (by omega),eu (by omega),show 1000+i-1000=i by omega,hi,aa4 bs] at this;exact cZ.wf this
  obtain⟨o,rfl,k2⟩:=kk c Mo q5 b.wf be
  match Lo,q with
  | [p],_ =>
   have n:∀j m,aL [k] j=some m->∀o,(inp [p]).get j=some o->(L.set k p).get m=some o:=by
    intro j m hj o ho;obtain⟨a1,a2⟩:=oJ hj;rw[aJ,eu a1] at ho;have:j-1000=0:=by have:=(aa6.1 a2).1;simp at this;omega
    rw[this] at ho a2;simp at ho a2;subst ho a2;rw[Loc.aap,eu rfl]
   have az:=u 1000;rw[cG,aJ,eu (by omega),eu (by omega)] at az;refine⟨p,rfl,fun _=>⟨_,τ,_,s.new l (cu s.tl hk) (cZ.ren n az),kX (b.ren n),k2⟩⟩
 | row R z t sz els an hk h kk =>
  obtain⟨rv,xs,hL,⟨hm,av,cv,rfl,bz⟩,hr⟩:=mR s.tl hk;refine .row (fun F' Lo v=>Lo=[]/\gV [] R F' [] v) z _ t sz els.length xs ⟨an,fun F1 F2 L v bd r=>⟨r.1,gV.aaC _ _ _ _ bd r.2⟩,fun w hs=>?_⟩ hL ?_
  ·have bl:aC (inp [.row (.slice av els.length cv) t sz els.length xs]) (fun _=>.v undef) (⟨#[],[]⟩:Act):=by
    refine⟨fun j=>?_,fun j k off e=>(by cases e),fun j a i e=>(by cases e)⟩;simp[conc]
   obtain⟨F2,L2,g1,_,g3,l,ac,rfl⟩:=rF (k:=1000) (KK:=fun F' L'=>F.le F'/\SI F' (.slice av els.length cv) sz els.length xs/\L'=(inp [.row (.slice av els.length cv) t sz els.length xs]).del 1000) hs bl ⟨_,_,_,_,_,rfl,fun F' l ac=>⟨l,ac,rfl⟩⟩;have ar:Rel F2 (L.del z) (.sl els) (.slice av els.length cv):=by
    simp only[Rel];rcases ac with⟨e1,e2,e3⟩ | ⟨ad,c2,e1,e2,e3⟩
    ·injection e1 with q u b
     have:els=[]:=List.length_eq_zero_iff.1 u;subst this;exact⟨av,cv,rfl,by simp,by simp,fun _=>⟨rfl,b⟩,sz,by simp only[gU]⟩
    ·injection e1 with q u b
     subst q b;exact⟨some ad,cv,rfl,e3,hm,fun e=>(by cases e),sz,(hr.mono l).frz e2⟩
   obtain⟨l1,_⟩:=Eb l hL ar;have bt:aB F2 (L.del z) (args.map (C.frz z els)) vs:=ha.map fun c _ v hc=>Rel.mp l1 3 hc;have aE:=Tf bt;rw[ab4] at aE;refine((h.out F2 [] vs rfl Gc aE).run w g1).mono ?_;rintro e w' ⟨v,F',Lo,rfl,bk,bu,r⟩;have bp:Lo=[]:=by
    obtain⟨Mo,c,q,u,b,q4,q5⟩:=r;obtain⟨rfl,_⟩:=kk c Mo q5 b.wf;exact List.length_eq_zero_iff.1 (by rw[<-q];rfl)
   subst bp;exact⟨v,F',[],rfl,bk,g3.trans bu,rfl,r⟩
  ·rintro v F' Lo l ⟨rfl,Mo,c,q,u,b,q4,q5⟩;obtain⟨rfl,k2⟩:=kk c Mo q5 b.wf;refine⟨rfl,fun _=>⟨_,_,_,(s.mono l).aaL (k:=z) (o':=.row (.slice none 0 0) t sz 0 []) (to:=.row t sz []) (fun g t' cs e=>by rw[hL] at e;injection e with e;cases e) ⟨rfl,rfl,rfl,⟨abr _,none,0,rfl,fun _=>rfl⟩,by simp only[aR]⟩,kX (b.ext (aA.le_refl F') (fun k o e=>by rw[aJ] at e;split at e<;>simp at e)),k2⟩⟩
 | lent z t sz els x hk h k =>
  obtain⟨rv,xs,hL,y,hr⟩:=mR s.tl hk;refine .lent (fun F' v=>Rel F' (inp []) x v) z rv t sz els.length xs (h.out F rv xs vs ⟨rfl,rfl,rfl,y,hr⟩ (Xw hL ha)) hL fun v F' l r _=>?_;exact⟨M,τ,_,s.mono l,kX (r.ext (aA.le_refl F') (fun k o e=>by rw[aJ] at e;split at e<;>simp at e)),k r.wf⟩
def kO:eI->Bool
 | .call _ _=>true
 | .callV _ _=>true
 | _=>false
theorem TS.aaD {F:aA}{L:Loc}{ρ:Env}{M:TL}{τ:aG}{K:TK}{d:Option Nat}(b:TS G F L ρ M τ) {c:C}{sv:SV}(e:aN F L c sv) (h:K M (bH d c τ)):Both G K F L (Fr.put d sv ρ):=⟨_,_,b.put e d,h⟩
theorem jM (h:∀j,aN F L (τ j) (ρ j)) {e d:List C}{c b:List Value}(h1:aB F L e c) (h2:aB F L d b) (args:List X):aB F L (e++fR τ args++d) (c.toArray.toList++bE L ρ args++b.toArray.toList):=by
 simpa using(h1.append (eF h args)).append h2
theorem eJ.imp {f:Nat}{args:List Value}{F:aA}{L:Loc}{K K':aA->Loc->Value->Prop}(h:eJ P f args F L K) (d:∀F' L' v,K F' L' v->K' F' L' v):eJ P f args F L K':=by
 obtain⟨ks,ko,Lin,R,h1,h2,h3,h4,h5,h6⟩:=h;exact⟨ks,ko,Lin,R,h1,h2,h3,h4,h5,fun v F' Lo e j=>let⟨a,b,c⟩:=h6 v F' Lo e j;⟨a,b,d _ _ _ c⟩⟩
theorem dZ.imp' {f:Nat}{args:List Value}{F:aA}{L:Loc}{d:Option Nat}{K K':aA->Loc->Value->Prop}(h:dZ P f args F L d K) (p:∀F' L' v,K F' L' v->K' F' L' v):dZ P f args F L d K':=by
 cases h with
 | frz R h k=>exact .frz R h fun v F' Lo e l=>let⟨a,b⟩:=k v F' Lo e l;⟨a,fun j=>p _ _ _ (b j)⟩
 | own R k h hd c m=>exact .own R k h hd c fun v F' Lo e l=>let⟨o,a,b⟩:=m v F' Lo e l;⟨o,a,fun j=>p _ _ _ (b j)⟩
 | row R q r t sz n xs h c m=>exact .row R q r t sz n xs h c fun v F' Lo e l=>let⟨a,b⟩:=m v F' Lo e l;⟨a,fun j=>p _ _ _ (b j)⟩
 | lent R q r t sz n xs h c m=>exact .lent R q r t sz n xs h c fun v F' e l j=>p _ _ _ (m v F' e l j)
theorem K5 {op:BinOp}{k:IntKind}{a b:Int}{K K':Value->Prop}(h:binI op k a b K) (c:∀v,K v->K' v):binI op k a b K':=by
 cases op<;>simp only[binI] at h ⊢<;>first
  | exact h.elim
  | exact⟨c _ h.out⟩
  | exact⟨h.ne,⟨c _ h.out.out⟩⟩
  | exact⟨h.ne,c _ h.out⟩
  | exact c _ h
theorem O3 {op:BinOp}{k:IntKind}{a b:Int}{K K':Value->Prop}(h:shI op k a b K) (c:∀v,K v->K' v):shI op k a b K':=by
 cases op<;>simp only[shI] at h ⊢<;>first
  | exact h.elim
  | exact⟨h.1,⟨c _ h.2.out⟩⟩
  | exact⟨h.1,c _ h.2⟩
theorem K6 {op:BinOp}{a b:ByteArray}{K K':Value->Prop}(h:binS op a b K) (c:∀v,K v->K' v):binS op a b K':=by
 cases op<;>simp only[binS] at h ⊢<;>first
  | exact h.elim
  | exact c _ h
  | exact⟨h.1,c _ h.2⟩
theorem Ee {o:eI}{V V':SV->Prop}{F:aA}{L:Loc}{ρ:Env}(h:aM o F L ρ V) (d:∀v,V v->V' v):aM o F L ρ V':=by
 have load:∀{a:Option Addr}{j n:Nat}{g:List Value->SV},kI F L a j n (fun cs=>V (g cs))->kI F L a j n (fun cs=>V' (g cs)):=fun h=>⟨let⟨cs,h1,h2,h3⟩:=h.out;⟨cs,h1,h2,d _ h3⟩⟩;have loadD:∀{a:Option Addr}{j n:Nat}{g:List Value->SV},ju F a j n (fun cs=>V (g cs))->ju F a j n (fun cs=>V' (g cs)):=fun h=>⟨let⟨cs,h1,h2,h3⟩:=h.out;⟨cs,h1,h2,d _ h3⟩⟩;cases o<;>simp only[aM] at h ⊢<;>first
  | exact h.elim
  | exact d _ h
  | skip
 case pick c a b =>
  generalize ev ρ c=z at h ⊢;split at h<;>first | exact h.elim | exact d _ h
 case build zs ps =>
  generalize built L ρ zs ps=z at h ⊢;split at h<;>first | exact h.elim | exact d _ h
 case load agg n x =>
  generalize ev ρ x=z at h ⊢;split at h
  ·rename_i k off;generalize L.get k=y at h ⊢;split at h
   ·rename_i t cs;generalize jA t ((cs.drop off).take n) n=b at h ⊢;cases b
    ·exact h.elim
    ·exact d _ h
   ·exact h.elim
  ·exact load h
  ·exact load h
  ·exact h.elim
 case loadR agg n x =>
  generalize ev ρ x=z at h ⊢;split at h
  ·rename_i k off;generalize L.get k=y at h ⊢;split at h
   ·rename_i t cs;generalize jA t ((cs.drop off).take n) n=b at h ⊢;cases b
    ·exact h.elim
    ·exact d _ h
   ·exact h.elim
  ·exact load h
  ·exact load h
  ·exact h.elim
 case loadD agg n x =>
  generalize ev ρ x=z at h ⊢;split at h
  ·rename_i k off;generalize L.get k=y at h ⊢;split at h
   ·rename_i t cs;generalize jA t ((cs.drop off).take n) n=b at h ⊢;cases b
    ·exact h.elim
    ·exact d _ h
   ·exact h.elim
  ·exact loadD h
  ·exact loadD h
  ·exact h.elim
 case gload g =>
  obtain⟨v,t,fr,h1,h2⟩:=h;exact⟨v,t,fr,h1,d _ h2⟩
 case loadF agg n x =>
  generalize ev ρ x=z at h ⊢;split at h
  ·exact loadD h
  ·exact loadD h
  ·exact h.elim
 case loadK key agg n x =>
  generalize ev ρ x=z at h ⊢;split at h
  ·rename_i k off;generalize Nat.beq k key=q at h ⊢;cases q
   ·exact h.elim
   ·simp only[] at h ⊢;generalize L.get k=y at h ⊢;split at h
    ·rename_i t cs;generalize jA t ((cs.drop off).take n) n=b at h ⊢;cases b
     ·exact h.elim
     ·exact d _ h
    ·exact h.elim
  ·exact h.elim
 case mlook str ok z0 x i =>
  generalize ev ρ x=z at h ⊢;split at h
  ·obtain⟨k,cs,h1,h2,⟨h3⟩⟩:=h;exact⟨k,cs,h1,h2,⟨h3.imp (fun⟨i,v,h4,h5⟩=>⟨i,v,h4,d _ h5⟩) fun⟨h4,h5⟩=>⟨h4,d _ h5⟩⟩⟩
  ·exact h.elim
 case mkif t x =>
  generalize ev ρ x=z at h ⊢;split at h<;>first | exact h.elim | exact d _ h
 case nilck x =>
  generalize ev ρ x=z at h ⊢;split at h<;>first
   | exact h.elim
   | exact d _ h
   | exact⟨h.1,d _ h.2⟩
   | (split at h
      ·exact⟨h.1,d _ h.2⟩
      ·exact h.elim)
 case bin op x y =>
  generalize ev ρ x=z at h ⊢;generalize ev ρ y=z' at h ⊢;split at h
  ·rename_i k a f b;generalize J8 op=q at h ⊢;cases q
   ·generalize qx k f=r at h ⊢;cases r
    ·exact h.elim
    ·exact K5 h fun v=>d _
   ·exact O3 h fun v=>d _
  ·exact K6 h fun v=>d _
  ·exact h.elim
 case eqB neg x y =>
  generalize ev ρ x=z at h ⊢;generalize ev ρ y=z' at h ⊢;split at h<;>first | exact h.elim | exact d _ h
 case eqS neg x y =>
  generalize ev ρ x=z at h ⊢;generalize ev ρ y=z' at h ⊢;split at h<;>first | exact h.elim | exact d _ h
 case tas t z x =>
  generalize ev ρ x=y at h ⊢;split at h<;>first
   | exact d _ h
   | (split at h<;>exact d _ h)
   | exact h.elim
 case eqN neg x =>
  generalize ev ρ x=z at h ⊢;split at h<;>first | exact h.elim | exact d _ h
 case eqA neg ks x y =>
  generalize ev ρ x=z at h ⊢;generalize ev ρ y=z' at h ⊢;split at h
  case h_2=>exact h.elim
  rename_i cs ds;generalize jn ks cs.toList ds.toList true=q at h ⊢;cases q with
  | none=>exact h.elim
  | some b=>exact d _ h
 case un op x =>
  generalize ev ρ x=z at h ⊢;split at h<;>first | exact h.elim | exact d _ h | exact⟨d _ h.out⟩
 case conv k x =>
  generalize ev ρ x=z at h ⊢;split at h<;>first | exact h.elim | exact⟨d _ h.out⟩
 case slc sz x lo hi =>
  generalize ev ρ x=z at h ⊢;split at h
  ·rename_i a n c;generalize nX ρ 0 lo=y at h ⊢;generalize nX ρ n hi=y' at h ⊢;split at h
   ·exact⟨h.lo,h.le,h.hi,d _ h.out⟩
   ·exact h.elim
  ·exact h.elim
 case fieldA off x =>
  generalize ev ρ x=z at h ⊢;split at h<;>first | exact h.elim | exact d _ h
 case idxA sz x i =>
  generalize ev ρ x=z at h ⊢;generalize ev ρ i=z' at h ⊢;split at h
  ·exact⟨h.ne,h.lo,h.hi,d _ h.out⟩
  ·exact h.elim
 case extr x i =>
  generalize ev ρ x=z at h ⊢;split at h
  ·rename_i e;generalize e.toList[i]?=y at h ⊢;cases y
   ·exact h.elim
   ·exact d _ h
  ·exact h.elim
 case len x =>
  generalize ev ρ x=z at h ⊢;split at h<;>first | exact h.elim | exact d _ h
 case mm mx args =>
  generalize args.map (ev ρ)=z at h ⊢;split at h
  ·rename_i k a l;generalize Ry mx a l=y at h ⊢;cases y
   ·exact h.elim
   ·exact d _ h
  ·exact h.elim
theorem Tg {o:eI}{d:Option Nat}{K:TK}{F:aA}{L:Loc}{ρ:Env}{M:TL}{τ:aG}(b:TS G F L ρ M τ) (h:outT o M τ fun v=>K M (bH d v τ)):aM o F L ρ (fun v=>Both G K F L (Fr.put d v ρ)) :=
 Ee (Xu b h) fun sv ⟨c,e,f⟩=>b.aaD e f
set_option maxHeartbeats 1000000 in
theorem O4 {F:aA}{L:Loc}{ρ:Env}{K:dQ}{n:Nat}{a x:X}{d:Option Nat}(h:evalOp P (.store n a x) d F L ρ K):evalOp P (.storeX n a x) d F L ρ K:=by
 simp only[evalOp] at h ⊢;split at h
 ·split at h
  ·split at h
   ·exact fun _=>h
   ·exact h.elim
  ·exact h.elim
 ·exact⟨let⟨k,v,t,sz,m,xs,ad,c,h1,h2,h3,h4,h5,h6⟩:=h.out;⟨k,v,t,sz,m,xs,ad,c,h1,h2,h3,h4,h5,fun _=>h6⟩⟩
 ·exact⟨let⟨k,v,t,sz,m,xs,ad,c,h1,h2,h3,h4,h5,h6⟩:=h.out;⟨k,v,t,sz,m,xs,ad,c,h1,h2,h3,h4,h5,fun _=>h6⟩⟩
 ·exact h.elim
theorem O5 {str:Bool}{c:C}(h:KP str c=true):(∃n,str=false/\c=.int .i64 n)\/∃s,str=true/\c=.str s:=by
 unfold KP at h;split at h
 ·exact .inl ⟨_,rfl,rfl⟩
 ·exact .inr ⟨_,rfl,rfl⟩
 ·cases h
theorem Hj {F:aA}{str:Bool}{key c:C}{kv v:Value}(j:Rel F [] key kv) (n:Rel F [] c v):∀{es f:List (C×C)}{m:List Value},gh F es m->FW str key c es=some f->∃b,xX str kv v m=some b/\gh F f b
 | [],f,m,h,e=>by
  simp only[gh] at h;subst h;simp only[FW,aa1] at e;subst e;exact⟨_,rfl,by simp only[gh];exact⟨kv,v,[],rfl,j,n,rfl⟩⟩
 | (k,d)::l,f,m,h,e=>by
  simp only[gh] at h;obtain⟨u,x,b,rfl,h1,h2,h3⟩:=h;simp only[FW] at e;split at e
  ·rename_i o;injection e with e
   subst e;exact⟨_,by simp only[xX,qO o j h1];rfl,by simp only[gh];exact⟨kv,v,b,rfl,j,n,h3⟩⟩
  ·rename_i o;split at e
   case h_2=>cases e
   rename_i t p;injection e with e
   subst e;obtain⟨s,r,q⟩:=Hj j n h3 p;exact⟨_,by simp only[xX,qO o j h1,r];rfl,by simp only[gh];exact⟨u,x,s,rfl,h1,h2,q⟩⟩
  ·cases e
theorem Jd {F:aA}{L:Loc}{c:C}{v:Value}(h:Rel F L c.cel v) (b:i9 (dc c)=true):Rel F [] c.cel.aaw v:=by
 have leaf:i9 [c]=true->Rel F L c v->Rel F [] c v:=fun b h=>by
  have:=jI (L':=[]) b (show aB F L [c] [v] by simp only[aB];exact⟨v,[],rfl,h,rfl⟩);simp only[aB] at this;obtain⟨u,us,e,h1,_⟩:=this;injection e with e1 e2
  rw[e1];exact h1
 cases c
 case agg cs =>
  simp only[C.cel,dc] at h b ⊢;refine jr ?_;simp only[Rel] at h ⊢;obtain⟨d,h1,h2⟩:=h;exact⟨d,h1,jI b h2⟩
 case ownv k o=>simp[dc,i9,C.pure,C.aay] at b
 case elr k j o=>simp[dc,i9,C.pure,C.aay] at b
 all_goals
  simp only[C.cel,dc] at h b ⊢;exact jr (leaf b h)
theorem K7 {o:eI}{d:Option Nat}{K:TK}{F:aA}{L:Loc}{ρ:Env}{M:TL}{τ:aG}(ho:kO o=false) (j:TS G F L ρ M τ) (h:bX P o d M τ K):evalOp P o d F L ρ (Both G K):=by
 have he:=j.env;cases o
 case call=>cases ho
 case callV=>cases ho
 case box t x =>
  simp only[bX,gH,fP,fJ] at h;simp only[evalOp];split at h
  case h_2=>exact h.elim
  rename_i k;split at h
  case h_2=>exact h.elim
  rename_i m hc hb;simp only[cu j.tl m];exact fun g=>Hg j m hc (eM hb) h g
 case boxD t x =>
  simp only[bX,gH,fP,fJ] at h;simp only[evalOp];split at h
  case h_2=>exact h.elim
  rename_i k;split at h
  case h_2=>exact h.elim
  rename_i m hc hb;simp only[cu j.tl m];exact fun g _=>Hg j m hc (eM hb) h g
 case boxF t x =>
  simp only[bX,gH,fP,fJ] at h;simp only[evalOp];split at h
  case h_2=>exact h.elim
  rename_i h1 h2 h3;intro g F' hF hg;exact(j.mono hF).aaD (Te hg (oF h2) (lD ((jI h3 (iN he h1)).mono hF))) h
 case alloc t zs =>
  simp only[bX,gH,fP,fJ] at h;simp only[evalOp];split at h
  case h_2=>exact h.elim
  rename_i k;split at h
  case h_2=>exact h.elim
  rename_i m hb;simp only[cu j.tl m];exact fun g=>Bv j m (eM hb) h g
 case allocD t zs =>
  simp only[bX,gH,fP,fJ] at h;simp only[evalOp];split at h
  case h_2=>exact h.elim
  rename_i k;split at h
  case h_2=>exact h.elim
  rename_i m hb;simp only[cu j.tl m];exact fun g _=>Bv j m (eM hb) h g
 case mkF e n sz xs =>
  simp only[bX,gH,fP,fJ] at h;simp only[evalOp];split at h
  case h_2=>exact h.elim
  rename_i h1 h2 h3;rw[(jK he h1).1];exact fun g F' hF hg=>Hh j h1 (aa5 h2) (abq h3) h hF hg
 case mkFD e n sz xs =>
  simp only[bX,gH,fP,fJ] at h;simp only[evalOp];split at h
  case h_2=>exact h.elim
  rename_i h1 h2 h3;rw[(jK he h1).1];exact fun g F' hF hg _=>Hh j h1 (aa5 h2) (abq h3) h hF hg
 case mkR e n sz xs =>
  simp only[bX,gH,fP,fJ] at h;simp only[evalOp];split at h
  case h_2=>exact h.elim
  rename_i k h1 h2 h3;split at h
  case h_2=>exact h.elim
  rename_i m;rw[(jK he h1).1];simp only[cu j.tl m];exact fun g=>OY j h1 (aa5 h2) (abq h3) m h g
 case makeS=>exact Jc j h
 case store n y x=>exact Bw j h
 case storeD n y x=>exact yS j h
 case storeK key n y x =>
  simp only[bX] at h;split at h
  case h_2=>exact h.elim
  rename_i k off hy;split at h
  case h_2=>exact h.elim
  rename_i hb;obtain⟨n',a',x',k',bp,g,t,cs,ho,z,q,e3,e4,e5,hK⟩:=iV (P:=P) rfl (yS j h);rcases ho with ho | ho
  ·injection ho with q1 q2 q3
   subst q1 q2 q3;rw[(jx he hy).1] at e3;injection e3 with q1 q2
   subst q1 q2;have hb:=aa5 hb;subst hb;exact iK (.inr rfl) z q (jx he hy).1 e4 e5 hK
  ·cases ho
 case makeSD e sz n zs =>
  simp only[bX] at h;split at h
  case h_2=>exact h.elim
  rename_i k;split at h
  case h_2=>exact h.elim
  rename_i m h1 h2 h3;have p:=cu j.tl m;have r:zs.length=sz:=by have:=cn h1;simpa using this
  simp only[evalOp,p,jF r,h3];intro g _;have hz:aB F [] ((zs.map sM).map C.can) zs:=lD (lB zs);have ad:fB (zs.map sM)=true->∀i:Nat,aR F sz (List.replicate i ((zs.map sM).map C.can)) (List.replicate i zs).flatten:=by
   intro h2 i
   induction i with
   | zero=>simp only[List.replicate_zero,List.flatten_nil,aR]
   | succ i ih =>
    simp only[ack,List.flatten_cons,aR];exact⟨zs,_,rfl,r,oF h2,hz,ih⟩
  have s:∀i:Nat,i=n->aR F sz (List.replicate i ((zs.map sM).map C.can)) (List.replicate i zs).flatten:=by
   intro i hi;rw[abH] at h2;rcases h2 with h2 | h2
   ·have h2:=aa5 h2;rw[hi,h2];simp only[List.replicate_zero,List.flatten_nil,aR]
   ·exact ad h2 i
  have h3:=j.new (aA.le_refl F) p (o:=.row (.slice (some ⟨g,0,none⟩) n n) e sz n (List.replicate n zs).flatten) (to:=.row e sz (List.replicate n ((zs.map sM).map C.can)))
   ⟨rfl,rfl,by simp,⟨abq h3,_,_,rfl,fun e=>(by cases e)⟩,s _ rfl⟩
  exact⟨_,_,h3.put (c:=.rw k) (lW (by rw[Loc.aap,eu rfl])) (some k),h⟩
 case makeSV e sz b zs x =>
  simp only[bX] at h;split at h
  case h_2=>exact h.elim
  rename_i ki n k hx;split at h
  case h_2=>exact h.elim
  rename_i m h1 h2;have p:=cu j.tl m;have r:zs.length=sz:=by have:=cn h1;simpa using this
  obtain⟨m1,_,m3,m4,h⟩:=h;have hv:val L ρ x=.int ki n:=by rw[val,(gW he hx).1];rfl
  have ag:tY b (val L ρ x)=true:=by
   rw[hv,tY,xo,xo];exact⟨⟨Nat.ble_eq_true_of_le m3,Nat.ble_eq_true_of_le m4⟩,aa2 m1⟩
  have hc:mD (val L ρ x)=n.toNat:=by rw[hv];rfl
  simp only[evalOp,p,jF r,ag];rw[hc];intro g _;have hz:aB F [] ((zs.map sM).map C.can) zs:=lD (lB zs);have s:∀i:Nat,aR F sz (List.replicate i ((zs.map sM).map C.can)) (List.replicate i zs).flatten:=by
   intro i
   induction i with
   | zero=>simp only[List.replicate_zero,List.flatten_nil,aR]
   | succ i ih =>
    simp only[ack,List.flatten_cons,aR];exact⟨zs,_,rfl,r,oF h2,hz,ih⟩
  have h3:=j.new (aA.le_refl F) p (o:=.row (.slice (some ⟨g,0,none⟩) n.toNat n.toNat) e sz n.toNat (List.replicate n.toNat zs).flatten) (to:=.row e sz (List.replicate n.toNat ((zs.map sM).map C.can)))
   ⟨rfl,rfl,by simp,⟨m4,_,_,rfl,fun e=>(by cases e)⟩,s _⟩
  exact⟨_,_,h3.put (c:=.rw k) (lW (by rw[Loc.aap,eu rfl])) (some k),h⟩
 case callD f args =>
  simp only[bX,gH,fP,fJ] at h;simp only[evalOp];refine dZ.imp' (vV j (eF he args) h) ?_;rintro F' L' v ⟨M',l,c,h1,h2,h3⟩;exact h1.aaD h2 h3
 case callVD f args =>
  simp only[bX,gH,fP,fJ] at h;simp only[evalOp];split at h
  ·rename_i f' fi ca hx;obtain⟨be,bj,z,h1,h2⟩:=vQ he hx;rw[z];refine dZ.imp' (vV j (jM he h1 h2 args) h) ?_;rintro F' L' v ⟨M',l,c,h1,h2,h3⟩;exact h1.aaD h2 h3
  ·rename_i nm c hx;split at h
   case h_2=>exact h.elim
   rename_i t c;obtain⟨u,z,hr⟩:=yP he hx;simp only[Rel] at hr;obtain⟨u',rfl,hu⟩:=hr;obtain⟨f',hm,h⟩:=h;have q:sS P (ev ρ f)=some (f',[u'],[]):=by rw[z];simp only[sS,hm]
   rw[q];have ae:aB F L (c::fR τ args) ([u']++bE L ρ args++[]):=by
    rw[abG];simp only[abj,abF,aB];exact⟨_,_,rfl,hu.lift,eF he args⟩
   refine dZ.imp' (vV j ae h) ?_;rintro F' L' v ⟨M',l,c,h1,h2,h3⟩;exact h1.aaD h2 h3
  ·exact h.elim
 case callO f args =>
  simp only[bX,gH,fP,fJ] at h;simp only[evalOp];cases h with
  | mk h =>
   obtain⟨ks,ko,Lin,R,h1,h2,h3,h4,h5,h6,h7⟩:=h;refine eJ.imp (rO (K:=fun M' l v=>K M' (bH d v l)) j (eF he args) h1 h2 h3 h4 h5 h6 h7) ?_;rintro F' L' v ⟨M',l,c,h1,h2,h3⟩ _;exact h1.aaD h2 h3
  | inpl ks Lin R h1 h2 h3 h4 =>
   refine eJ.imp (vT (K:=fun M' l v=>K M' (bH d v l)) j (eF he args) h1 h2 h3 h4) ?_;rintro F' L' v ⟨M',l,c,h1,h2,h3⟩ _;exact h1.aaD h2 h3
 case callVO f args =>
  simp only[bX,gH,fP,fJ] at h;simp only[evalOp];split at h
  case h_2=>exact h.elim
  rename_i f' fi ca hx;obtain⟨be,bj,z,g1,g2⟩:=vQ he hx;rw[z];cases h with
  | mk h =>
   obtain⟨ks,ko,Lin,R,h1,h2,h3,h4,h5,h6,h7⟩:=h;refine eJ.imp (rO (K:=fun M' l v=>K M' (bH d v l)) j (jM he g1 g2 args) h1 h2 h3 h4 h5 h6 h7) ?_;rintro F' L' v ⟨M',l,c,h1,h2,h3⟩ _;exact h1.aaD h2 h3
  | inpl ks Lin R h1 h2 h3 h4 =>
   refine eJ.imp (vT (K:=fun M' l v=>K M' (bH d v l)) j (jM he g1 g2 args) h1 h2 h3 h4) ?_;rintro F' L' v ⟨M',l,c,h1,h2,h3⟩ _;exact h1.aaD h2 h3
 case app=>exact OZ j h
 case appX=>exact KZ j h
 case appD=>exact K0 j h
 case mkmap =>
  simp only[bX] at h;simp only[evalOp];split at h
  case h_2=>exact h.elim
  rename_i k;split at h
  case h_2=>exact h.elim
  rename_i m;have p:=cu j.tl m;simp only[p];intro g;have h1:=j.new (aA.le_refl F) p (o:=.box g 0 []) (to:=.map []) ⟨rfl,rfl⟩;exact⟨_,_,h1.put (c:=.mpr k) (sv:=.v (.map (some g))) ⟨_,rfl,by simp only[Rel];exact⟨g,[],by rw[Loc.aap,eu rfl],rfl⟩⟩ (some k),h⟩
 case mrange=>exact h.elim
 case mnext=>exact h.elim
 case mentry=>exact h.elim
 case mupd str x i v =>
  simp only[bX] at h;simp only[evalOp];split at h
  case h_2=>exact h.elim
  rename_i k hx;split at h
  case h_2=>exact h.elim
  rename_i es m ao ag hp;obtain⟨ba,av,h⟩:=h;obtain⟨g,cs,z,q⟩:=He he hx;obtain⟨g',vs,e3,hE⟩:=KY j.tl m;rw[q] at e3;injection e3 with e3
  injection e3 with q1 q2 q3
  subst q1 q3;rw[z];have an:Rel F [] (dG τ i) (val L ρ i)/\fL str (val L ρ i) (val L ρ i)=some true:=by
   rcases O5 ao with⟨n,rfl,e⟩ | ⟨t,rfl,e⟩
   ·obtain⟨q,w⟩:=gW he e;simp only[e,val,q,conc,Rel,fL,decide_true];exact⟨⟨trivial,w⟩,trivial⟩
   ·obtain⟨q,w⟩:=xN he e;simp only[e,val,q,conc,Rel,fL,decide_true];exact⟨⟨trivial,w⟩,trivial⟩
  have bd:Rel F [] ((dG τ v).cel.aaw) (val L ρ v):=by
   have aE:=iN he ag;have ce:=jI (L':=[]) hp aE;exact Jd (CA he v) hp
  obtain⟨cs',al,bi⟩:=Hj an.1 bd hE av;refine⟨k,cs,q,hE.isMap,an.2,cs',al,?_⟩;have h4:=j.turn (o':=.box g 0 cs') (to:=.map ba) q ⟨rfl,rfl⟩ (fun g' t' ch e=>by injection e with a b c;subst a b;exact⟨_,rfl⟩) (fun _ _=>⟨rfl,bi⟩);exact h4.aaD (c:=.und) (sv:=.v undef) ⟨_,rfl,by simp only[Rel]⟩ h
 case storeX n a x=>exact O4 (Bw j h)
 all_goals
  simp only[bX,gH,fP,fJ] at h;simp only[evalOp];exact Tg (d:=d) (K:=K) j h
end
section
variable {P:Program}{PS:oE}{G:Nat->Option (Nat×TypeId)}{F:aA}{L:Loc}{ρ:Env}{M:TL}{τ:aG}{a:Act}{w:World}{Q:Exit->Act->World->Prop}{o:Oper}
theorem kP {L2:Loc}(he:aC L ρ a) (b:aC L2 ρ a):∀xs:List X,bE L2 ρ xs=bE L ρ xs
 | []=>rfl
 | x::xs=>by
  have:val L2 ρ x=val L ρ x:=by
   cases x with
   | t n=>exact(b.eq n).symm.trans (he.eq n)
   | c v=>rfl
   | fn f=>rfl
   | mt d n =>
    simp only[val,ev];cases ρ n<;>rfl
  simp only[bE,this,kP he b xs]
theorem nL {f:Nat}{args:List C}{u:List Value}{K:TL->aG->C->Prop}(y:St F L w) (he:aC L ρ a) (n:TS G F L ρ M τ) (m:aB F L args u) (h:kF P f args M τ K) :
  ∃F' L',St F' L' w/\aC L' ρ a/\Step F L w F' L' w/\eJ P f u F' L' (fun F' L' v=>∃M' b c,TS G F' L' ρ M' b/\aN F' L' c (.v v)/\K M' b c):=by
 cases h with
 | inpl ks Lin R h1 h2 h3 h4=>exact⟨F,L,y,he,Step.refl _ _ _,vT n m h1 h2 h3 h4⟩
 | mk h =>
 obtain⟨fz,ks,ko,h⟩:=h;obtain⟨F1,L1,M1,z,d,x,s,e,j,q,M2,Lin,R,k1,t,r,p,k,l,k8,k9⟩:=pQ y he n m h;rcases k1 with rfl | ⟨k1,k2⟩
 ·exact⟨F1,_,x,s,e,rO j q t r p k l k8 k9⟩
 ·obtain⟨e1,e2,e3,e4,e5⟩:=qR x s j k1 k2;exact⟨F1,_,e1,e2,e.trans e3,rO e4 (q.ext (aA.le_refl F1) e5) t r p k l k8 k9⟩
theorem uI {f:Nat}{args:List C}{x:List Value}{K:TL->aG->C->Prop}(hs:St F L w) (he:aC L ρ a) (ht:TS G F L ρ M τ) (ha:aB F L args x) (h:lK P PS f args M τ K) (j:PS.st=none) :
  ∃F' L',St F' L' w/\aC L' ρ a/\Step F L w F' L' w/\gu P (Aq G PS) f x F' L' (fun F' L' v=>∃M' d c,TS G F' L' ρ M' d/\aN F' L' c (.v v)/\K M' d c):=by
 obtain⟨fz,ks,ko,h⟩:=h;obtain⟨F1,L1,M1,z,k,y,t,l,m,r,M2,Lin,R,Pp,k1,u,s,q,n,p,b,k8,e,k9⟩:=pQ hs he ht ha h;rcases k1 with rfl | ⟨k1,k2⟩
 ·exact⟨F1,_,y,t,l,Bz m r u s q n p b k8 e j k9⟩
 ·obtain⟨e1,e2,e3,e4,e5⟩:=qR y t m k1 k2;exact⟨F1,_,e1,e2,l.trans e3,Bz e4 (r.ext (aA.le_refl F1) e5) u s q n p b k8 e j k9⟩
theorem uJ {f:Nat}{args:List C}{t:List Value}{K:TL->aG->C->Prop}{st:TL->Value->Prop}(u:St F L w) (he:aC L ρ a) (p:TS G F L ρ M τ) (n:aB F L args t) (h:FX P PS.ps PS.hb st f args M τ K) (k:PS.st=some st) :
  ∃F' L',St F' L' w/\aC L' ρ a/\Step F L w F' L' w/\gu P (Aq G PS) f t F' L' (fun F' L' v=>∃M' e c,TS G F' L' ρ M' e/\aN F' L' c (.v v)/\K M' e c):=by
 obtain⟨ks,ko,M2,Lin,R,Pp,k1,s,r,q,l,m,b,k8,j,k9⟩:=h;have d:PS=⟨PS.ps,PS.hb,some st⟩:=by rw[<-k]
 rcases k1 with rfl | ⟨k1,y⟩
 ·exact⟨F,_,u,he,Step.refl _ _ _,BA p n d s r q l m b k8 j k9⟩
 ·obtain⟨x,e2,z,e4,e5⟩:=qR u he p k1 y;exact⟨F,_,x,e2,z,BA e4 (n.ext (aA.le_refl F) e5) d s r q l m b k8 j k9⟩
theorem BB:∀{cs:List C}{b us:List Value},yN cs=some us->aB F L cs b->b=us
 | [],b,us,h,r=>by simp only[yN,aa1] at h;simp only[aB] at r;rw[r,<-h]
 | c::cs,b,us,h,r=>by
  simp only[aB] at r;obtain⟨v,f,rfl,d,e⟩:=r;cases c<;>simp only[yN,reduceCtorEq] at h
  all_goals
   split at h
   case h_2=>cases h
   rename_i k j;injection h with h
   subst h;rw[BB j e];simp only[Rel] at d
   first
    | rw[d.1]
    | rw[d]
theorem K8 {c:C}{u v:Value}(h:D6 c=some u) (r:Rel F L c v):v=u/\∃t x,u=.iface t x:=by
 cases c<;>simp only[D6,reduceCtorEq] at h
 case ifc t c =>
  simp only[Rel] at r;obtain⟨x,rfl,r⟩:=r;cases c<;>simp only[D6,reduceCtorEq] at h
  case agg cs =>
   split at h
   case h_2=>cases h
   rename_i us b;injection h with h
   subst h;simp only[Rel] at r;obtain⟨d,rfl,r⟩:=r;rw[BB b r];exact⟨rfl,_,_,rfl⟩
  all_goals
   injection h with h
   subst h;simp only[Rel] at r
   first
    | (obtain⟨rfl,_⟩:=r;exact⟨rfl,_,_,rfl⟩)
    | (subst r;exact⟨rfl,_,_,rfl⟩)
theorem bK.from {F1:aA}{L1:Loc}{K:dQ}{a':Act}{w':World}(b:Step F L w F1 L1 w) (h:bK F1 L1 w a K a' w'):bK F L w a K a' w':=by
 obtain⟨F',L',ρ',h1,h2,h3,h4,h5,h6⟩:=h;exact⟨F',L',ρ',h1,h2,h3,h4,b.trans h5,h6⟩
theorem Je {own:Bool}{s:eI}{K:TK}(hs:St F L w) (he:aC L ρ a) (e:TS G F L ρ M τ) (hd:∀k,o.dst=some k->k<a.tmps.size) (hl:iH P own o.op=some s)
  (b:bX P s o.dst M τ K):o.wp P a w (bK F L w a (Both G K)) Q:=by
 by_cases hc:kO s=true
 ·cases s<;>simp only[kO,abl] at hc
  ·rename_i f args;simp only[bX,gH,fP,fJ] at b;obtain⟨F1,L1,x,h,n,m⟩:=nL hs he e (eF e.env args) b;refine Oper.wp_mono (fun a' w'=>bK.from n) (fV x h hd hl ?_);simp only[evalOp];rw[kP he h];exact eJ.imp m fun F' L' v ⟨M',r,c,h1,h2,h3⟩=>h1.aaD h2 h3
  ·rename_i fx args;simp only[bX,gH,fP,fJ] at b;split at b
   ·rename_i f fi ca hx;obtain⟨aE,bb,z,h1,h2⟩:=vQ e.env hx;obtain⟨F1,L1,x,h,n,m⟩:=nL hs he e (jM e.env h1 h2 args) b;refine Oper.wp_mono (fun a' w'=>bK.from n) (fV x h hd hl ?_);simp only[evalOp,z,sS];rw[kP he h];exact eJ.imp m fun F' L' v ⟨M',r,c,h1,h2,h3⟩=>h1.aaD h2 h3
   ·rename_i nm c hx;split at b
    case h_2=>exact b.elim
    rename_i t c;obtain⟨u,z,hr⟩:=yP e.env hx;simp only[Rel] at hr;obtain⟨u',rfl,hu⟩:=hr;obtain⟨f',hm,b⟩:=b;have d:aB F L (c::fR τ args) ([u']++bE L ρ args++[]):=by
     rw[abG];simp only[abj,abF,aB];exact⟨_,_,rfl,hu.lift,eF e.env args⟩
    obtain⟨F1,L1,x,h,n,m⟩:=nL hs he e d b;refine Oper.wp_mono (fun a' w'=>bK.from n) (fV x h hd hl ?_);have e2:sS P (ev ρ fx)=some (f',[u'],[]):=by rw[z];simp only[sS,hm]
    simp only[evalOp,e2];rw[kP he h];exact eJ.imp m fun F' L' v ⟨M',r,c,h1,h2,h3⟩=>h1.aaD h2 h3
   ·rename_i t nm hx;split at b
    case h_2=>exact b.elim
    rename_i t' c aa q l;have z:=OP e.env hx;obtain⟨f',hm,b⟩:=b;have p:=eF e.env args;rw[l] at p;simp only[aB,Rel] at p;obtain⟨v0,j,am,⟨u,rfl,hu⟩,y⟩:=p;have d:aB F L (c::aa) (u::j):=by
     simp only[aB];exact⟨_,_,rfl,hu.lift,y⟩
    obtain⟨F1,L1,x,h,n,m⟩:=nL hs he e d b;refine Oper.wp_mono (fun a' w'=>bK.from n) (fV x h hd hl ?_);have hi:∃ms,P.underlying t=some (.interface ms):=by
     unfold RP at q;split at q
     ·exact⟨_,by assumption⟩
     ·cases q
    obtain⟨ms,hi⟩:=hi;have e2:sS P (ev ρ fx)=none:=by rw[z];rfl
    have e3:AY P (ev ρ fx) (bE L1 ρ args)=some (f',u::j):=by
     rw[kP he h,am,z];simp only[AY,hi,hm]
    simp only[evalOp,e2,e3];exact eJ.imp m fun F' L' v ⟨M',r,c,h1,h2,h3⟩=>h1.aaD h2 h3
   ·exact b.elim
 ·exact fV hs he hd hl (K7 (by simpa using hc) e b)
theorem Jf {own:Bool}{s:eI}{K:TK}(q:St F L w) (he:aC L ρ a) (j:TS G F L ρ M τ) (hd:∀k,o.dst=some k->k<a.tmps.size) (hl:iH P own o.op=some s)
  (d:vP P PS s o.dst M τ K) (hQ:∀v m w' F' L',sQ v m->St F' L' w'->Step F L w F' L' w'->Aq G PS F' L' v->Q (.panic m) a w'):o.wp P a w (bK F L w a (Both G K)) Q:=by
 cases s<;>simp only[vP] at d<;>try (exact d.elim)
 ·rename_i f args;simp only[gH,fP,fJ] at d;have key:∃F' L',St F' L' w/\aC L' ρ a/\Step F L w F' L' w/\gu P (Aq G PS) f (bE L ρ args) F' L' (fun F' L' v=>∃M' h c,TS G F' L' ρ M' h/\aN F' L' c (.v v)/\K M' (bH o.dst c h)):=by
   split at d
   ·rename_i b;exact uI q he j (eF j.env args) d b
   ·rename_i st b;exact uJ q he j (eF j.env args) d b
  obtain⟨F1,L1,g1,p,n,r⟩:=key;refine Oper.wp_mono (fun a' w'=>bK.from n) (wK (PX:=Aq G PS) g1 p hd hl ?_ fun v m w' F' L' z q1 q2 q3=>hQ v m w' F' L' z q1 (n.trans q2) q3);rw[kP he p];exact gu.imp r fun F' L' v ⟨M',h,c,h1,h2,h3⟩=>h1.aaD h2 h3
 ·rename_i fx args;split at d
  case h_2=>exact d.elim
  rename_i f fi ca hx;simp only[gH,fP,fJ] at d;obtain⟨ae,ao,e1,h1,h2⟩:=vQ j.env hx;have key:∃F' L',St F' L' w/\aC L' ρ a/\Step F L w F' L' w/\gu P (Aq G PS) f (ae++bE L ρ args++ao) F' L' (fun F' L' v=>∃M' h c,TS G F' L' ρ M' h/\aN F' L' c (.v v)/\K M' (bH o.dst c h)):=by
   split at d
   ·rename_i b;exact uI q he j (jM j.env h1 h2 args) d b
   ·rename_i st b;exact uJ q he j (jM j.env h1 h2 args) d b
  obtain⟨F1,L1,g1,p,n,r⟩:=key;refine Oper.wp_mono (fun a' w'=>bK.from n) (um (PX:=Aq G PS) g1 p hd hl e1 ?_ fun v m w' F' L' z q1 q2 q3=>hQ v m w' F' L' z q1 (n.trans q2) q3);rw[kP he p];exact gu.imp r fun F' L' v ⟨M',h,c,h1,h2,h3⟩=>h1.aaD h2 h3
 ·rename_i x;have d:∃u,D6 (dG τ x)=some u/\jQ M [] PS.hb=true/\PS.ps u/\∀s,PS.st=some s->s M u:=by
   split at d
   ·rename_i b;obtain⟨u,h1,l,h2⟩:=d;exact⟨u,h1,l,h2,fun s e=>by rw[b] at e;cases e⟩
   ·rename_i st b;obtain⟨u,h1,l,h2,h3⟩:=d;exact⟨u,h1,l,h2,fun s e=>by rw[b] at e;injection e with e;subst e;exact h3⟩
  obtain⟨u,h1,l,h2,h3⟩:=d;have hr:=mS (eK j.env x);have hc:(dG τ x).cel=dG τ x:=by
   cases e:dG τ x<;>rw[e] at h1<;>first | rfl | (simp only[D6,reduceCtorEq] at h1;done)
  rw[hc] at hr;obtain⟨e1,t,y,e2⟩:=K8 h1 hr;refine I5 (PX:=Aq G PS) q he hl (t:=t) (u:=y) (e1.trans e2) ⟨j.kp,by rw[<-e2];exact h2,O1 j.tl l fun k g t cs _ e=>e,fun s e=>⟨M,Bx j.tl,by rw[<-e2];exact h3 s e⟩⟩ hQ
theorem Gd (he:aC L ρ a) (b:TS G F L ρ M τ) (d:Option Nat):∃ρ',aC L ρ' a/\TS G F L ρ' M (sN d τ):=by
 cases d with
 | none=>exact⟨ρ,he,b⟩
 | some k =>
  have q:∀j,sN (some k) τ j=if j=k then(τ k).aaQ else τ j:=by
   intro j;simp only[sN];cases h:Nat.beq j k with
   | true=>have:=aa5 h;simp[this]
   | false=>have:=gO h;simp[this]
  by_cases c:∃p off,τ k=.ownv p off
  ·obtain⟨p,off,c⟩:=c;have f:=b.env k;rw[c] at f;simp only[aN,Rel] at f;obtain⟨v,n,g,t,cs,m,rfl⟩:=f;have r:conc L (ρ k)=.pointer (some ⟨g,off,none⟩):=n.conc;refine⟨Fr.put (some k) (.own p off) ρ,⟨fun l=>?_,fun l j o e=>?_,fun l s j e=>?_⟩,b.tl,fun j=>?_,b.kp,b.glob⟩
   ·rw[he.eq l,put_eq];simp only[];split
    ·rename_i h;subst h;rw[r];simp only[conc,m]
    ·rfl
   ·rw[put_eq] at e;simp only[] at e;split at e
    ·injection e with q1 q2;subst q1;exact⟨g,t,cs,m⟩
    ·exact he.own _ _ _ e
   ·rw[put_eq] at e;simp only[] at e;split at e
    ·cases e
    ·exact he.el _ _ _ e
   ·rw[q,put_eq];simp only[];split
    ·rw[c];exact⟨rfl,g,t,cs,m⟩
    ·exact b.env j
  ·refine⟨ρ,he,b.tl,fun j=>?_,b.kp,b.glob⟩;rw[q];split
   ·rename_i h;subst h;have:(τ j).aaQ=τ j:=by
     cases e:τ j<;>first | rfl | exact o5 ⟨_,_,e⟩ c
    rw[this];exact b.env j
   ·exact b.env j
def uK (G:Nat->Option (Nat×TypeId)) (PS:oE) (ks:List Nat):Prop:=∀k∈ks,G k≠none->1000<=k\/fU (PS.hb.map (·.1)) k=true
theorem uK.left {ks b:List Nat}(h:uK G PS (ks++b)):uK G PS ks:=fun k c=>h k (aa9.2 (.inl c))
theorem uK.right {ks b:List Nat}(h:uK G PS (ks++b)):uK G PS b:=fun k c=>h k (aa9.2 (.inr c))
theorem l9:∀(a b:List ak),dM (a++b)=dM a++dM b
 | [],b=>rfl
 | .frz k::a,b=>by simp only[abj,dM,l9 a b]
 | .op _ _ _::a,b=>by simp only[abj,dM,l9 a b]
 | .pc _ _ _::a,b=>by simp only[abj,dM,l9 a b]
theorem Ef {k:Nat}{K:TK}{q:TL->aG->TK->Prop}(r:St F L w) (he:aC L ρ a) (p:TS G F L ρ M τ) (z:G k≠none->1000<=k\/fU (PS.hb.map (·.1)) k=true) (h:stepT P PS false (.frz k) q M τ K) :
  ∃F' L' ρ' M' b,St F' L' w/\aC L' ρ' a/\Step F L w F' L' w/\TS G F' L' ρ' M' b/\q M' b K:=by
 simp only[stepT,gH] at h;split at h
 ·rename_i t sz els f;obtain⟨F1,L1,n,m,d,c,_⟩:=pO r he p f;exact⟨F1,L1,ρ,_,_,n,m,d,c,h⟩
 ·rename_i t cs f;split at h
  case h_2=>exact h.elim
  rename_i s y u v;have l:G k=none:=by
   cases e:G k with
   | none=>rfl
   | some x =>
    rcases z (by rw[e];simp) with h1 | h1
    ·rw[Nat.blt_eq] at u;omega
    ·rw[v] at h1;cases h1
  obtain⟨F1,L1,j,n,m,d,c⟩:=Gb r he p f s y l;exact⟨F1,L1,j,_,_,n,m,d,c,h⟩
 ·exact h.elim
theorem zh {A:cJ}{r:Nat}{l:Array Oper}{K:TK}:∀(is:List Nat) {ss:List ak}{F:aA}{L:Loc}{ρ:Env}{M:TL}{τ:aG}{a:Act}{w:World},qE P A r l is=some ss->uK G PS (dM ss)->St F L w->aC L ρ a->TS G F L ρ M τ->a.tmps.size=A.n ->
  dL P PS false ss M τ K->(∀a' w',eZ A.n F L w a (dstsOf l is) (Both G K) a' w'->Q .normal a' w') ->
  (∀v ch a' w',sQ v ch->sL A.n F L w a (dstsOf l is) (Aq G PS) v a' w'->Q (.panic ch) a' w')->wpOps P l Q is a w:=by
 intro is
 induction is with
 | nil =>
  intro ss F L ρ M τ a w hl ca hs he ht hn q hQ be;simp only[qE,aa1] at hl;subst hl;exact hQ a w ⟨F,L,ρ,hs,he,hn,rfl,Step.refl _ _ _,fun _ _=>rfl,M,τ,ht,q⟩
 | cons i is ih =>
  intro ss F L ρ M τ a w hl ca hs he ht hn q hQ be;simp only[qE] at hl;split at hl
  case h_1=>cases hl
  rename_i o hi;split at hl
  case h_2=>cases hl
  rename_i g s z hg cp bo ba;injection hl with hl
  subst hl;have aw:∀(ks:List Nat) {x:ak}{F:aA}{L:Loc}{ρ:Env}{M:TL}{τ:aG},uK G PS (dM (ks.map ak.frz++x::z))->St F L w->aC L ρ a->TS G F L ρ M τ->dL P PS false (ks.map ak.frz++x::z) M τ K ->
    ∃F' L' ρ' M' ag,St F' L' w/\aC L' ρ' a/\Step F L w F' L' w/\TS G F' L' ρ' M' ag/\dL P PS false (x::z) M' ag K:=by
   intro ks
   induction ks with
   | nil=>intro x F L ρ M τ _ hs he ht h;exact⟨F,L,ρ,M,τ,hs,he,Step.refl _ _ _,ht,h⟩
   | cons k ks cX =>
    intro x F L ρ M τ hz hs he ht h;simp only[abe,abj,fC] at h;obtain⟨F1,L1,ci,M1,u,g1,g2,g3,g4,h⟩:=Ef hs he ht (hz k (by simp[dM])) h;obtain⟨F2,L2,co,M2,cy,k1,k2,k3,k4,k5⟩:=cX (fun j hj=>hz j (by simp only[abe,abj,dM];exact abz _ hj)) g1 g2 g4 h;exact⟨F2,L2,co,M2,cy,k1,k2,g3.trans k3,k4,k5⟩
  have bt:uK G PS (dM z):=fun j hj=>ca j (by
   rw[l9];refine aa9.2 (.inr ?_);cases hp:wG A.pan r i<;>simp only[nQ,dM]<;>exact hj)
  obtain⟨F1,L1,ci,M1,u,ce,ac,an,m,q⟩:=aw _ ca hs he ht q
  clear aw he ht
  revert ac m
  generalize ci=ρ;intro ac m;have hd:∀k,o.dst=some k->k<a.tmps.size:=by
   intro k hk;rw[hk] at bo;rw[hn];have h2:Nat.blt k A.n=true:=bo;simpa using h2
  have bu:dstsOf l (i::is)=match o.dst with | some d=>d::dstsOf l is | none=>dstsOf l is:=by
   simp only[dstsOf,hi,Option.bind_some];rfl
  have ad:∀j,j∉dstsOf l (i::is)->o.dst≠some j/\j∉dstsOf l is:=by
   intro j hj;rw[bu] at hj;cases ho:o.dst with
   | none=>rw[ho] at hj;exact⟨by simp,hj⟩
   | some d =>
    rw[ho] at hj;simp only[abd,not_or] at hj;exact⟨by simp;exact fun e=>hj.1 e.symm,hj.2⟩
  have after:∀{KK:Prop},o.wp P a w (fun a' w'=>bK F1 L1 w a (Both G fun M' ag=>dL P PS false z M' (sN o.dst ag) K) a' w') Q->o.wp P a w (wpOps P l Q is) Q:=by
   intro _ this;refine Oper.wp_mono ?_ (qF (asg:=[]) this);rintro a' w' ⟨⟨F',L',ρ',g1,g2,g3,g4,g5,M',ag,g6,g7⟩,cm⟩;obtain⟨co,n1,n2⟩:=Gd g2 g6 o.dst;refine ih ba bt g1 n1 n2 (by rw[g3,hn]) g7 ?_ ?_
   ·rintro av ao ⟨F'',L'',aE,k1,k2,k3,k4,k5,k6,k7⟩;refine hQ av ao ⟨F'',L'',aE,k1,k2,k3,k4.trans g4,(an.trans g5).trans k5,fun j hj=>?_,k7⟩;obtain⟨n1,n2⟩:=ad j hj;rw[k6 j n2,cm j n1]
   ·rintro v ch av ao kc ⟨F'',L'',k1,k2,k3,k4,k5,k6⟩;refine be v ch av ao kc ⟨F'',L'',k1,(an.trans g5).trans k2,k3,k4.trans g4,fun j hj=>?_,k6⟩;obtain⟨n1,n2⟩:=ad j hj;rw[k5 j n2,cm j n1]
  have bb:∀{u:aG},TS G F1 L1 ρ M1 u->bX P s o.dst M1 u (fun M' ag=>dL P PS false z M' (sN o.dst ag) K)->o.wp P a w (wpOps P l Q is) Q:=by
   intro u m q;exact after (KK:=True) (Je (Q:=Q) ce ac m hd cp q)
  have ar:∀{u:aG},TS G F1 L1 ρ M1 u->vP P PS s o.dst M1 u (fun M' ag=>dL P PS false z M' (sN o.dst ag) K)->o.wp P a w (wpOps P l Q is) Q:=by
   intro u m q;exact after (KK:=True) (Jf (Q:=Q) ce ac m hd cp q fun v ch w' F' L' qc q1 q2 q3=>be v ch a w' qc ⟨F',L',q1,an.trans q2,hn,rfl,fun _ _=>rfl,q3⟩)
  have skip:∀{u:aG},TS G F1 L1 ρ M1 u->dL P PS false z M1 (bH o.dst .und u) K->wpOps P l Q is (a.put o.dst undef) w:=by
   intro u m q;have cx:=ac.put hd (v:=undef) (x:=.v undef) rfl cK fD (uc L1);refine ih ba bt ce cx (m.put (c:=.und) (sv:=.v undef) ⟨_,rfl,by simp only[Rel]⟩ o.dst) (by rw[jV,hn]) q ?_ ?_
   ·rintro av ao ⟨F'',L'',aE,k1,k2,k3,k4,k5,k6,k7⟩;refine hQ av ao ⟨F'',L'',aE,k1,k2,k3,k4.trans (gT _ _ _),an.trans k5,fun j hj=>?_,k7⟩;obtain⟨n1,n2⟩:=ad j hj;rw[k6 j n2,kK n1]
   ·rintro v ch av ao kc ⟨F'',L'',k1,k2,k3,k4,k5,k6⟩;refine be v ch av ao kc ⟨F'',L'',k1,an.trans k2,k3,k4.trans (gT _ _ _),fun j hj=>?_,k6⟩;obtain⟨n1,n2⟩:=ad j hj;rw[k5 j n2,kK n1]
  simp only[wpOps,hi];cases cl:wG A.pan r i with
  | false =>
   rw[cl] at q;cases aa:o.guard with
   | none =>
    rw[aa] at hg;simp only[iJ,aa1] at hg;subst hg;simp only[nQ,fC,stepT] at q;rw[eu (by simp[Region.wanted,aa])];exact .inl (bb m q)
   | some p =>
    obtain⟨j,y⟩:=p;rw[aa] at hg;simp only[iJ] at hg;split at hg
    case h_2=>cases hg
    rename_i d az;injection hg with hg
    subst hg;simp only[nQ,fC,stepT] at q;split at q
    ·rename_i b hb;have ae:ρ d=.v (.bool b):=jq (x:=.t d) m.env hb;have f:=ac.eq d;rw[ae] at f;have hy:yielded l a.tmps j=some b:=by
      simp only[yielded,az,Option.bind_some,rG f]
     have hw:Region.wanted o (yielded l a.tmps)=(b == y):=by
      simp only[Region.wanted,aa,hy];cases b<;>cases y<;>rfl
     have am:TS G F1 L1 ρ M1 (bH (some d) (.bool b) u):=by
      have:=m.put (c:=.bool b) (sv:=.v (.bool b)) ⟨_,rfl,by simp only[Rel]⟩ (some d)
      rwa [lg ae] at this
     rw[hw];cases b<;>simp only[Ap] at q
     ·cases y
      ·exact .inl (bb am q)
      ·exact skip am q
     ·cases y
      ·exact skip am q
      ·exact .inl (bb am q)
    ·rename_i hb;have hr:=m.env d;rw[hb] at hr;simp only[aN,Rel] at hr;obtain⟨v,ae,rfl⟩:=hr;have f:=ac.eq d;rw[ae] at f;have hy:yielded l a.tmps j=none:=by
      simp only[yielded,az,Option.bind_some];rw[abp] at f;cases e:a.tmps[d]? with
      | none=>rfl
      | some v=>rw[e] at f;simp only[Option.getD_some,conc] at f;rw[f];rfl
     have hw:Region.wanted o (yielded l a.tmps)=false:=by
      simp only[Region.wanted,aa,hy];rfl
     rw[hw];exact skip m q
    ·exact q.elim
  | true =>
   rw[cl] at q;cases aa:o.guard with
   | none =>
    rw[aa] at hg;simp only[iJ,aa1] at hg;subst hg;simp only[nQ,fC,stepT] at q;rw[eu (by simp[Region.wanted,aa])];exact .inl (ar m q)
   | some p =>
    obtain⟨j,y⟩:=p;rw[aa] at hg;simp only[iJ] at hg;split at hg
    case h_2=>cases hg
    rename_i d az;injection hg with hg
    subst hg;simp only[nQ,fC,stepT] at q;split at q
    ·rename_i b _ hb;have ae:ρ d=.v (.bool b):=jq (x:=.t d) m.env hb;have f:=ac.eq d;rw[ae] at f;have hy:yielded l a.tmps j=some b:=by
      simp only[yielded,az,Option.bind_some,rG f]
     have hw:Region.wanted o (yielded l a.tmps)=(b == y):=by
      simp only[Region.wanted,aa,hy];cases b<;>cases y<;>rfl
     have am:TS G F1 L1 ρ M1 (bH (some d) (.bool b) u):=by
      have:=m.put (c:=.bool b) (sv:=.v (.bool b)) ⟨_,rfl,by simp only[Rel]⟩ (some d)
      rwa [lg ae] at this
     rw[hw];cases b<;>simp only[Ap] at q
     ·cases y
      ·exact .inl (ar am q)
      ·exact skip am q
     ·cases y
      ·exact skip am q
      ·exact .inl (ar am q)
    ·rename_i hb;have hr:=m.env d;rw[hb] at hr;simp only[aN,Rel] at hr;obtain⟨v,ae,rfl⟩:=hr;have f:=ac.eq d;rw[ae] at f;have hy:yielded l a.tmps j=none:=by
      simp only[yielded,az,Option.bind_some];rw[abp] at f;cases e:a.tmps[d]? with
      | none=>rfl
      | some v=>rw[e] at f;simp only[Option.getD_some,conc] at f;rw[f];rfl
     have hw:Region.wanted o (yielded l a.tmps)=false:=by
      simp only[Region.wanted,aa,hy];rfl
     rw[hw];exact skip m q
    ·exact q.elim
theorem lF:aN F L .und (.v undef):=⟨_,rfl,by simp only[Rel]⟩
theorem zi {o:eI}{d:Option Nat}{F:aA}{L:Loc}{ρ:Env}{K K':dQ}(h:evalOp P o d F L ρ K) (p:∀F' L' ρ',K F' L' ρ'->K' F' L' ρ'):evalOp P o d F L ρ K':=by
 cases o
 case box t x =>
  simp only[evalOp] at h ⊢;cases d with
  | none=>exact h.elim
  | some k =>
   simp only[] at h ⊢;generalize L.get k=z at h ⊢;cases z with
   | none=>exact fun g=>p _ _ _ (h g)
   | some _=>exact h.elim
 case boxD t x =>
  simp only[evalOp] at h ⊢;cases d with
  | none=>exact h.elim
  | some k =>
   simp only[] at h ⊢;generalize L.get k=z at h ⊢;cases z with
   | none=>exact fun g r=>p _ _ _ (h g r)
   | some _=>exact h.elim
 case boxF t x=>exact fun g F' a b=>p _ _ _ (h g F' a b)
 case alloc t z =>
  simp only[evalOp] at h ⊢;cases d with
  | none=>exact h.elim
  | some k =>
   simp only[] at h ⊢;generalize L.get k=z at h ⊢;cases z with
   | none=>exact fun g=>p _ _ _ (h g)
   | some _=>exact h.elim
 case allocD t z =>
  simp only[evalOp] at h ⊢;cases d with
  | none=>exact h.elim
  | some k =>
   simp only[] at h ⊢;generalize L.get k=z at h ⊢;cases z with
   | none=>exact fun g r=>p _ _ _ (h g r)
   | some _=>exact h.elim
 case mkF e n sz xs =>
  simp only[evalOp] at h ⊢;generalize gC L ρ sz xs=z at h ⊢;cases z with
  | true=>exact fun g F' a b=>p _ _ _ (h g F' a b)
  | false=>exact h.elim
 case mkFD e n sz xs =>
  simp only[evalOp] at h ⊢;generalize gC L ρ sz xs=z at h ⊢;cases z with
  | true=>exact fun g F' a b c=>p _ _ _ (h g F' a b c)
  | false=>exact h.elim
 case mkR e n sz xs =>
  simp only[evalOp] at h ⊢;generalize gC L ρ sz xs=z at h ⊢;cases z with
  | false=>exact h.elim
  | true =>
   cases d with
   | none=>exact h.elim
   | some k =>
    simp only[] at h ⊢;generalize L.get k=z at h ⊢;cases z with
    | none=>exact fun g=>p _ _ _ (h g)
    | some _=>exact h.elim
 case makeS e sz b zs l c =>
  simp only[evalOp] at h ⊢;generalize ev ρ l=z1 at h ⊢;generalize ev ρ c=z2 at h ⊢;split at h
  ·rename_i k;generalize L.get k=z at h ⊢;cases z with
   | none=>exact⟨h.lo,h.le,h.hi,h.max,fun g=>p _ _ _ (h.out g)⟩
   | some _=>exact h.elim
  ·exact h.elim
 case storeX n a x =>
  simp only[evalOp] at h ⊢;generalize iD (aO (val L ρ x)) n=z1 at h ⊢;generalize kE (aO (val L ρ x))=z2 at h ⊢;generalize ev ρ a=z3 at h ⊢;split at h
  ·rename_i k off;generalize L.get k=z at h ⊢;split at h
   ·rename_i t cs;generalize jA t ((cs.drop off).take n) n=b at h ⊢;cases b
    ·exact h.elim
    ·exact fun r=>p _ _ _ (h r)
   ·exact h.elim
  ·exact⟨let⟨k,v,t,sz,m,xs,ad,c,h1,h2,h3,h4,h5,h6⟩:=h.out;⟨k,v,t,sz,m,xs,ad,c,h1,h2,h3,h4,h5,fun r=>p _ _ _ (h6 r)⟩⟩
  ·exact⟨let⟨k,v,t,sz,m,xs,ad,c,h1,h2,h3,h4,h5,h6⟩:=h.out;⟨k,v,t,sz,m,xs,ad,c,h1,h2,h3,h4,h5,fun r=>p _ _ _ (h6 r)⟩⟩
  ·exact h.elim
 case store n a x =>
  simp only[evalOp] at h ⊢;generalize iD (aO (val L ρ x)) n=z1 at h ⊢;generalize kE (aO (val L ρ x))=z2 at h ⊢;generalize ev ρ a=z3 at h ⊢;split at h
  ·rename_i k off;generalize L.get k=z at h ⊢;split at h
   ·rename_i t cs;generalize jA t ((cs.drop off).take n) n=b at h ⊢;cases b
    ·exact h.elim
    ·exact p _ _ _ h
   ·exact h.elim
  ·exact⟨let⟨k,v,t,sz,m,xs,ad,c,h1,h2,h3,h4,h5,h6⟩:=h.out;⟨k,v,t,sz,m,xs,ad,c,h1,h2,h3,h4,h5,p _ _ _ h6⟩⟩
  ·exact⟨let⟨k,v,t,sz,m,xs,ad,c,h1,h2,h3,h4,h5,h6⟩:=h.out;⟨k,v,t,sz,m,xs,ad,c,h1,h2,h3,h4,h5,p _ _ _ h6⟩⟩
  ·exact h.elim
 case storeD n a x =>
  simp only[evalOp] at h ⊢;generalize iD (aO (val L ρ x)) n=z1 at h ⊢;generalize kE (aO (val L ρ x))=z2 at h ⊢;generalize ev ρ a=z3 at h ⊢;split at h
  ·rename_i k off;generalize L.get k=z at h ⊢;split at h
   ·rename_i t cs;generalize jA t ((cs.drop off).take n) n=b at h ⊢;cases b
    ·exact h.elim
    ·exact p _ _ _ h
   ·exact h.elim
  ·exact h.elim
 case storeK key n a x =>
  obtain⟨n',a',x',k,off,g,t,cs,ho,e1,e2,e3,e4,y,h⟩:=iV rfl h;exact iK ho e1 e2 e3 e4 y (p _ _ _ h)
 case makeSD e sz n zs =>
  simp only[evalOp] at h ⊢;cases d with
  | none=>exact h.elim
  | some k =>
   simp only[] at h ⊢;split at h
   ·exact fun g r=>p _ _ _ (h g r)
   ·exact h.elim
 case makeSV e sz b zs x =>
  simp only[evalOp] at h ⊢;cases d with
  | none=>exact h.elim
  | some k =>
   simp only[] at h ⊢;split at h
   ·exact fun g r=>p _ _ _ (h g r)
   ·exact h.elim
 case call f args =>
  simp only[evalOp] at h ⊢;exact eJ.imp h fun _ _ _ h=>p _ _ _ h
 case callV f args =>
  simp only[evalOp] at h ⊢;generalize sS P (ev ρ f)=z at h ⊢;split at h
  ·exact eJ.imp h fun _ _ _ h=>p _ _ _ h
  ·generalize AY P (ev ρ f) (bE L ρ args)=z at h ⊢;split at h
   ·exact eJ.imp h fun _ _ _ h=>p _ _ _ h
   ·exact h.elim
 case callO f args =>
  simp only[evalOp] at h ⊢;exact eJ.imp h fun _ _ _ h r=>p _ _ _ (h r)
 case callVO f args =>
  simp only[evalOp] at h ⊢;generalize sS P (ev ρ f)=z at h ⊢;split at h
  ·exact eJ.imp h fun _ _ _ h r=>p _ _ _ (h r)
  ·exact h.elim
 case callD f args =>
  simp only[evalOp] at h ⊢;exact dZ.imp' h fun _ _ _ h=>p _ _ _ h
 case callVD f args =>
  simp only[evalOp] at h ⊢;generalize sS P (ev ρ f)=z at h ⊢;split at h
  ·exact dZ.imp' h fun _ _ _ h=>p _ _ _ h
  ·exact h.elim
 case app e sz b zs s x =>
  simp only[evalOp] at h ⊢;generalize ev ρ s=z1 at h ⊢;generalize ev ρ x=z2 at h ⊢;split at h
  ·exact⟨let⟨kd,n,xs,m,news,h1,h2,h3,h4,h5,h6⟩:=h.out;⟨kd,n,xs,m,news,h1,h2,h3,h4,h5,fun v q=>p _ _ _ (h6 v q)⟩⟩
  ·exact h.elim
 case appX e sz b zs s x =>
  simp only[evalOp] at h ⊢;generalize ev ρ s=z1 at h ⊢;generalize ev ρ x=z2 at h ⊢;split at h
  ·exact⟨let⟨kd,n,xs,m,news,h1,h2,h3,h4,h5,h6⟩:=h.out;⟨kd,n,xs,m,news,h1,h2,h3,h4,h5,fun v q r=>p _ _ _ (h6 v q r)⟩⟩
  ·exact h.elim
 case appD e sz b zs s x =>
  simp only[evalOp] at h ⊢;generalize ev ρ s=z1 at h ⊢;generalize ev ρ x=z2 at h ⊢;split at h
  ·exact⟨let⟨kd,n,xs,m,news,h1,h2,h3,h4,h5,h6⟩:=h.out;⟨kd,n,xs,m,news,h1,h2,h3,h4,h5,fun v q r=>p _ _ _ (h6 v q r)⟩⟩
  ·exact h.elim
 case pan x=>simp only[evalOp] at h
 case dead=>simp only[evalOp] at h
 case mkmap =>
  simp only[evalOp] at h ⊢;cases d with
  | none=>exact h.elim
  | some k =>
   simp only[] at h ⊢;generalize L.get k=z at h ⊢;cases z with
   | none=>exact fun g=>p _ _ _ (h g)
   | some _=>exact h.elim
 case mupd str x i v =>
  simp only[evalOp] at h ⊢;generalize ev ρ x=z1 at h ⊢;split at h
  ·obtain⟨k,cs,h1,h2,h3,cs',h4,h5⟩:=h;exact⟨k,cs,h1,h2,h3,cs',h4,p _ _ _ h5⟩
  ·exact h.elim
 case mrange x =>
  simp only[evalOp] at h ⊢;generalize ev ρ x=z1 at h ⊢;split at h
  ·rename_i g k;generalize L.get k=z at h ⊢;cases z with
   | none =>
    obtain⟨u,cs,h1,h2,h3⟩:=h;exact⟨u,cs,h1,h2,fun gi=>p _ _ _ (h3 gi)⟩
   | some _=>exact h.elim
  ·exact h.elim
 case mnext x =>
  simp only[evalOp] at h ⊢;generalize ev ρ x=z1 at h ⊢;split at h
  ·split at h
   ·rename_i hL;obtain⟨u,cs,h1,h2,h3,h4,h5⟩:=h.out;exact⟨u,cs,h1,h2,h3,fun j e a b=>p _ _ _ (h4 j e a b),fun a=>p _ _ _ (h5 a)⟩
   ·exact h.elim
  ·exact h.elim
 case mentry x =>
  simp only[evalOp] at h ⊢;generalize ev ρ x=z1 at h ⊢;split at h
  ·split at h
   ·obtain⟨u,cs,j,e,h1,h2,h3,h4,h5,h6⟩:=h.out;exact⟨u,cs,j,e,h1,h2,h3,h4,h5,p _ _ _ h6⟩
   ·exact h.elim
  ·exact h.elim
 all_goals
  simp only[evalOp] at h ⊢;exact Ee h fun v h=>p _ _ _ h
theorem Ge {s s':eI}(h:drawn s=some s'):kO s'=false:=by
 cases s<;>simp only[drawn,aa1,reduceCtorEq] at h<;>subst h<;>rfl
theorem Eg {bx:List Nat}{s s':eI}(h:pD bx s=some s'):kO s'=false:=by
 unfold pD at h;split at h
 ·split at h
  ·split at h
   ·injection h with h;subst h;rfl
   ·cases h
  ·split at h
   ·split at h
    ·injection h with h;subst h;rfl
    ·cases h
   ·cases h
 ·injection h with h;subst h;rfl
 ·split at h<;>(injection h with h;subst h;rfl)
 ·split at h<;>(injection h with h;subst h;rfl)
 ·exact Ge h
theorem Eh {fl bx:List Nat}{bk:List (Nat×Nat)}{s s':eI}(h:vH fl bk bx s=some s'):kO s'=false:=by
 rcases yt h with h | ⟨a,n,i,rfl,rfl⟩ | ⟨a,n,i,key,rfl,rfl⟩ | ⟨a,n,i,rfl,rfl⟩
 ·exact Eg h
 ·rfl
 ·rfl
 ·rfl
theorem Ei {s s':eI}(h:yj s=some s'):kO s'=false:=by
 cases s<;>simp only[yj,aa1,reduceCtorEq] at h<;>subst h<;>rfl
theorem wQ {A:cJ}{e:Array Oper}:∀{is:List Nat}{ss:List ak},fp P A e is=some ss->∀s∈ss,(∃d o g,s=.op d o g/\kO o=false)\/∃d o,s=.pc d o none/\FM o=true:=by
 intro is
 induction is with
 | nil=>intro ss h s c;simp only[fp,aa1] at h;subst h;cases c
 | cons i is f =>
  intro ss h s c;simp only[fp] at h;split at h
  case h_2=>cases h
  rename_i k j h1 h2;injection h with h
  subst h;rcases abd.1 c with rfl | c
  ·unfold Cr at h1;split at h1
   case h_1=>cases h1
   split at h1
   case h_2=>cases h1
   split at h1
   ·split at h1
    case h_3=>cases h1
    ·injection h1 with h1
     exact .inr ⟨_,_,h1.symm,rfl⟩
    ·injection h1 with h1
     exact .inr ⟨_,_,h1.symm,rfl⟩
   ·split at h1
    ·split at h1
     case h_2=>cases h1
     rename_i s' b;injection h1 with h1
     exact .inl ⟨_,s',_,h1.symm,Ei b⟩
    ·split at h1
     case h_2=>cases h1
     rename_i s' b;split at h1
     case h_2=>cases h1
     injection h1 with h1
     exact .inl ⟨_,s',_,h1.symm,Eh b⟩
  ·exact f h2 s c
theorem Ej:∀{ss:List ak},G5 ss=true->∀d o g,ak.pc d o g∉ss
 | [],_,d,o,g,h=>by cases h
 | .op _ _ _::l,b,d,o,g,h=>by
  rcases abd.1 h with h | h
  ·cases h
  ·exact Ej (ss:=l) b d o g h
 | .frz _::l,b,d,o,g,h=>by cases b
 | .pc _ _ _::l,b,d,o,g,h=>by cases b
theorem Jg {A:cJ}{b:Array Oper}{is:List Nat}{ss:List ak}(e:fp P A b is=some ss) (f:G5 ss=true):∀s∈ss,∃d o g,s=.op d o g/\kO o=false:=by
 intro s c;rcases wQ e s c with h | ⟨d,o,rfl,_⟩
 ·exact h
 ·exact o5 c (Ej f _ _ _)
theorem zj {K:TK}:∀(ss:List ak),(∀s∈ss,∃d o g,s=ak.op d o g/\kO o=false)->∀{F:aA}{L:Loc}{ρ:Env}{M:TL}{τ:aG},TS G F L ρ M τ->dL P PS true ss M τ K->aW P ss F L ρ (Both G K)
 | [],_,F,L,ρ,M,τ,e,h=>⟨M,τ,e,h⟩
 | s::ss,u,F,L,ρ,M,τ,e,h=>by
  obtain⟨d,o,g,rfl,z⟩:=u s (by simp);have f:∀s∈ss,∃d o g,s=ak.op d o g/\kO o=false:=fun s y=>u s (by simp[y]);have c:∀{ρ:Env}{τ:aG},TS G F L ρ M τ->bX P o d M τ (fun M' m=>dL P PS true ss M' m K)->evalOp P o d F L ρ (fun F' L' ρ'=>aW P ss F' L' ρ' (Both G K)):=by
   intro ρ τ e h;have:=K7 z e h;exact zi this fun F' L' ρ' ⟨M',m,h1,h2⟩=>zj ss f h1 h2
  cases g with
  | none =>
   simp only[fC,stepT] at h;simp only[aW];exact c e h
  | some p =>
   obtain⟨s,l⟩:=p;simp only[fC,stepT] at h;simp only[aW];split at h
   ·rename_i b hb;have k:ρ s=.v (.bool b):=jq (x:=.t s) e.env hb;simp only[k];have j:∀n,b=n->TS G F L (Fr.put (some s) (.v (.bool n)) ρ) M (bH (some s) (.bool n) τ):=fun n _=>e.put gI (some s);have r:∀{ρ:Env}{τ:aG},TS G F L ρ M τ->TS G F L (Fr.put d (.v undef) ρ) M (bH d .und τ):=fun e=>e.put lF d;cases b<;>simp only[Ap] at h ⊢<;>cases l<;>simp only[] at h ⊢
    ·exact c (j _ rfl) h
    ·exact zj ss f (r (j _ rfl)) h
    ·exact zj ss f (r (j _ rfl)) h
    ·exact c (j _ rfl) h
   ·rename_i hb;have q:=e.env s;rw[hb] at q;simp only[aN,Rel] at q;obtain⟨v,k,rfl⟩:=q;simp only[k,undef];exact zj ss f (e.put lF d) h
   ·exact h.elim
theorem vW:∀{ss:List ak},Br ss M=true->∀s∈ss,∀k,yB s=some k->M.get k=none
 | [],_,s,b,_,_=>by cases b
 | x::l,h,s,b,k,e=>by
  unfold Br at h;rcases abd.1 b with rfl | b
  ·rw[e] at h;simp only[] at h;cases c:M.get k with
   | none=>rfl
   | some o=>rw[c] at h;cases h
  ·split at h
   ·exact vW h s b k e
   ·split at h
    ·exact vW h s b k e
    ·cases h
theorem pR {K:TK}{fb:List Nat}:∀(ss:List ak),(∀s∈ss,(∃d o g,s=ak.op d o g/\kO o=false)\/∃d o,s=ak.pc d o none/\FM o=true)->∀{F:aA}{L:Loc}{ρ:Env}{M:TL}{τ:aG},TS G F L ρ M τ->kM P PS fb ss M τ K->bq P (Aq G PS) fb ss F L ρ (Both G K)
 | [],_,F,L,ρ,M,τ,e,h=>⟨M,τ,e,h⟩
 | s::ss,hc,F,L,ρ,M,τ,e,h=>by
  have k:∀s∈ss,(∃d o g,s=ak.op d o g/\kO o=false)\/∃d o,s=ak.pc d o none/\FM o=true:=fun s hs=>hc s (by simp[hs]);rcases hc s (by simp) with⟨d,o,g,rfl,z⟩ | ⟨d,o,rfl,z⟩
  case inr =>
   cases o<;>simp only[FM,abl] at z
   ·rename_i f l;simp only[j5,Bs,FZ,gH,fP,fJ] at h;simp only[bq,tj];split at h
    case h_1 =>
     rename_i st j;refine(wO e (eF e.env l) (show PS=⟨PS.ps,PS.hb,some st⟩ by rw[<-j]) h).imp fun F' L' v _ _ _ _ _ h=>?_;obtain⟨M',m,c,h1,h2,h3⟩:=h;exact pR ss k (h1.put h2 d) h3
    rename_i j;refine(y9 e (eF e.env l) h j).imp fun F' L' v _ _ _ _ _ h=>?_;obtain⟨M',m,c,h1,h2,h3⟩:=h;exact pR ss k (h1.put h2 d) h3
   ·rename_i fx l;simp only[j5,Bs,FZ] at h;split at h
    case h_2=>exact h.elim
    rename_i f fi ca hx;simp only[gH,fP,fJ] at h;obtain⟨ac,al,e1,h1,h2⟩:=vQ e.env hx;simp only[bq,tj,e1];split at h
    case h_1 =>
     rename_i st j;refine(wO e (jM e.env h1 h2 l) (show PS=⟨PS.ps,PS.hb,some st⟩ by rw[<-j]) h).imp fun F' L' v _ _ _ _ _ h=>?_;obtain⟨M',m,c,h1,h2,h3⟩:=h;exact pR ss k (h1.put h2 d) h3
    rename_i j;refine(y9 e (jM e.env h1 h2 l) h j).imp fun F' L' v _ _ _ _ _ h=>?_;obtain⟨M',m,c,h1,h2,h3⟩:=h;exact pR ss k (h1.put h2 d) h3
  have n:∀{ρ:Env}{τ:aG},TS G F L ρ M τ->bX P o d M τ (fun M' m=>kM P PS fb ss M' m K)->evalOp P o d F L ρ (fun F' L' ρ'=>bq P (Aq G PS) fb ss F' L' ρ' (Both G K)):=by
   intro ρ τ e h;have:=K7 z e h;exact zi this fun F' L' ρ' ⟨M',m,h1,h2⟩=>pR ss k h1 h2
  cases g with
  | none =>
   simp only[j5,Bs,stepT] at h;exact⟨o,rfl,n e h⟩
  | some p =>
   obtain⟨s,u⟩:=p;simp only[j5,Bs,stepT] at h;simp only[bq,res];have hu:∀{ρ:Env}{τ:aG},TS G F L ρ M τ->TS G F L (Fr.put d (.v undef) ρ) M (bH d .und τ):=fun e=>e.put lF d;have skip:∀{ρ:Env}{τ:aG},TS G F L ρ M τ->kM P PS fb ss M (bH d .und τ) K->evalOp P iL d F L ρ (fun F' L' ρ'=>bq P (Aq G PS) fb ss F' L' ρ' (Both G K)):=by
    intro ρ τ e h;simp only[iL,evalOp,aM,ev];exact pR ss k (hu e) h
   split at h
   ·rename_i b hb;have r:ρ s=.v (.bool b):=jq (x:=.t s) e.env hb;have q:TS G F L ρ M (bH (some s) (.bool b) τ):=by
     have:=e.put (gI (b:=b)) (some s)
     rwa [Fr.lg r] at this
    simp only[r];cases b<;>simp only[Ap] at h ⊢<;>cases u<;>simp only[reduceCtorEq,↓reduceIte,aa1,exists_eq_left'] at h ⊢
    ·exact n q h
    ·exact skip q h
    ·exact skip q h
    ·exact n q h
   ·rename_i hb;have y:=e.env s;rw[hb] at y;simp only[aN,Rel] at y;obtain⟨v,r,rfl⟩:=y;simp only[r,undef,aa1,exists_eq_left'];exact skip e h
   ·exact h.elim
theorem Ek:∀(d:List Nat) (b:List C) (τ:aG) (j:Nat),qL d b τ j=τ j\/∃(i:Nat) (c:C),d[i]?=some j/\b[i]?=some c/\qL d b τ j=c
 | [],b,τ,j=>.inl rfl
 | k::d,[],τ,j=>.inl rfl
 | k::d,v::b,τ,j=>by
  simp only[qL,CD];split
  ·rename_i h;subst h;exact .inr ⟨0,v,by simp,by simp,rfl⟩
  ·rcases Ek d b τ j with h | ⟨i,c,h1,h2,h3⟩
   ·exact .inl h
   ·exact .inr ⟨i+1,c,by simpa using h1,by simpa using h2,h3⟩
theorem BD {M1:TL}:∀{d:List Nat}{b:List C}{τ:aG},nS M M1 d b τ->∀{i j:Nat}{c:C},d[i]?=some j->b[i]?=some c->OE M M1 (τ j) c
 | [],b,τ,h,i,j,c,e,_=>by simp at e
 | k::d,[],τ,h,i,j,c,_,e=>by simp at e
 | k::d,v::b,τ,h,i,j,c,f,l=>by
  simp only[nS] at h;cases i with
  | zero=>simp at f l;subst f l;exact h.1
  | succ i=>exact BD h.2 (by simpa using f) (by simpa using l)
theorem BF {M1:TL}(m:TS G F L ρ M τ):∀{f:List Nat}{b:List C},b.length=f.length->nS M M1 f b τ->gives M M1 M1->vE b
 | [],[],_,_,_=>by simp only[vE]
 | [],v::b,c,_,_=>by simp at c
 | k::f,[],c,_,_=>by simp at c
 | k::f,v::b,c,h,n=>by
  simp only[nS] at h;simp only[vE];refine⟨?_,BF m (by simpa using c) h.2 n⟩;have j:=mS (m.env k);rcases h.1 with e | ⟨e,_⟩ | ⟨l,d⟩ | ⟨l,p,t,sz,d,_⟩ | ⟨els,l,d⟩
  ·rw[e];simp only[Wf]
  ·rw[e] at j;have:=j.wf
   revert this
   cases v<;>simp[C.cel,Wf]
  ·rw[d];simp[Wf,yI]
  ·rw[d];simp only[Wf]
  ·rw[l] at j;have:=(vR j).wf;rw[d];exact this
theorem Ti {M:TL}(c:bV F L M):∀{l:TL},(∀k o,l.get k=some o->M.get k=some o)->∀k o,l.get k=some o->o.Wf:=by
 intro l h k o e;rcases eL (c k) with⟨b,_⟩ | ⟨q,p,b,f,d⟩
 ·rw[h k o e] at b;cases b
 ·rw[h k o e] at b;injection b with b
  subst b;exact d.wf
theorem Jh {L':Loc}{F':aA}(f:F.le F') (p:∀k g t cs,L.get k=some (.box g t cs)->∃cs',L'.get k=some (.box g t cs')) :
  (∀c v,C.leaf c=true->Rel F L c v->Rel F' L' (qJ c) v)/\(∀c sv,C.leaf c=true->aN F L c sv->aN F' L' (qJ c) sv):=by
 have hb:∀{k:Nat},(∃g t cs,L.get k=some (.box g t cs))->∀o,L.get k=some o->∃o',L'.get k=some o'/\Own.like o o':=by
  intro k l o m;obtain⟨g,t,cs,l⟩:=l;rw[l] at m;injection m with m
  subst m;obtain⟨cs',h⟩:=p k g t cs l;exact⟨_,h,rfl,rfl⟩
 constructor
 ·intro c v n h;cases c<;>simp only[C.leaf,abl] at n<;>simp only[qJ]
  case rw=>simp only[Rel]
  case elr=>simp only[Rel]
  case own k off =>
   have d:=h;simp only[Rel] at d;obtain⟨g,t,cs,h1,_⟩:=d;refine bP f (fun j e=>?_) rfl h;rcases e with⟨off,e⟩ | e | e
   ·injection e with e e2;subst e;exact hb ⟨g,t,cs,h1⟩
   ·cases e
   ·cases e
  case mpr k =>
   have d:=h;simp only[Rel] at d;obtain⟨g,cs,h1,_⟩:=d;refine bP f (fun j e=>?_) rfl h;rcases e with⟨off,e⟩ | e | e
   ·cases e
   ·cases e
   ·injection e with e;subst e;exact hb ⟨g,0,cs,h1⟩
  all_goals
   exact bP f (fun q e=>by rcases e with⟨off,e⟩ | e | e<;>cases e) rfl h
 ·intro c sv n h;cases c<;>simp only[C.leaf,abl] at n<;>simp only[qJ]
  case rw=>trivial
  case elr=>trivial
  case own k off =>
   have d:=h;simp only[aN] at d;refine dX f (fun j e=>?_) rfl h;rcases e with⟨off,e⟩ | ⟨off,e⟩ | e | ⟨a,b,e⟩ | e<;>first | cases e;done | skip
   injection e with e e2
   subst e;exact hb d.2
  case ownv k off =>
   have d:=h;simp only[aN,Rel] at d;obtain⟨v,_,g,t,cs,h1,_⟩:=d;refine dX f (fun j e=>?_) rfl h;rcases e with⟨off,e⟩ | ⟨off,e⟩ | e | ⟨a,b,e⟩ | e<;>first | cases e;done | skip
   injection e with e e2
   subst e;exact hb ⟨g,t,cs,h1⟩
  case mpr k =>
   have d:=h;simp only[aN,Rel] at d;obtain⟨v,_,g,cs,h1,_⟩:=d;refine dX f (fun j e=>?_) rfl h;rcases e with⟨off,e⟩ | ⟨off,e⟩ | e | ⟨a,b,e⟩ | e<;>first | cases e;done | skip
   injection e with e
   subst e;exact hb ⟨g,0,cs,h1⟩
  all_goals
   exact dX f (fun q e=>by rcases e with⟨off,e⟩ | ⟨off,e⟩ | e | ⟨a,b,e⟩ | e<;>cases e) rfl h
def K9 (L:Loc) (c:C) (v:Value):SV:=match c with | .own k off=>.own k off | .ownv _ _=>.v v | _=>.v v
theorem rS {c:C}{v:Value}(h:Rel F L c v):aN F L c (K9 L c v)/\conc L (K9 L c v)=v/\(∀k off,K9 L c v=.own k off->∃g t cs,L.get k=some (.box g t cs))/\(∀f j,K9 L c v≠.el f j):=by
 cases c
 case own k off =>
  simp only[Rel] at h;obtain⟨g,t,cs,h,rfl⟩:=h;refine⟨⟨rfl,g,t,cs,h⟩,by simp only[K9,conc,h],fun l d e=>?_,fun f j e=>(by cases e)⟩;injection e with e1 e2
  subst e1;exact⟨g,t,cs,h⟩
 case pt es off =>
  simp only[Rel] at h;obtain⟨b,o,m,rfl,h2,h3⟩:=h;exact⟨⟨b,o,0,m,.inl ⟨rfl,rfl⟩,h2,h3⟩,rfl,fun l d e=>(by cases e),fun f j e=>(by cases e)⟩
 case ownv=>exact h.elim
 case elr=>exact h.elim
 case any=>exact⟨trivial,rfl,fun l d e=>(by cases e),fun f j e=>(by cases e)⟩
 all_goals
  exact⟨⟨v,rfl,h⟩,rfl,fun l d e=>(by cases e),fun f j e=>(by cases e)⟩
theorem Lb {F0:aA}{L0:Loc}{d:Env}{b:aG}{a0 a1:Act}{asg:List Nat}{p:List Nat}{q:List C}{L1:Loc}{F1:aA}(f:aC L0 d a0) (s:∀j,aN F0 L0 (b j) (d j)) (hF:F0.le F1)
  (hb:∀k g t cs,L0.get k=some (.box g t cs)->∃cs',L1.get k=some (.box g t cs')) (u:∀j,j∉asg->a1.tmps.getD j undef=a0.tmps.getD j undef)
  (z:∀(i j:Nat) c,p[i]?=some j->q[i]?=some c->Rel F1 L1 c (a1.tmps.getD j undef)) :
  ∃n,aC L1 n a1/\∀j,aN F1 L1 (qL p q (uy asg b) j) (n j):=by
 have key:∀j,∃sv,aN F1 L1 (qL p q (uy asg b) j) sv/\conc L1 sv=a1.tmps.getD j undef/\(∀k off,sv=.own k off->∃g t cs,L1.get k=some (.box g t cs))/\(∀m i,sv=.el m i->m≠none):=by
  intro j;rcases Ek p q (uy asg b) j with h | ⟨i,c,h1,h2,h3⟩
  ·rw[h];simp only[uy];split
   ·exact⟨.v (a1.tmps.getD j undef),trivial,rfl,fun _ _ e=>(by cases e),fun _ _ e=>(by cases e)⟩
   ·rename_i y;have hj:j∉asg:=fun h=>by rw[di.2 h] at y;cases y
    obtain⟨u1,u2⟩:=Jh hF hb;refine⟨d j,aN.mp u1 u2 3 (s j),?_,?_,f.el j⟩
    ·rw[u j hj,f.eq j];cases e:d j with
     | v x=>rfl
     | el x i=>rfl
     | own k off =>
      obtain⟨g,t,cs,r⟩:=f.own j k off e;obtain⟨cs',l⟩:=hb _ _ _ _ r;simp only[conc,r,l]
    ·intro k off e;obtain⟨g,t,cs,r⟩:=f.own j k off e;obtain⟨cs',l⟩:=hb _ _ _ _ r;exact⟨g,t,cs',l⟩
  ·rw[h3];obtain⟨s1,s2,s3,s4⟩:=rS (z i j c h1 h2);exact⟨_,s1,s2,s3,fun m i e=>o5 e (s4 m i)⟩
 refine⟨fun j=>(key j).choose,⟨fun t=>?_,fun t k off e=>?_,fun t m j e=>?_⟩,fun j=>(key j).choose_spec.1⟩
 ·exact(key t).choose_spec.2.1.symm
 ·exact(key t).choose_spec.2.2.1 k off e
 ·exact(key t).choose_spec.2.2.2 m j e
theorem BG {n:Nat}{F:aA}{L:Loc}{w:World}{a:Act}{asg:List Nat}{K K':dQ}{a':Act}{w':World}(h:eZ n F L w a asg K a' w') (b:∀{F' L' ρ'},K F' L' ρ'->K' F' L' ρ'):eZ n F L w a asg K' a' w':=by
 obtain⟨F',L',ρ',h1,h2,h3,h4,h5,h6,c⟩:=h;exact⟨F',L',ρ',h1,h2,h3,h4,h5,h6,b c⟩
theorem AF {P:Program}{PS:oE}{G:Nat->Option (Nat×TypeId)}{a:Act}{w:World}{b:List ak}{K:TK}:∀(ks:List Nat) {F:aA}{L:Loc}{ρ:Env}{M:TL}{τ:aG},uK G PS ks->St F L w->aC L ρ a->TS G F L ρ M τ->dL P PS false (ks.map ak.frz++b) M τ K ->
  ∃F' L' ρ' M' c,St F' L' w/\aC L' ρ' a/\Step F L w F' L' w/\TS G F' L' ρ' M' c/\dL P PS false b M' c K:=by
 intro ks
 induction ks with
 | nil=>intro F L ρ M τ _ l he e h;exact⟨F,L,ρ,M,τ,l,he,Step.refl _ _ _,e,h⟩
 | cons k ks d =>
  intro F L ρ M τ n l he e h;simp only[abe,abj,fC] at h;obtain⟨F1,L1,u,M1,r,g1,x,q,p,h⟩:=Ef l he e (n k (by simp)) h;obtain⟨F2,L2,f,M2,m,k1,s,y,v,t⟩:=d (fun j z=>n j (by simp[z])) g1 x p h;exact⟨F2,L2,f,M2,m,k1,s,q.trans y,v,t⟩
theorem Ji:∀{ks:List Nat}{ss:List ak},∀k∈ks,k∈gA (FQ ks (.regD ss))
 | [],_,k,h=>by cases h
 | j::l,ss,k,h=>by
  have:∀(l:List Nat),∀k∈l,k∈dM (l.map ak.frz):=by
   intro l
   induction l with
   | nil=>intro k h;cases h
   | cons j l b =>
    intro k h;simp only[abe,dM,abd] at h ⊢;exact h.imp id (b k)
  exact aa9.2 (.inl (this (j::l) k h))
theorem El {P:Program}{PS:oE}{G:Nat->Option (Nat×TypeId)}{ρ:Env}{a:Act}{w:World}{ss:List ak}{E:Nat->TK}{R N:TK}{F:aA}{L:Loc}{M:TL}{τ:aG}:∀(ks:List Nat),uK G PS (gA (FQ ks (.regD ss)))->St F L w->aC L ρ a->TS G F L ρ M τ->evalTC P PS (FQ ks (.regD ss)) E R N M τ ->
  ∃F' L' ρ' M' b,St F' L' w/\aC L' ρ' a/\Step F L w F' L' w/\TS G F' L' ρ' M' b/\dL P PS true ss M' b N
 | [],_,f,he,d,h=>⟨F,L,ρ,M,τ,f,he,Step.refl _ _ _,d,h⟩
 | k::l,n,f,he,d,h=>by
  have m:dL P PS false ((k::l).map ak.frz++[]) M τ (fun M τ=>dL P PS true ss M τ N):=by rw[abG];exact h
  obtain⟨F1,L1,e,M1,c,h1,h2,h3,h4,h5⟩:=AF (k::l) (fun j p=>n j (Ji j p)) f he d m;exact⟨F1,L1,e,M1,c,h1,h2,h3,h4,h5⟩
theorem vX {M:TL}:∀{ks:List Nat},tu M ks=true->∀k∈ks,∀o,M.get k=some o->CG o=true
 | [],_,k,h,_,_=>by cases h
 | j::ks,c,k,h,o,e=>by
  simp only[tu] at c;split at c
  ·cases c
  ·cases c
  ·rename_i d b;rcases abd.1 h with rfl | h
   ·cases o with
    | box t cs=>exact o5 e (d _ _)
    | map es=>exact o5 e (b _)
    | row=>rfl
   ·exact vX c k h o e
theorem Jj {M:TL}{ks:List Nat}(b:tu M ks=true) (k:Nat) (h:k∈ks) (t:TypeId) (cs:List C):M.get k≠some (.box t cs):=fun e=>by cases vX b k h _ e
theorem Gf {M:TL}{ks:List Nat}(b:tu M ks=true) (k:Nat) (h:k∈ks) (es:List (C×C)):M.get k≠some (.map es):=fun e=>by cases vX b k h _ e
theorem f7 {A:cJ}:∀(c:Code) {sc:ax},low P A c=some sc->∀{G:Nat->Option (Nat×TypeId)}{E:Nat->TK}{R N:TK}{F:aA}{L:Loc}{ρ:Env}{M:TL}{τ:aG}{a:Act}{w:World},uK G PS (gA sc)->St F L w->aC L ρ a->TS G F L ρ M τ->a.tmps.size=A.n ->
  evalTC P PS sc E R N M τ->c.wp P (QQ A.n F L w a (ef c) (Aq G PS) (fun j=>Both G (E j)) (Both G R) (Both G N)) a w:=by
 intro c
 induction c with
 | skip =>
  intro sc b G E R N F L ρ M τ a w m hs he z hn d;simp only[low,aa1] at b;subst b;exact wp_skip ⟨F,L,ρ,hs,he,hn,rfl,Step.refl _ _ _,fun _ _=>rfl,M,τ,z,d⟩
 | label l =>
  intro sc b G E R N F L ρ M τ a w m hs he z hn d;simp only[low,aa1] at b;subst b;exact wp_label ⟨F,L,ρ,hs,he,hn,rfl,Step.refl _ _ _,fun _ _=>rfl,M,τ,z,d⟩
 | exit id =>
  intro sc b G E R N F L ρ M τ a w m hs he z hn d;simp only[low,aa1] at b;subst b;exact wp_exit ⟨F,L,ρ,hs,he,hn,rfl,Step.refl _ _ _,fun _ _=>rfl,M,τ,z,d⟩
 | ret =>
  intro sc b G E R N F L ρ M τ a w m hs he z hn d;simp only[low,aa1] at b;subst b;exact wp_ret ⟨F,L,ρ,hs,he,hn,rfl,Step.refl _ _ _,fun _ _=>rfl,M,τ,z,d⟩
 | region r ek ce =>
  intro sc b G E R N F L ρ M τ a w m hs he z hn d;cases ce with
  | false =>
   simp only[low] at b;split at b
   case h_2=>cases b
   rename_i ss dx;injection b with b;subst b
   simp only[lp,mO,lq,mP,lu,j6,lz,lA,mQ] at d;exact wp_region (zh _ dx m hs he z hn d (fun a' w' h=>h) fun v ch a' w' hc h=>⟨v,hc,h⟩)
  | true =>
   simp only[low] at b;split at b
   case h_2=>cases b
   rename_i is cl ss h1 h2;have h4:DR A.ord r=is:=by simp only[DR,h1]
   rw[h4] at h2;split at b
   case h_2 =>
    split at b
    case h_2=>cases b
    rename_i h3;injection b with b;subst b
    rw[D7] at d;split at d
    case h_2=>exact d.elim
    rename_i cz;exact D5 h2 h3 hs he hn (fun s hs k e=>cu z.tl (vW cz s hs k e)) (pR ss (wQ h2) z d) (fun a' w' h=>h) fun v ch a' w' F' L' gc g1 g2 g3 g4 g5 g6=>⟨v,gc,F',L',g1,g2,g3,g4,g5,g6⟩
   rename_i h0;split at b
   case h_2=>cases b
   rename_i h3;injection b with b;subst b
   obtain⟨F1,L1,ab,M1,am,av,aw,ae,ac,d⟩:=El _ m hs he z d;exact yx h2 h3 av aw hn (zj ss (Jg h2 h0) ac d) fun a' w' h=>eZ.after (asg1:=[]) ae rfl (fun _ _=>rfl) h (fun _ h=>o5 h List.not_mem_nil) (fun _ h=>h)
 | seq x y bc bi =>
  intro sc b G E R N F L ρ M τ a w m hs he z hn d;simp only[low] at b;split at b
  case h_2=>cases b
  rename_i h1 h2;injection b with b;subst b
  simp only[lp,mO,lq,mP,lu,j6,lz,lA,mQ] at d;refine wp_seq (wp_mono (bc h1 m.left hs he z hn d) ?_);intro e a1 w1 u;cases e with
  | normal =>
   obtain⟨F1,L1,ab,g1,g2,g3,g4,g5,g6,M1,am,g7,g8⟩:=u;refine wp_mono (bi h2 m.right g1 g2 g7 g3 g8) ?_;intro e2 a2 w2 bt;cases e2<;>first
    | exact eZ.after g5 g4 g6 bt (fun j h=>aa9.2 (.inl h)) (fun j h=>aa9.2 (.inr h))
    | exact(let⟨v,e,h⟩:=bt;⟨v,e,sL.after g5 g4 g6 h (fun j h=>aa9.2 (.inl h)) (fun j h=>aa9.2 (.inr h)) fun _ _ h=>h⟩)
    | exact bt
  | exit id=>exact u.mono fun j h=>aa9.2 (.inl h)
  | ret=>exact u.mono fun j h=>aa9.2 (.inl h)
  | goto l=>exact u
  | panic c=>exact(let⟨v,e,h⟩:=u;⟨v,e,h.mono fun j h=>aa9.2 (.inl h)⟩)
  | outgrown=>exact u
 | cond c x y bc bi =>
  intro sc b G E R N F L ρ M τ a w m hs he z hn d;simp only[low] at b;split at b
  case h_2=>cases b
  rename_i h0 h1 h2;injection b with b;subst b
  simp only[lp,mO,lq,mP,lu,j6,lz,lA,mQ] at d;split at d
  case h_2=>exact d.elim
  rename_i t db;have hc:a.eval c=.bool t:=by rw[aI h0 he,dh (jq z.env db)]
  refine wp_cond hc ?_;cases t
  ·simp only[Ap] at d;refine wp_mono (bi h2 m.right hs he z hn d) ?_;intro e a1 w1 u;cases e<;>first
    | exact u.mono fun j h=>aa9.2 (.inr h)
    | exact(let⟨v,e,h⟩:=u;⟨v,e,h.mono fun j h=>aa9.2 (.inr h)⟩)
    | exact u
  ·simp only[Ap] at d;refine wp_mono (bc h1 m.left hs he z hn d) ?_;intro e a1 w1 u;cases e<;>first
    | exact u.mono fun j h=>aa9.2 (.inl h)
    | exact(let⟨v,e,h⟩:=u;⟨v,e,h.mono fun j h=>aa9.2 (.inl h)⟩)
    | exact u
 | block id x ih =>
  intro sc b G E R N F L ρ M τ a w m hs he z hn d;simp only[low] at b;split at b
  case h_2=>cases b
  rename_i h1;injection b with b;subst b
  simp only[lp,mO,lq,mP,lu,j6,lz,lA,mQ] at d;refine wp_block (wp_mono (ih h1 m hs he z hn d) ?_);intro e a1 w1 u;cases e with
  | exit j =>
   simp only[Exit.inBlock];simp only[QQ] at u
   by_cases hj:j=id
   ·subst hj;have hb:Nat.beq j j=true:=by simp
    rw[hb] at u;rw[eu rfl];exact u
   ·have hb:Nat.beq j id=false:=by
     cases h:Nat.beq j id with
     | true=>exact o5 (aa5 h) hj
     | false=>rfl
    rw[hb] at u;rw[fo hj];exact u
  | normal=>exact u
  | ret=>exact u
  | goto l=>exact u
  | panic c=>exact u
  | outgrown=>exact u
 | loop x ih =>
  intro sc b G E R N F L ρ M τ a w m hs he z hn d;simp only[low] at b;split at b
  case h_2=>cases b
  rename_i sx h1;injection b with b;subst b
  simp only[lp,mO,lq,mP,lu,j6,lz,lA,mQ] at d;split at d
  case h_2=>exact d.elim
  rename_i cy;obtain⟨σ,x0,Inv,ls,lv,Lf,μ,i0,i1,i2,i3,i4,i5⟩:=d
  -- the boxes that there are,with their addresses
  let G1:Nat->Option (Nat×TypeId):=fun k=>match L.get k with | some (.box g t _)=>some (g,t) | _=>none
  have co:∀k g t cs,L.get k=some (.box g t cs)->G1 k=some (g,t):=fun k g t cs e=>by simp only[G1,e]
  have bl:Kp G1 L:=by
   intro k g t e;simp only[G1] at e;split at e
   ·rename_i g' t' cs h;injection e with e
    injection e with e1 e2
    subst e1 e2;exact⟨cs,h⟩
   ·cases e
  have cm:uK G1 PS (gA sx):=by
   intro k hk bp;exfalso;simp only[G1] at bp;split at bp
   ·rename_i g t cs e;have hr:=z.tl k;rw[e] at hr;cases e2:M.get k with
    | none=>rw[e2] at hr;exact hr
    | some o =>
     rw[e2] at hr;cases o with
     | row=>exact hr
     | box t' cs'=>exact Jj cy k hk t' cs' e2
     | map es=>exact Gf cy k hk es e2
   ·exact bp rfl
  have hG:∀{L':Loc},Kp G1 L'->Kp G L':=fun hk k g t e=>let⟨cs,h⟩:=z.kp k g t e;hk k g t (co k g t cs h);have cY:∀{L':Loc},Kp G1 L'->∀k g t cs,L.get k=some (.box g t cs)->∃cs',L'.get k=some (.box g t cs'):=fun hk k g t cs h=>hk k g t (co k g t cs h);have bm:∀{K:TK}{F' L' ρ'},Both G1 K F' L' ρ'->Both G K F' L' ρ':=fun⟨M',dy,h1,h2⟩=>⟨M',dy,⟨h1.tl,h1.env,hG h1.kp,h1.glob⟩,h2⟩;have dd:∀{F':aA}{L':Loc}{M':TL},bV F' L' M'->(∀k o,M'.get k=some o->o.Wf):=fun h k o e=>Ti h (fun _ _ e=>e) k o e
  -- a round's end,or what is ahead of the first round,is a head
  have az:∀(y:σ) (F1:aA) (L1:Loc) (ab:Env) (M1:TL) (am:aG) (a1:Act) (w1:World),F.le F1->St F1 L1 w1->aC L1 ab a1->TS G1 F1 L1 ab M1 am->(∀j,j∉ef x->a1.tmps.getD j undef=a.tmps.getD j undef) ->
    nS M1 (Lf y) ls (lv y) am->gives M1 (Lf y) (Lf y)->∃L2,St F1 L2 w1/\Step F1 L1 w1 F1 L2 w1/\bV F1 L2 (Lf y)/\Kp G1 L2/\vE (lv y) /\
     ∃be,aC L2 be a1/\∀j,aN F1 L2 (qL ls (lv y) (uy (ef x) τ) j) (be j):=by
   intro y F1 L1 ab M1 am a1 w1 aE av aw ac dv hh hg;obtain⟨g1,g2⟩:=ze av ac.tl hg;have bb:Kp G1 (uH L1 (Lf y)):=by
    intro k g t e;obtain⟨cs,ci⟩:=ac.kp k g t e;obtain⟨ej,cp⟩:=bl k g t e;refine⟨cs,?_⟩;rcases eL (z.tl k) with⟨c1,c2⟩ | ⟨q,p,c1,c2,hr⟩
    ·rw[cp] at c2;cases c2
    ·rw[cp] at c2;injection c2 with c2
     subst c2;cases q with
     | row=>exact hr.elim
     | box t' cs' =>
      obtain⟨o2,e2⟩:=mV (i3 y) c1 rfl;rw[lZ,e2];simp only[ci]
     | map es =>
      obtain⟨o2,e2⟩:=mV (i3 y) c1 rfl;rw[lZ,e2];simp only[ci]
   refine⟨uH L1 (Lf y),g1,g2,zb ac.tl hg,bb,BF ac (i4 y) hh hg,Lb he z.env aE (cY bb) dv ?_⟩;intro i j c e1 e2;have hr:=mS (ac.env j);have hv:a1.tmps.getD j undef=conc L1 (ab j):=aw.eq j;rw[hv];have cx:=BD hh e1 e2;rcases cx with e | ⟨e,hk⟩ | ⟨e,e'⟩ | ⟨e,k',t',de,e',q1,q2⟩ | ⟨els,e,e'⟩
   ·rw[e];simp only[Rel]
   ·have hc:(am j).cel=am j:=by
     rw[e];rw[e] at hr;cases c<;>first | rfl | (simp only[fZ,rL,abl] at hk;done)
    rw[hc] at hr;exact rR ac.tl (.inr (.inl ⟨e,hk⟩)) hr
   ·rw[e] at hr;exact rR ac.tl (.inr (.inr (.inl ⟨rfl,e'⟩))) hr
   ·rw[e] at hr;exact rR ac.tl (.inr (.inr (.inr (.inl ⟨rfl,k',t',de,e',q1,q2⟩)))) hr
   ·rw[e] at hr;exact rR ac.tl (.inr (.inr (.inr (.inr ⟨els,rfl,e'⟩)))) hr
  refine vG (fun n a1 w1=>∃(y:σ) (F1:aA) (L1:Loc),n=μ y/\F.le F1/\Inv y/\St F1 L1 w1/\a1.tmps.size=A.n/\a1.defers=a.defers/\Step F L w F1 L1 w1/\(∀j,j∉ef x->a1.tmps.getD j undef=a.tmps.getD j undef) /\
   bV F1 L1 (Lf y)/\Kp G1 L1/\vE (lv y)/\∃ab,aC L1 ab a1/\∀j,aN F1 L1 (qL ls (lv y) (uy (ef x) τ) j) (ab j)) ?_ ?_
  ·obtain⟨L2,k1,k2,k3,k4,k5,k6⟩:=az x0 F L ρ M τ a w (aA.le_refl F) hs he ⟨z.tl,z.env,bl,z.glob⟩ (fun _ _=>rfl) i1 i2;exact⟨_,x0,F,L2,rfl,aA.le_refl F,i0,k1,hn,rfl,k2,fun _ _=>rfl,k3,k4,k5,k6⟩
  ·rintro n a1 w1 ⟨y,F1,L1,rfl,aE,cf,av,du,bd,ae,ar,bj,bb,ds,ab,aw,bs⟩;refine wp_mono (ih h1 cm av aw (⟨bj,bs,bb,av.glob⟩:TS G1 F1 L1 ab (Lf y) (qL ls (lv y) (uy (ef x) τ))) du (i5 y cf ds (dd bj))) ?_;intro e a2 w2 u;cases e with
   | normal =>
    obtain⟨F2,L2,be,g1,g2,g3,g4,g5,g6,M2,dn,g7,y',k1,k2,k3,k4⟩:=u;have bo:∀j,j∉ef x->a2.tmps.getD j undef=a.tmps.getD j undef:=fun j hj=>by rw[g6 j hj,ar j hj]
    obtain⟨L3,q1,q2,q3,q4,q5,q6⟩:=az y' F2 L2 be M2 dn a2 w2 (aA.le_trans aE g5.le) g1 g2 g7 bo k2 k3;exact⟨μ y',k4,y',F2,L3,rfl,aA.le_trans aE g5.le,k1,q1,g3,g4.trans bd,(ae.trans g5).trans q2,bo,q3,q4,q5,q6⟩
   | exit j=>exact eZ.after ae bd ar (BG u bm) (fun j h=>h) (fun j h=>h)
   | ret=>exact eZ.after ae bd ar (BG u bm) (fun j h=>h) (fun j h=>h)
   | goto l=>exact u
   | panic c=>exact(let⟨v,e,h⟩:=u;⟨v,e,sL.after ae bd ar h (fun j h=>h) (fun j h=>h) fun F' L' h=>⟨hG h.1,h.2⟩⟩)
   | outgrown=>exact u
 | rangeFunc f ps x y bc bi=>intro sc b;simp only[low] at b;cases b
 | scope x ih =>
  intro sc b G E R N F L ρ M τ a w m hs he z hn d;simp only[low] at b;refine wp_scope_straight (wp_mono (ih b m hs he z hn d) ?_);intro e a1 w1 u;cases e<;>exact u
 | goto l=>intro sc b;simp only[low] at b;cases b
 | refuse ei=>intro sc b;simp only[low] at b;cases b
end
section
variable {P:Program}{G:Nat->Option (Nat×TypeId)}{F:aA}{L:Loc}{ρ:Env}{M:TL}{τ:aG}{a:Act}{w:World}
theorem rT (f:TS G F L ρ M τ):∀{rs:List RV}{K:List C->Prop},hU M τ rs K->nY L ρ rs (fun c=>∃cs,aB F L cs c/\K cs)
 | [],K,h=>⟨[],by simp only[aB],h⟩
 | (t,none)::l,K,h=>by
  simp only[hU] at h;simp only[nY];refine retV_imp (rT f h) ?_;rintro c ⟨cs,h1,h2⟩;exact⟨_,by simp only[aB];exact⟨_,_,rfl,mS (f.env t),h1⟩,h2⟩
 | (t,some (agg,n))::l,K,h=>by
  simp only[hU] at h;simp only[nY];split at h
  case h_2=>exact h.elim
  rename_i k off d;split at h
  case h_2=>exact h.elim
  rename_i ty cs q;split at h
  case h_2=>exact h.elim
  rename_i p;obtain⟨j,_⟩:=jx (x:=.t t) f.env d;have j:ρ t=.own k off:=j;obtain⟨g,ty,c,r,o,m⟩:=lM f.tl q;have e:=(o.drop off).take n;simp only[j,r,py m.2.2 (jF (show((c.drop off).take n).length=n by rw[e.len];exact cn p))];refine retV_imp (rT f h) ?_;rintro us ⟨ds,h1,h2⟩;refine⟨_,?_,h2⟩;simp only[aB];have:=mS (fq (agg:=agg) e);exact⟨_,_,rfl,this,h1⟩
where
 retV_imp {L:Loc}{ρ:Env}:∀{rs:List RV}{K K':List Value->Prop},nY L ρ rs K->(∀c,K c->K' c)->nY L ρ rs K'
 | [],K,K',h,d=>d _ h
 | (t,none)::l,K,K',h,d=>by
  simp only[nY] at h ⊢;exact retV_imp h fun c=>d _
 | (t,some (agg,n))::l,K,K',h,d=>by
  simp only[nY] at h ⊢;generalize ρ t=z at h ⊢;split at h
  case h_2=>exact h.elim
  rename_i k off;generalize L.get k=y at h ⊢;split at h
  case h_2=>exact h.elim
  rename_i ty cs;generalize jA ty ((cs.drop off).take n) n=b at h ⊢;cases b
  ·exact h.elim
  ·exact retV_imp h fun c=>d _
theorem Hl {cs:List C}{b:List Value}(h:aB F L cs b):Rel F L (gZ cs) (gD b):=by
 match cs,b,h with
 | [],b,h =>
  simp only[aB] at h;subst h;simp only[gZ,gD,Rel];exact⟨[],rfl,by simp only[aB]⟩
 | [c],b,h =>
  simp only[aB] at h;obtain⟨v,d,rfl,h1,rfl⟩:=h;exact h1
 | c1::j::cs,b,h =>
  have e:=h;simp only[aB] at e;obtain⟨v,d,rfl,h1,v2,f,rfl,h2⟩:=e;simp only[gZ,gD,Rel];exact⟨_,rfl,h⟩
theorem oK:∀(l:List C) (k j:Nat),ku k l j=if k<=j then(l[j-k]?).getD .und else .und
 | [],k,j=>by simp[ku]
 | v::l,k,j=>by
  simp only[ku,CD]
  by_cases h:j=k
  ·subst h;simp
  ·rw[fo h,oK l (k+1) j]
   by_cases h1:k<=j
   ·rw[eu (by omega),eu h1,show j-k=(j-(k+1))+1 by omega,abv]
   ·rw[fo (by omega),fo h1]
theorem Em {c:C}{v:Value}(h:Rel F L c v):Rel F L c.aaB v:=by
 cases c<;>first
  | exact h
  | exact uE (c:=.nils) h
  | exact vR h
  | (simp only[Rel] at h
     obtain⟨b,h1,h2⟩:=h;simp only[C.aaB,Rel]
     first
      | exact⟨b,h1,lD h2⟩
      | exact⟨b,h1,h2.map fun c _ v=>jr⟩)
theorem tE {F':aA}{L':Loc}{w':World}{Li:List Own}(j:St F' L' w') (c:Step F (inp Li) w F' L' w') (hb:∀(i:Nat) g t cs,Li[i]?=some (.box g t cs)->∃cs',L'.get (1000+i)=some (.box g t cs')) :
  ∃Lo,St F' (inp Lo) w'/\Step F (inp Li) w F' (inp Lo) w'/\Lo.length=Li.length/\∀(i:Nat) g t cs,Li[i]?=some (.box g t cs)->∃cs',Lo[i]?=some (.box g t cs'):=by
 let Lo:List Own:=Li.mapIdx fun i o=>match o with
  | .box _ _ _=>match L'.get (1000+i) with | some p=>p | none=>.row (.slice none 0 0) 0 0 0 []
  | .row _ t sz _ _=>.row (.slice none 0 0) t sz 0 []
 have get:∀k p,(inp Lo).get k=some p->L'.get k=some p\/∃t sz,p=.row (.slice none 0 0) t sz 0 []:=by
  intro k p e;rw[aJ] at e;split at e
  case isFalse=>cases e
  rename_i x;simp only[Lo,List.getElem?_mapIdx] at e;cases h:Li[k-1000]? with
  | none=>rw[h] at e;cases e
  | some o =>
   rw[h] at e;simp only[abI,aa1] at e;cases o with
   | box g t cs =>
    simp only at e;rw[show 1000+(k-1000)=k by omega] at e;cases h2:L'.get k with
    | none=>rw[h2] at e;exact .inr ⟨0,0,e.symm⟩
    | some q=>rw[h2] at e;exact .inl (by rw[<-e])
   | row v t sz n xs=>exact .inr ⟨t,sz,e.symm⟩
 refine⟨Lo,⟨j.frz,fun k o e=>?_,fun k o g e d=>?_,fun k l o o' g e s d f=>?_,j.glob⟩,⟨c.le,c.os,c.tape,c.output,c.size,c.same,c.frz,fun b u=>c.own b ?_⟩,by simp[Lo],fun i g t cs hi=>?_⟩
 ·rcases get k o e with h | ⟨t,sz,rfl⟩
  ·exact j.own k o h
  ·exact World.ownsRow_nil w' 0 t sz
 ·rcases get k o e with h | ⟨t,sz,rfl⟩
  ·exact j.off k o g h d
  ·cases d
 ·rcases get k o e with h | ⟨t,sz,rfl⟩<;>rcases get l o' s with m | ⟨y,r,rfl⟩
  ·exact j.sep k l o o' g h m d f
  ·cases f
  ·cases d
  ·cases d
 ·obtain⟨k,o,e,d⟩:=u;rcases get k o e with h | ⟨t,sz,rfl⟩
  ·exact⟨k,o,h,d⟩
  ·cases d
 ·obtain⟨cs',h⟩:=hb i g t cs hi;exact⟨cs',by simp only[Lo,List.getElem?_mapIdx,hi,abI,h]⟩
theorem BH {n:Nat}{asg:List Nat}{fn:Func}{rs:List RV}{Lin:List TO}{Li:List Own}{R:List TO->C->Prop}{a0 a':Act}{w':World}(x:nI P fn.results.toList=some rs) (hl:Li.length=Lin.length) (ba:bV F (inp Li) (cT Lin))
  (an:∀k g t cs,(inp Li).get k=some (.box g t cs)->G k=some (g,t)) (hq:eZ n F (inp Li) w a0 asg (Both G (fun L ρ=>hU L ρ rs fun vs=>fe Lin L (gZ vs) R)) a' w') :
  a'.defers=a0.defers/\∃v,(results fn a'.tmps).run P w'=.ok v w'/\∃F' Lo,St F' (inp Lo) w'/\Step F (inp Li) w F' (inp Lo) w'/\gV Li R F' Lo v:=by
 obtain⟨F',L',ρ',g1,g2,g3,g4,g5,g6,M',cp,g7,z⟩:=hq;obtain⟨us,hm,cs,al,⟨fz,ko,hK⟩⟩:=ou g1 g2 x (rT g7 z);have ao:TS G F' L' ρ' M' (fun _=>.any):=⟨g7.tl,fun _=>trivial,g7.kp,g7.glob⟩;obtain⟨F2,L2,M2,ca,bc,k1,k2,k3,q,k5,M3,c2,c3,Mo,q1,aw,q4,q5,q6,q7⟩:=pQ g1 g2 ao (by simp only[aB];exact⟨_,[],rfl,Hl al,rfl⟩) hK;subst q1;simp only[aB] at k5;obtain⟨v,cy,ev,hv,rfl⟩:=k5;injection ev with ev _
 subst ev;have ad:∃L3,St F2 L3 w'/\Step F2 L2 w' F2 L3 w'/\bV F2 L3 M3/\Rel F2 L3 c3 (gD us)/\∀k g t cs,L2.get k=some (.box g t cs)->M3.get k≠none->L3.get k=some (.box g t cs):=by
  rcases aw with⟨rfl,rfl⟩ | ⟨q2,q3⟩
  ·exact⟨L2,k1,Step.refl _ _ _,q.tl,hv,fun k g t cs h _=>h⟩
  ·obtain⟨b1,b2⟩:=ze k1 q.tl q2;refine⟨_,b1,b2,zb q.tl q2,rR q.tl q3 hv,fun k g t cs h l=>?_⟩;rw[lZ];cases e:M3.get k with
   | none=>exact o5 e l
   | some o=>simp only[h]
 obtain⟨L3,b1,b2,f,aa,bd⟩:=ad;obtain⟨Lo,y,d2,d3⟩:=kN f q4;have az:=dw q5;have av:∀k g t,G k=some (g,t)->∃cs,(M3.get k≠none->L3.get k=some (.box g t cs)):=by
  intro k g t e;obtain⟨cs,h⟩:=q.kp k g t e;exact⟨cs,fun l=>bd _ _ _ _ h l⟩
 refine⟨g4,gD us,?_,F2,Lo,b1.handed y az,?_,Mo.map (TO.aaq (C.ren (bn ko 1000))),c3.aaB.ren (bn ko 1000),by simp[d2],lN f d2 y d3,(Em aa).ren (lX y),?_,q7 (by simp only[vE];exact⟨aa.wf,trivial⟩)⟩
 ·rw[pH];rw[Array.mapM_eq_mapM_toList];simp only[Sem.run_bind,Sem.run_map];rw[hm];simp only[Result.andThen_ok,Sem.run_pure];congr 1
  match us with
  | []=>rfl
  | [t]=>rfl
  | t::u::r =>
   simp only[gD];rw[dif_neg (by simp)]
 ·have c:=(g5.trans k3).trans b2;obtain⟨x1,x2⟩:=cP y;refine⟨c.le,c.os,c.tape,c.output,c.size,c.same,c.frz,fun b hb=>c.own b ?_⟩;obtain⟨j,p,e,hb⟩:=hb;rw[aJ] at e;split at e
  case isFalse=>cases e
  have d:j-1000<Lo.length:=(aa6.1 e).1;have hk:ko[j-1000]?=some (ko[j-1000]'(by omega)):=aa4 (by omega);exact⟨_,p,by rw[x2 _ _ hk];exact e,hb⟩
 ·intro i g t cs hi;have d:i<Lin.length:=by rw[<-hl];exact(aa6.1 hi).1
  have m:(inp Li).get (1000+i)=some (.box g t cs):=by rw[aJ,eu (by omega),show 1000+i-1000=i by omega];exact hi
  have hr:=ba (1000+i);rw[cG,eu (by omega),show 1000+i-1000=i by omega,m,aa4 d] at hr;have ar:CG Lin[i]=false:=by
   cases ae:Lin[i] with
   | row=>rw[ae] at hr;exact hr.elim
   | box t' cs'=>rfl
   | map es=>rfl
  ·obtain⟨k',y1,y2⟩:=gQ q6 i _ (aa4 d) ar;rw[List.getElem?_range' d] at y1;injection y1 with y1
   obtain⟨x1,x2⟩:=cP y;obtain⟨z1,z2⟩:=yR q4;have s:i<Mo.length:=by rw[z1];exact(aa6.1 y2).1
   have be:M3.get k'≠none:=by rw[z2 i k' y2,aa4 s];simp
   have bj:k'=1000+i:=by omega
   subst bj;obtain⟨bb,h2⟩:=av _ g t (an _ _ _ _ m);exact⟨bb,by rw[<-x2 i _ y2];exact h2 be⟩
theorem bg {Pp:Value->Prop}{f:FuncId}{fn:Func}{sc:ax}{A:cJ}{rs:List RV}{args:List C}{Lin:List TO}{R:List TO->C->Prop}(hf:P.funcs[f]?=some fn) (b:au P A fn=some (sc,A.n,rs,false)) (r:Nat.ble args.length A.n=true)
  (h:vE args->(∀o∈Lin,o.Wf)->evalTC P ⟨Pp,[],none⟩ sc (fun _ _ _=>False) (fun L ρ=>hU L ρ rs fun d=>fe Lin L (gZ d) R) (fun L ρ=>hU L ρ rs fun d=>fe Lin L (gZ d) R) (cT Lin) (ku 0 args)):CallsTX P f args Lin R Pp:=by
 unfold au at b;split at b
 case h_2=>cases b
 rename_i c hb;split at b
 case h_2=>cases b
 rename_i bu am aa z;injection b with b
 injection b with e1 e2
 injection e2 with e2 e3
 injection e3 with e3 hname
 subst e1 e3;refine⟨fun F Li d hl u ha=>⟨⟨fn,hf,by rw[hb];rfl,hname⟩,gV.aaC,fun w hs=>?_⟩⟩;refine calls_of_wp hf hb ?_;have ae:∀o∈Lin,o.Wf:=by
  intro o ho;obtain⟨i,hi⟩:=abw.1 ho;have:=u (1000+i);rw[cG,aJ,eu (by omega),eu (by omega),show 1000+i-1000=i by omega,hi] at this;cases e:Li[i]? with
  | none=>rw[e] at this;exact this.elim
  | some p=>rw[e] at this;exact cZ.wf this
 have h:=h ha.wf ae;have ab:=ha.len;have r:=abq r
 -- the frame
 have key:∀j,∃sv,aN F (inp Li) (ku 0 args j) sv/\conc (inp Li) sv=(d.toArray++Array.replicate (fn.ntmps-d.toArray.size) undef).getD j undef/\(∀k off,sv=.own k off->∃g t cs,(inp Li).get k=some (.box g t cs))/\(∀x i,sv=.el x i->x≠none):=by
  intro j;rw[oK];simp only[abr,abB,Nat.sub_zero,abp];cases e:args[j]? with
  | some c =>
   have s:j<d.length:=by rw[ab];exact(aa6.1 e).1
   obtain⟨s1,s2,s3,s4⟩:=rS (ha.at e (aa4 s));refine⟨_,s1,?_,s3,fun x i e=>o5 e (s4 x i)⟩;rw[s2,Array.getElem?_append_left (by simpa using s)];simp[s]
  | none =>
   have ar:d.length<=j:=by rw[ab];exact abT.1 e
   refine⟨.v undef,lF,?_,fun _ _ e=>(by cases e),fun _ _ e=>(by cases e)⟩;rw[Array.getElem?_append_right (by simpa using ar)];simp only[Array.getElem?_replicate,conc];split<;>rfl
 let ac:Env:=fun j=>(key j).choose
 have he:aC (inp Li) ac {tmps:=d.toArray++Array.replicate (fn.ntmps-d.toArray.size) undef,defers:=[]} :=
  ⟨fun t=>(key t).choose_spec.2.1.symm,fun t k off e=>(key t).choose_spec.2.2.1 k off e,fun t x j e=>(key t).choose_spec.2.2.2 x j e⟩
 let G:Nat->Option (Nat×TypeId):=fun k=>match(inp Li).get k with | some (.box g t _)=>some (g,t) | _=>none
 have y:∀k g t cs,(inp Li).get k=some (.box g t cs)->G k=some (g,t):=fun k g t cs e=>by simp only[G,e]
 have ag:Kp G (inp Li):=by
  intro k g t e;simp only[G] at e;split at e
  ·rename_i g' t' cs h;injection e with e
   injection e with e1 e2
   subst e1 e2;exact⟨cs,h⟩
  ·cases e
 have ao:∀k,G k≠none->1000<=k:=by
  intro k m;simp only[G] at m;split at m
  ·rename_i g t cs h;rw[aJ] at h;split at h
   ·assumption
   ·cases h
  ·exact o5 rfl m
 have ht:TS G F (inp Li) ac (cT Lin) (ku 0 args):=⟨u,fun j=>(key j).choose_spec.1,ag,hs.glob⟩;refine wp_mono (f7 c aa (fun k _ m=>.inl (ao k m)) hs he ht (by simp[e2];omega) h) ?_;intro e a' w' q;have fin:∀{a0:Act},a0.defers=[]->eZ A.n F (inp Li) w a0 (ef c) (Both G (fun L ρ=>hU L ρ am fun d=>fe Lin L (gZ d) R)) a' w'->a'.defers=[]/\∃v,(results fn a'.tmps).run P w'=.ok v w' /\
   ∃v' F' Lo,Ending.returned v=.returned v'/\St F' (inp Lo) w'/\Step F (inp Li) w F' (inp Lo) w'/\gV Li R F' Lo v':=by
  intro a0 av q;obtain⟨k1,v,k2,F',Lo,k3,k4,k5⟩:=BH z hl u y q;exact⟨k1.trans av,v,k2,v,F',Lo,rfl,k3,k4,k5⟩
 cases e with
 | normal=>exact(let⟨h1,v,h2,h3⟩:=fin rfl q;⟨h1,v,h2,.inl h3⟩)
 | ret=>exact(let⟨h1,v,h2,h3⟩:=fin rfl q;⟨h1,v,h2,.inl h3⟩)
 | exit j=>obtain⟨F',L',ρ',_,_,_,_,_,_,M',bp,_,h⟩:=q;exact h.elim
 | goto l=>exact q.elim
 | panic c =>
  obtain⟨v,an,F',L',g1,g2,g3,g4,g5,kp,hp,_⟩:=q;obtain⟨Lo,q1,q2,q3,q4⟩:=tE g1 g2 (fun i g t cs hi=>kp (1000+i) g t (y _ g t cs (by rw[aJ,eu (by omega),show 1000+i-1000=i by omega];exact hi)));exact⟨g4,.inr ⟨v,_,F',Lo,rfl,an,q1,q2,q3,q4,hp⟩⟩
 | outgrown=>exact q.elim
theorem CallsTX.noPan {f:Nat}{args:List C}{Lin:List TO}{R:List TO->C->Prop}(h:CallsTX P f args Lin R fun _=>False):CallsT P f args Lin R :=
 ⟨fun F Li b h1 h2 h3=>let k:=h.out F Li b h1 h2 h3;⟨k.ent,k.mono,fun w c=>(k.run w c).mono fun e w' q=>q.elim id fun⟨_,_,_,_,_,_,_,_,_,_,q⟩=>q.elim⟩⟩
theorem af {f:FuncId}{fn:Func}{e:ax}{A:cJ}{rs:List RV}{args:List C}{Lin:List TO}{R:List TO->C->Prop}(hf:P.funcs[f]?=some fn) (b:au P A fn=some (e,A.n,rs,false)) (c:Nat.ble args.length A.n=true)
  (h:vE args->(∀o∈Lin,o.Wf)->evalTC P ⟨fun _=>False,[],none⟩ e (fun _ _ _=>False) (fun L ρ=>hU L ρ rs fun d=>fe Lin L (gZ d) R) (fun L ρ=>hU L ρ rs fun d=>fe Lin L (gZ d) R) (cT Lin) (ku 0 args)):CallsT P f args Lin R :=
 (bg hf b c h).noPan
end
section
variable {P:Program}{L:TL}{ρ:aG}
def aQ (Lo:List TO) (x:C):List TO->C->Prop:=fun Mo v=>Mo=Lo/\v=x
theorem aF {f:Nat}{args a:List C}{K:TL->aG->C->Prop}{x:C}(h:CallsT P f a [] (aQ [] x)) (j:(args.map fun c=>c.aaw.ren (bn [] 1000))=a) (k:Wf x->K L ρ (x.ren (aL [])).slt):kF P f args L ρ K:=by
 subst j;exact .mk ⟨[],[],[],L,[],_,.inl rfl,rfl,rfl,rfl,rfl,rfl,h,fun v Mo ⟨e,b⟩ d _=>by subst e b;exact⟨rfl,k d⟩⟩
theorem bB {f:Nat}{args a:List C}{K:TL->aG->C->Prop}{d:Option Nat}{x:C}(h:CallsT P f a [] (aQ [] x)) (l:(args.map fun c=>c.aaw.ren (bn [] 1000))=a) (k:Wf x->K L ρ x.slt):pK P f args L ρ d K:=by
 subst l;exact .frz _ h fun v Mo ⟨j,b⟩ e=>by subst j b;exact⟨rfl,k e⟩
theorem callO (ks ko:List Nat) {f:Nat}{args a:List C}{K:TL->aG->C->Prop}{x:C}{Lin Lin' Lo:List TO}(h:CallsT P f a Lin' (aQ Lo x)) (r:L.sub ks=some Lin)
  (d:(aU ks&&aU ko&&jP L ks ko&&aH Lin ks ko)=true) (m:(args.map fun c=>c.aaw.ren (bn ks 1000))=a) (n:Lin.map (TO.aaq (C.ren (bn ks 1000)))=Lin') (j:ko.length=Lo.length)
  (k:Wf x->(∀o∈Lo,o.Wf)->K (((L.aas ks).kills (rowsOf L ks)).puts ko (Lo.map (TO.aaq (C.ren (aL ko))))) (dO (rowsOf L ks) ρ) (x.ren (aL ko)).slt):kF P f args L ρ K:=by
 subst m n;simp only[xo] at d;obtain⟨⟨⟨q,p⟩,c3⟩,c4⟩:=d;exact .mk ⟨[],ks,ko,L,Lin,_,.inl rfl,r,q,p,c3,c4,h,fun v Mo ⟨l,s⟩ e b=>by subst l s;exact⟨j,k e b⟩⟩
theorem zk (ks ko:List Nat) {f:Nat}{args a:List C}{K:TL->aG->C->Prop}{x:C}{Lin Lin' Lo:List TO}(h:CallsT P f a Lin' (aQ Lo x)) (r:L.sub ks=some Lin)
  (d:(aU ks&&aU ko&&jP L ks ko&&aH Lin ks ko)=true) (m:(args.map fun c=>c.aaw.ren (bn ks 1000))=a) (n:Lin.map (TO.aaq (C.ren (bn ks 1000)))=Lin') (j:ko.length=Lo.length)
  (k:Wf x->(∀o∈Lo,o.Wf)->K (((L.aas ks).kills (rowsOf L ks)).puts ko (Lo.map (TO.aaq (C.ren (aL ko))))) (dO (rowsOf L ks) ρ) (x.ren (aL ko)).slt):FY P f args L ρ K:=by
 subst m n;simp only[xo] at d;obtain⟨⟨⟨q,p⟩,c3⟩,c4⟩:=d;exact .mk ⟨ks,ko,Lin,_,r,q,p,c3,c4,h,fun v Mo ⟨l,s⟩ e b=>by subst l s;exact⟨j,k e b⟩⟩
theorem En (b ks ko:List Nat) {f:Nat}{args a:List C}{K:TL->aG->C->Prop}{x:C}{Lo Lin':List TO}(h:CallsT P f a Lin' (aQ Lo x))
  (hf:yK b L ρ args fun L ρ args=>∃Lin,L.sub ks=some Lin/\(aU ks&&aU ko&&jP L ks ko&&aH Lin ks ko)=true/\(args.map fun c=>c.aaw.ren (bn ks 1000))=a/\Lin.map (TO.aaq (C.ren (bn ks 1000)))=Lin'/\ko.length=Lo.length /\
   (Wf x->(∀o∈Lo,o.Wf)->K (((L.aas ks).kills (rowsOf L ks)).puts ko (Lo.map (TO.aaq (C.ren (aL ko))))) (dO (rowsOf L ks) ρ) (x.ren (aL ko)).slt)):kF P f args L ρ K:=by
 refine .mk ⟨b,ks,ko,?_⟩;refine frzK_imp hf ?_;rintro L ρ args ⟨Lin,r,j,rfl,rfl,m,k⟩;simp only[xo] at j;obtain⟨⟨⟨q,p⟩,c3⟩,c4⟩:=j;exact⟨L,Lin,_,.inl rfl,r,q,p,c3,c4,h,fun v Mo ⟨n,s⟩ l e=>by subst n s;exact⟨m,k l e⟩⟩
where
 frzK_imp:∀{b:List Nat}{L:TL}{ρ:aG}{args:List C}{K K':TL->aG->List C->Prop},yK b L ρ args K->(∀L ρ args,K L ρ args->K' L ρ args)->yK b L ρ args K'
  | [],L,ρ,args,K,K',h,d=>d _ _ _ h
  | k::b,L,ρ,args,K,K',h,d=>by
   simp only[yK] at h ⊢;generalize L.get k=z at h ⊢;split at h
   ·exact frzK_imp h d
   ·exact h.elim
theorem ay {Lin:List TO}{v x:C}(hb:aH Lin (List.range' 1000 Lin.length) []=true) (e:v.aaB.ren (bn [] 1000)=x):fe Lin L v (aQ [] x) :=
 ⟨[],[],L,v,v,[],rfl,.inl ⟨rfl,rfl⟩,rfl,rfl,hb,fun _=>⟨rfl,e⟩⟩
theorem bJ (ko:List Nat) {Lin Mo Lo:List TO}{v x:C}(b:L.sub ko=some Mo) (a:(aU ko&&aH Lin (List.range' 1000 Lin.length) ko)=true) (c:Mo.map (TO.aaq (C.ren (bn ko 1000)))=Lo) (e:v.aaB.ren (bn ko 1000)=x):fe Lin L v (aQ Lo x):=by
 simp only[xo] at a;exact⟨[],ko,L,v,v,Mo,rfl,.inl ⟨rfl,rfl⟩,b,a.1,a.2,fun _=>⟨c,e⟩⟩
theorem Xx (k t sz:Nat) {Lin:List TO}(b:L=[]) (hb:aH Lin (List.range' 1000 Lin.length) [k]=true):fe Lin L .nils (aQ [.row t sz []] (.rw 1000)):=by
 subst b;have a:Nat.beq k k=true:=by simp
 refine⟨[],[k],[(k,.row t sz [])],.nils,.rw k,[.row t sz []],rfl,.inr ⟨⟨.inr ⟨rfl,t,sz,rfl⟩,trivial⟩,.inr (.inr (.inr (.inl ⟨rfl,k,t,sz,rfl,rfl,?_⟩)))⟩,?_,rfl,hb,fun _=>⟨rfl,?_⟩⟩
 ·simp only[TL.get,a]
 ·simp only[TL.sub,TL.get,a]
 ·simp only[C.aaB,C.ren,C.mp,xL,bn,a]
theorem uL (d ko:List Nat) {Lin Lo:List TO}{v x:C}(hf:yK d L (fun _=>.any) [v] fun L _ b=>∃c Mo,b=[c]/\L.sub ko=some Mo/\(aU ko&&aH Lin (List.range' 1000 Lin.length) ko)=true/\Mo.map (TO.aaq (C.ren (bn ko 1000)))=Lo/\c.aaB.ren (bn ko 1000)=x):fe Lin L v (aQ Lo x):=by
 refine⟨d,ko,?_⟩;refine En.frzK_imp hf ?_;rintro L ρ b ⟨c,Mo,rfl,f,a,h,e⟩;simp only[xo] at a;exact⟨L,c,c,Mo,rfl,.inl ⟨rfl,rfl⟩,f,a.1,a.2,fun _=>⟨h,e⟩⟩
theorem bA {d:Type}{b:TL->aG->TK->Prop}{asg:List Nat}(n:Nat) (l:Nat) (f:List Nat) (c:d) (e:d->List C) (Lf:d->TL) (Inv:Nat->d->Prop) (h0:Inv 0 c) (r:OE L (Lf c) (ρ l) (.int .i64 0)) (u:nS L (Lf c) f (e c) ρ)
  (v:gives L (Lf c) (Lf c)) (hb:∀s,pI L (Lf s)=true) (t:∀s,(e s).length=f.length)
  (h:∀(k:Nat) s,k<=n->Inv k s->vE (e s)->(∀j o,(Lf s).get j=some o->o.Wf)->(k:Int)<=9223372036854775807->b (Lf s) (qL (l::f) (.int .i64 k::e s) (uy asg ρ)) fun L' ρ' =>
   ∃a:Nat×d,(a.1<=n/\Inv a.1 a.2)/\nS L' (Lf a.2) (l::f) (.int .i64 a.1::e a.2) ρ'/\gives L' (Lf a.2) (Lf a.2)/\n-a.1<n-k):wN b asg L ρ:=by
 refine⟨Nat×d,(0,c),fun x=>x.1<=n/\Inv x.1 x.2,l::f,fun x=>.int .i64 x.1::e x.2,fun x=>Lf x.2,fun x=>n-x.1,⟨abr _,h0⟩,⟨r,u⟩,v,fun x=>hb x.2,fun x=>by simp[t],?_⟩;rintro⟨k,s⟩ ⟨m,hi⟩ p q;simp only[vE,Wf] at p;exact h k s m hi p.2 q (wf_i64 p.1).2
theorem aZ {L1:TL}{k:Nat}:OE L L1 (.int .i64 ((k:Int)+1)) (.int .i64 ((k+1:Nat):Int)):=.inr (.inl ⟨rfl,rfl⟩)
theorem bf {n k:Nat}(h:k<n):n-(k+1)<n-k:=by omega
theorem gJ {els:List (List C)}(h:Wf (.sl els)):els.length<=9223372036854775807:=by simp only[Wf,maxLen] at h;omega
theorem O6 {a:Type}{f:a->List C}{l:List a}(h:Wf (.sl (l.map f))):l.length<=9223372036854775807:=by have:=gJ h;simpa using this
theorem Gg {a:Type}{f:a->List C}{l:List a}{k sz:Nat}{x:a}{es:List C}{K:List C->Prop}(c:l[k]?=some x) (he:f x=es) (b:fN es sz=true) (h:K es):ur (l.map f) (k:Int) sz K :=
 ⟨es,by omega,by simp[c,he],b,h⟩
theorem eC {bs:List UInt8}{k:Nat}{x:UInt8}{K:List C->Prop}(a:bs[k]?=some x) (h:K [KO x]):ur (FT bs) (k:Int) 1 K :=
 ⟨[KO x],by omega,by simp[FT,a],rfl,h⟩
theorem aj {L1:TL}{c:C}(h:fZ L1 3 c=true):OE L L1 c c:=.inr (.inl ⟨rfl,h⟩)
theorem bU {a:Type}{l:List a}{k:Nat}(h:¬k<l.length):l.drop k=[]:=List.drop_eq_nil_iff.2 (by omega)
theorem Lc (ks ko:List Nat) {PS:oE}{Pp:Value->Prop}{f:Nat}{args a:List C}{K:TL->aG->C->Prop}{x:C}{Lin Lin' Lo:List TO}(h:CallsTX P f a Lin' (aQ Lo x) Pp) (s:L.sub ks=some Lin)
  (d:(aU ks&&aU ko&&jP L ks ko&&aH Lin ks ko)=true) (m:(args.map fun c=>c.aaw.ren (bn ks 1000))=a) (n:Lin.map (TO.aaq (C.ren (bn ks 1000)))=Lin') (j:ko.length=Lo.length) (q:∀v,Pp v->PS.ps v)
  (k:Wf x->(∀o∈Lo,o.Wf)->K (((L.aas ks).kills (rowsOf L ks)).puts ko (Lo.map (TO.aaq (C.ren (aL ko))))) (dO (rowsOf L ks) ρ) (x.ren (aL ko)).slt) (u:jQ L ks PS.hb=true:=by rfl):lK P PS f args L ρ K:=by
 subst m n;simp only[xo] at d;obtain⟨⟨⟨r,p⟩,c3⟩,c4⟩:=d;exact⟨[],ks,ko,L,Lin,_,_,.inl rfl,s,r,p,c3,c4,u,h,q,fun v Mo ⟨l,t⟩ e b=>by subst l t;exact⟨j,k e b⟩⟩
theorem Tj (L1:TL) (ks ko:List Nat) {PS:oE}{Pp:Value->Prop}{f:Nat}{args a:List C}{K:TL->aG->C->Prop}{x:C}{Lin Lin' Lo:List TO}(h:CallsTX P f a Lin' (aQ Lo x) Pp) (y:gives L L1 L1) (s:L1.sub ks=some Lin)
  (d:(covers L L1&&aU ks&&aU ko&&jP L1 ks ko&&aH Lin ks ko)=true) (m:(args.map fun c=>c.aaw.ren (bn ks 1000))=a) (n:Lin.map (TO.aaq (C.ren (bn ks 1000)))=Lin') (j:ko.length=Lo.length) (q:∀v,Pp v->PS.ps v)
  (k:Wf x->(∀o∈Lo,o.Wf)->K (((L1.aas ks).kills (rowsOf L1 ks)).puts ko (Lo.map (TO.aaq (C.ren (aL ko))))) (dO (rowsOf L1 ks) ρ) (x.ren (aL ko)).slt) (w:jQ L1 ks PS.hb=true:=by rfl):lK P PS f args L ρ K:=by
 subst m n;simp only[xo] at d;obtain⟨⟨⟨⟨u,r⟩,p⟩,c3⟩,c4⟩:=d;exact⟨[],ks,ko,L1,Lin,_,_,.inr ⟨y,u⟩,s,r,p,c3,c4,w,h,q,fun v Mo ⟨l,t⟩ e b=>by subst l t;exact⟨j,k e b⟩⟩
theorem qo {PS:oE}{c:C}{v:Value}(a:D6 c=some v) (h:PS.ps v) (b:jQ L [] PS.hb=true:=by rfl):U6 PS L c:=⟨v,a,b,h⟩
end
def mg:Own->Value
 | .box g _ _=>.pointer (some ⟨g,0,none⟩)
 | .row _ _ _ _ _=>undef
def qp:Own->List Value->Own
 | .box g t _,cs=>.box g t cs
 | .row v t sz n xs,_=>.row v t sz n xs
def Tk:Own->Nat->Prop
 | .box _ 0 _,_=>False
 | .box _ (_+1) cs,n=>cs.length=n
 | .row _ _ _ _ _,_=>False
theorem Ho {g:Nat}{t:TypeId}{cs:List Value}{n:Nat}(h:t≠0) (a:cs.length=n):Tk (.box g t cs) n:=by
 cases t with
 | zero=>exact o5 rfl h
 | succ t=>exact a
theorem xQ {g:Nat}{t:TypeId}{cs:List Value}{n:Nat}(h:Tk (.box g t cs) n):t≠0:=by
 cases t with
 | zero=>exact h.elim
 | succ t=>exact Nat.succ_ne_zero t
def Dz:List Own->List Nat->Prop
 | [],[]=>True
 | o::bs,n::ns=>Tk o n/\Dz bs ns
 | _,_=>False
structure oL (P:Program) (H:Nat) (PS:Value->Prop) (ns:List Nat) (out:Value->List (List Value)):Prop where
 inv:∀cap w,(invoke (.fn (.func H) cap) #[]).run P w=.ok (.enter H cap) w
 idle:∀(bs:List Own) (w:World),Dz bs ns->CallsD P H (bs.map mg).toArray .returning w fun e u' w'=>e=.returned (.tuple #[])/\u'=.returning/\w'=w
 caught:∀(F:aA) (bs:List Own) (v:Value) (older:List PanicEntry) (w:World),PS v->Dz bs ns->St F (inp bs) w ->
  CallsD P H (bs.map mg).toArray (.panicking ({v,recovered:=false}::older)) w fun e u' w'=>e=.returned (.tuple #[])/\u'=.panicking ({v,recovered:=true}::older) /\
   ∃F',St F' (inp (List.zipWith qp bs (out v))) w'/\Step F (inp bs) w F' (inp (List.zipWith qp bs (out v))) w'
theorem Eo {P:Program}{F:aA}{L:Loc}{ρ:Env}{a:Act}{w:World}{fn:Func}{rs:List RV}{K:List Value->Prop}(f:St F L w) (he:aC L ρ a) (b:nI P fn.results.toList=some rs) (h:nY L ρ rs K) :
  ∃c,(results fn a.tmps).run P w=.ok (gD c) w/\K c:=by
 obtain⟨c,e,d⟩:=ou f he b h;refine⟨c,?_,d⟩;rw[pH,Array.mapM_eq_mapM_toList];simp only[Sem.run_bind,Sem.run_map];rw[e];simp only[Result.andThen_ok,Sem.run_pure];congr 1
 match c with
 | []=>rfl
 | [t]=>rfl
 | t::u::r =>
  simp only[gD];rw[dif_neg (by simp)]
def BI:List TO->List TO->Prop
 | [],Mo=>Mo=[]
 | .box t _::l,Mo=>∃(n:Nat) (Mo':List TO),Mo=.box t (List.replicate n .any)::Mo'/\BI l Mo'
 | .row t sz _::l,Mo=>∃Mo',Mo=.row t sz []::Mo'/\BI l Mo'
 | .map _::_,_=>False
def BJ:List TO->Bool
 | []=>true
 | .map _::_=>false
 | .box _ _::l=>BJ l
 | .row _ _ _::l=>BJ l
theorem Ep {F:aA}{L:Loc}:∀a:List Value,aB F L (List.replicate a.length .any) a
 | []=>by simp only[ab1,List.replicate_zero,aB]
 | v::a=>by
  simp only[abo,ack,aB];exact⟨v,a,rfl,trivial,Ep a⟩
theorem Hp {F:aA}:∀(Lin:List TO) (Li Lo:List Own),BJ Lin=true->Li.length=Lin.length->Lo.length=Lin.length->(∀(i:Nat) o p,Lin[i]?=some o->Li[i]?=some p->∃L,cZ F L o p) ->
  (∀(i:Nat) g t cs,Li[i]?=some (.box g t cs)->∃cs',Lo[i]?=some (.box g t cs')) ->
  ∃(Mo:List TO) (Lo':List Own),BI Lin Mo/\Mo.length=Lin.length/\Lo'.length=Lin.length/\(∀(i:Nat) o,Lo'[i]?=some o->Lo[i]?=some o\/∃t sz,o=.row (.slice none 0 0) t sz 0 []) /\
   (∀(i:Nat) g t cs,Li[i]?=some (.box g t cs)->∃cs',Lo'[i]?=some (.box g t cs'))/\∀(i:Nat) o p L G,Mo[i]?=some o->Lo'[i]?=some p->cZ G L o p
 | [],Li,Lo,c,h1,h2,h3,h4=>by
  have:Li=[]:=List.length_eq_zero_iff.1 h1;subst this;exact⟨[],[],rfl,rfl,rfl,fun i o e=>by simp at e,fun i g t cs e=>by simp at e,fun i o p L G e=>by simp at e⟩
 | o::Lin,[],Lo,c,h1,h2,h3,h4=>by simp at h1
 | o::Lin,p::Li,[],c,h1,h2,h3,h4=>by simp at h2
 | o::Lin,p::Li,q::Lo,c,h1,h2,h3,h4=>by
  obtain⟨Mo,Lo',a1,h,l,m,j,k⟩:=Hp Lin Li Lo (by cases o<;>first | exact c | cases c) (by simpa using h1) (by simpa using h2) (fun i o p a b=>h3 (i+1) o p (by simpa using a) (by simpa using b)) (fun i g t cs e=>by simpa using h4 (i+1) g t cs (by simpa using e));obtain⟨L,d⟩:=h3 0 o p rfl rfl;cases o with
  | map es=>cases c
  | box t cs =>
   cases p with
   | row=>exact d.elim
   | box g f us =>
    obtain⟨cs',e⟩:=h4 0 g f us rfl;simp only[abm,aa1] at e;subst e;refine⟨.box t (List.replicate cs'.length .any)::Mo,.box g f cs'::Lo',⟨_,_,rfl,a1⟩,by simp[h],by simp[l],fun i o e=>?_,fun i g t cs e=>?_,fun i o p L G a b=>?_⟩
    ·cases i with
     | zero=>exact .inl e
     | succ i=>simpa using m i o (by simpa using e)
    ·cases i with
     | zero=>simp only[abm,aa1] at e;injection e with q1 q2 q3;subst q1 q2;exact⟨_,rfl⟩
     | succ i=>simpa using j i g t cs (by simpa using e)
    ·cases i with
     | zero =>
      simp only[abm,aa1] at a b;subst a b;exact⟨d.1,Ep _⟩
     | succ i=>exact k i o p L G (by simpa using a) (by simpa using b)
  | row t sz els =>
   cases p with
   | box=>exact d.elim
   | row v f r n xs =>
    refine⟨.row t sz []::Mo,.row (.slice none 0 0) t sz 0 []::Lo',⟨_,rfl,a1⟩,by simp[h],by simp[l],fun i o e=>?_,fun i g t cs e=>?_,fun i o p L G a b=>?_⟩
    ·cases i with
     | zero=>simp only[abm,aa1] at e;subst e;exact .inr ⟨_,_,rfl⟩
     | succ i=>simpa using m i o (by simpa using e)
    ·cases i with
     | zero=>simp only[abm,aa1] at e;cases e
     | succ i=>simpa using j i g t cs (by simpa using e)
    ·cases i with
     | zero =>
      simp only[abm,aa1] at a b;subst a b;exact⟨rfl,rfl,rfl,⟨abr _,none,0,rfl,fun _=>rfl⟩,by simp only[aR]⟩
     | succ i=>exact k i o p L G (by simpa using a) (by simpa using b)
theorem Tl {F F':aA}{Lin:List TO}{Li Lo:List Own}{w w':World}(q:BJ Lin=true) (z:Li.length=Lin.length) (s:bV F (inp Li) (cT Lin)) (l:St F' (inp Lo) w') (c:Step F (inp Li) w F' (inp Lo) w') (x:Lo.length=Li.length)
  (r:∀(i:Nat) g t cs,Li[i]?=some (.box g t cs)->∃cs',Lo[i]?=some (.box g t cs')) :
  ∃Mo Lo',St F' (inp Lo') w'/\Step F (inp Li) w F' (inp Lo') w'/\BI Lin Mo/\Mo.length=Lo'.length/\bV F' (inp Lo') (cT Mo)/\∀(i:Nat) g t cs,Li[i]?=some (.box g t cs)->∃cs',Lo'[i]?=some (.box g t cs'):=by
 have h:∀(i:Nat) o p,Lin[i]?=some o->Li[i]?=some p->∃L,cZ F L o p:=by
  intro i o p d u;have y:=s (1000+i);rw[cG,aJ,eu (by omega),eu (by omega),show 1000+i-1000=i by omega,d,u] at y;exact⟨_,y⟩
 obtain⟨Mo,Lo',a1,n,v,a4,a5,a6⟩:=Hp Lin Li Lo q z (by rw[x,z]) h r;have a:∀j o,(inp Lo').get j=some o->(inp Lo).get j=some o\/∃t sz,o=.row (.slice none 0 0) t sz 0 []:=by
  intro j o e;rw[aJ] at e ⊢;split at e
  case isFalse=>cases e
  rename_i hj;rw[eu hj];exact a4 _ o e
 refine⟨Mo,Lo',⟨l.frz,fun j o e=>?_,fun j o g e hb=>?_,fun j j' o o' g e e' hb m=>?_,l.glob⟩,?_,a1,by rw[n,v],fun k=>?_,a5⟩
 ·rcases a j o e with d | ⟨t,sz,rfl⟩
  ·exact l.own j o d
  ·exact World.ownsRow_nil w' 0 t sz
 ·rcases a j o e with d | ⟨t,sz,rfl⟩
  ·exact l.off j o g d hb
  ·cases hb
 ·rcases a j o e with d | ⟨t,sz,rfl⟩
  ·rcases a j' o' e' with u | ⟨t,sz,rfl⟩
   ·exact l.sep j j' o o' g d u hb m
   ·cases m
  ·cases hb
 ·refine⟨c.le,c.os,c.tape,c.output,c.size,c.same,c.frz,fun b hb=>?_⟩;obtain⟨j,o,e,hb⟩:=hb;rcases a j o e with d | ⟨t,sz,rfl⟩
  ·exact c.own b ⟨j,o,d,hb⟩
  ·cases hb
 ·rw[cG,aJ];split
  ·cases d:Mo[k-1000]? with
   | none =>
    have:Lo'[k-1000]?=none:=abE (by rw[v,<-n];exact abT.1 d);rw[this];trivial
   | some o =>
    have f:k-1000<Lo'.length:=by rw[v,<-n];exact(aa6.1 d).1
    rw[aa4 f];exact a6 _ o _ _ _ d (aa4 f)
  ·trivial
def zl (M:TL) (τ:aG):List Nat->List Nat->Bool
 | [],[]=>true
 | k::ks,n::ns=>match τ k,M.get k with
  | .own j 0,some (.box _ cs)=>match Nat.beq j k,fN cs n with | true,true=>zl M τ ks ns | _,_=>false
  | _,_=>false
 | _,_=>false
section
variable {G:Nat->Option (Nat×TypeId)}{F:aA}{L:Loc}{ρ:Env}{M:TL}{τ:aG}
theorem Er:∀{ks ns:List Nat},zl M τ ks ns=true->TS G F L ρ M τ->∃bs:List Own,L.sub ks=some bs/\Dz bs ns/\ks.map (fun k=>conc L (ρ k))=bs.map mg/\(∀k∈ks,ρ k=.own k 0)
 | [],[],_,_=>⟨[],rfl,trivial,rfl,fun k h=>by cases h⟩
 | [],n::ns,h,_=>by cases h
 | k::ks,[],h,_=>by cases h
 | k::ks,n::ns,h,b=>by
  simp only[zl] at h;split at h
  case h_2=>cases h
  rename_i j t cs h1 h2;split at h
  case h_2=>cases h
  rename_i h3 h4;have h3:=aa5 h3;subst h3;obtain⟨bs,o,p,m,f⟩:=Er h b;obtain⟨g,ty,q,e,l,c⟩:=lM b.tl h2;have d:ρ j=.own j 0:=(jx (x:=.t j) b.env h1).1;refine⟨.box g ty q::bs,by simp only[Loc.sub,e,o],⟨Ho c.2.2 (by rw[l.len];exact cn h4),p⟩,?_,?_⟩
  ·rw[abe,abe,m];simp only[d,conc,e,mg]
  ·intro k a;rcases abd.1 a with rfl | a
   ·exact d
   ·exact f k a
end
theorem xR:∀{bs:List Own}{ns:List Nat},Dz bs ns->bs.length=ns.length
 | [],[],_=>rfl
 | [],_::_,h=>h.elim
 | _::_,[],h=>h.elim
 | o::bs,n::ns,h=>by simp[xR h.2]
theorem Es {hb:List (Nat×Nat)}{L L':Loc}:∀{ks ns:List Nat}{bs:List Own},L.sub ks=some bs->Dz bs ns->(∀k g t cs,k∈ks->L.get k=some (.box g t cs)->∃cs',L'.get k=some (.box g t cs'))->Xv hb L'->(∀x∈ks.zip ns,x∈hb) ->
  ∃a,L'.sub ks=some a/\Dz a ns/\a.map mg=bs.map mg
 | [],ns,bs,h1,h2,h3,h4,h5=>by
  simp only[Loc.sub,aa1] at h1;subst h1;exact⟨[],rfl,h2,rfl⟩
 | k::ks,ns,bs,h1,h2,h3,h4,h5=>by
  simp only[Loc.sub] at h1;split at h1
  case h_2=>cases h1
  rename_i o l d r;injection h1 with h1
  subst h1;cases ns with
  | nil=>exact h2.elim
  | cons n ns =>
   obtain⟨h2,h2'⟩:=h2;cases o with
   | row=>exact h2.elim
   | box g t cs =>
    obtain⟨a,h,m,f⟩:=Es r h2' (fun j g t cs q e=>h3 j g t cs (by simp[q]) e) h4 (fun x p=>h5 x (by simp[p]));obtain⟨cs',c⟩:=h3 k g t cs (by simp) d;obtain⟨w,v,s,b,u⟩:=h4 k n (h5 _ (by simp));rw[c] at b;injection b with b
    injection b with x1 x2 x3
    subst x1 x2 x3;exact⟨.box g t cs'::a,by simp only[Loc.sub,c,h],⟨Ho (xQ h2) u,m⟩,by simp[f,mg]⟩
theorem Hq:∀{bs:List Own}{ns:List Nat}{l:List (List Value)},Dz bs ns->l.length=ns.length->(List.zipWith qp bs l).length=bs.length/\(∀(i:Nat) g t cs,bs[i]?=some (.box g t cs)->∃cs',(List.zipWith qp bs l)[i]?=some (.box g t cs')) /\
  ∀(i:Nat) cs,l[i]?=some cs->∃g t,(List.zipWith qp bs l)[i]?=some (.box g (t+1) cs)
 | [],[],l,_,h=>by
  have:l=[]:=List.length_eq_zero_iff.1 h;subst this;exact⟨rfl,fun i g t cs e=>by simp at e,fun i cs e=>by simp at e⟩
 | [],n::ns,l,h,_=>h.elim
 | o::bs,[],l,h,_=>h.elim
 | o::bs,n::ns,[],_,h=>by simp at h
 | o::bs,n::ns,c::l,⟨h1,h2⟩,h=>by
  obtain⟨f,j,d⟩:=Hq (l:=l) h2 (by simpa using h);cases o with
  | row=>exact h1.elim
  | box g t cs =>
   refine⟨by simp[f],fun i b a cs' e=>?_,fun i cs' e=>?_⟩
   ·cases i with
    | zero =>
     simp only[abm,aa1] at e;injection e with x1 x2 x3
     subst x1 x2;exact⟨c,rfl⟩
    | succ i=>simpa using j i b a cs' (by simpa using e)
   ·cases i with
    | zero =>
     simp only[abm,aa1] at e;subst e;cases t with
     | zero=>exact h1.elim
     | succ t=>exact⟨g,t,rfl⟩
    | succ i=>simpa using d i cs' (by simpa using e)
theorem vY {a:Act}{ρ:Env}{L:Loc}(he:aC L ρ a):∀ks:List Nat,(ks.map Operand.tmp).map a.eval=ks.map fun k=>conc L (ρ k)
 | []=>rfl
 | k::ks=>by
  simp only[abe,vY he ks];exact vv (·::_) (he.eq k)
theorem RS:∀(l:List PanicEntry),(∀e∈l,e.goexit=false)->l.dropWhile (!·.goexit)=[]
 | [],_=>rfl
 | e::l,h=>by
  rw[List.dropWhile_cons,eu (by simp[h e (by simp)])];exact RS l fun x a=>h x (by simp[a])
theorem CH {P:Program}{f H d r1:Nat}{fn:Func}{c0 rest:Code}{o1 o2:Oper}{A:cJ}{sc0 sc:ax}{rs:List RV}{ks ns:List Nat}{args:List C}{Lin:List TO}{R:List TO->C->Prop}{PS:Value->Prop}{out:Value->List (List Value)}
  (hf:P.funcs[f]?=some fn) (hb:fn.body=some (.seq c0 (.seq (.region r1 #[o1,o2] false) rest))) (hname:(fn.name == "runtime.NumGoroutine")=false) (hnt:fn.ntmps=A.n)
  (ho1:o1.op=.makeFunc (.func H) #[] (ks.map Operand.tmp).toArray) (hd1:o1.dst=some d) (hg1:o1.guard=none) (ho2:o2.op=.defer {callee:=.value (.tmp d),args:=#[],argTypes:=#[]}) (hd2:o2.dst=none) (hg2:o2.guard=none)
  (hl0:low P A c0=some sc0) (hl:low P A rest=some sc) (hres:nI P fn.results.toList=some rs) (hH:oL P H PS ns out) (hd:d<A.n) (hks:aU ks=true) (hkd:(ks.all fun k=>!(fU (ef rest) k)&&!(Nat.beq k d)&&Nat.blt k 1000)=true)
  (hout:∀v,PS v->(out v).length=ns.length) (hlen:Nat.ble args.length A.n=true) (hnm:BJ Lin=true)
  (hcat:∀v,PS v->∃c x,(∀(L:Loc) (ρ:Env),(∀(i:Nat) k cs,ks[i]?=some k->(out v)[i]?=some cs->ρ k=.own k 0/\∃g t,L.get k=some (.box g (t+1) cs))->nY L ρ rs (fun vs=>gD vs=x))/\(∀F L,Rel F L c x)/\∀Mo,BI Lin Mo->R Mo c)
  (h:vE args->(∀o∈Lin,o.Wf)->evalTC P ⟨fun _=>False,[],none⟩ sc0 (fun _ _ _=>False) (fun _ _=>False) (fun M τ=>zl M τ ks ns=true /\
   evalTC P ⟨PS,ks.zip ns,none⟩ sc (fun _ _ _=>False) (fun L ρ=>hU L ρ rs fun vs=>fe Lin L (gZ vs) R) (fun L ρ=>hU L ρ rs fun vs=>fe Lin L (gZ vs) R) M (bH (some d) .any τ)) (cT Lin) (ku 0 args)) :
  CallsT P f args Lin R:=by
 refine⟨fun F Li vs hlL htl ha=>⟨⟨fn,hf,by rw[hb];rfl,hname⟩,gV.aaC,fun w hs=>?_⟩⟩
 suffices hall:∀RR:Ending->World->Prop,(∀v F' Lo w',St F' (inp Lo) w'->Step F (inp Li) w F' (inp Lo) w'->gV Li R F' Lo v->RR (.returned v) w')->Calls P f vs.toArray w RR from
  hall _ fun v F' Lo w' h1 h2 h3=>⟨v,F',Lo,rfl,h1,h2,h3⟩
 intro RR hRR;refine calls_of_wp_defers hf hb ?_;have hwo:∀o∈Lin,o.Wf:=by
  intro o ho;obtain⟨i,hi⟩:=abw.1 ho;have:=htl (1000+i);rw[cG,aJ,eu (by omega),eu (by omega),show 1000+i-1000=i by omega,hi] at this;cases e:Li[i]? with
  | none=>rw[e] at this;exact this.elim
  | some p=>rw[e] at this;exact cZ.wf this
 have h:=h ha.wf hwo;have hla:=ha.len;have hlen:=abq hlen;have key:∀j,∃sv,aN F (inp Li) (ku 0 args j) sv/\conc (inp Li) sv=(vs.toArray++Array.replicate (fn.ntmps-vs.toArray.size) undef).getD j undef/\(∀k off,sv=.own k off->∃g t cs,(inp Li).get k=some (.box g t cs))/\(∀ad i,sv=.el ad i->ad≠none):=by
  intro j;rw[oK];simp only[abr,abB,Nat.sub_zero,abp];cases e:args[j]? with
  | some c =>
   have hlt:j<vs.length:=by rw[hla];exact(aa6.1 e).1
   obtain⟨s1,s2,s3,s4⟩:=rS (ha.at e (aa4 hlt));refine⟨_,s1,?_,s3,fun ad i e=>o5 e (s4 ad i)⟩;rw[s2,Array.getElem?_append_left (by simpa using hlt)];simp[hlt]
  | none =>
   have hge:vs.length<=j:=by rw[hla];exact abT.1 e
   refine⟨.v undef,lF,?_,fun _ _ e=>(by cases e),fun _ _ e=>(by cases e)⟩;rw[Array.getElem?_append_right (by simpa using hge)];simp only[Array.getElem?_replicate,conc];split<;>rfl
 let ρ0:Env:=fun j=>(key j).choose
 have he:aC (inp Li) ρ0 {tmps:=vs.toArray++Array.replicate (fn.ntmps-vs.toArray.size) undef,defers:=[]} :=
  ⟨fun t=>(key t).choose_spec.2.1.symm,fun t k off e=>(key t).choose_spec.2.2.1 k off e,fun t ad j e=>(key t).choose_spec.2.2.2 ad j e⟩
 let G:Nat->Option (Nat×TypeId):=fun k=>match(inp Li).get k with | some (.box g t _)=>some (g,t) | _=>none
 have hG1:∀k g t cs,(inp Li).get k=some (.box g t cs)->G k=some (g,t):=fun k g t cs e=>by simp only[G,e]
 have hkp:Kp G (inp Li):=by
  intro k g t e;simp only[G] at e;split at e
  ·rename_i g' t' cs h;injection e with e
   injection e with e1 e2
   subst e1 e2;exact⟨cs,h⟩
  ·cases e
 have ht:TS G F (inp Li) ρ0 (cT Lin) (ku 0 args):=⟨htl,fun j=>(key j).choose_spec.1,hkp,hs.glob⟩;have hGd:∀k,G k≠none->1000<=k:=by
  intro k hne;simp only[G] at hne;split at hne
  ·rename_i g t cs h;rw[aJ] at h;split at h
   ·assumption
   ·cases h
  ·exact o5 rfl hne
 refine wp_seq (wp_mono (f7 c0 hl0 (fun k _ hne=>.inl (hGd k hne)) hs he ht (by simp[hnt];omega) h) ?_);intro e a1 w1 hq;cases e with
 | exit j=>obtain⟨F',L',ρ',_,_,_,_,_,_,M',τ',_,h⟩:=hq;exact h.elim
 | goto l=>exact hq.elim
 | outgrown=>exact hq.elim
 | ret=>obtain⟨F',L',ρ',_,_,_,_,_,_,M',τ',_,h⟩:=hq;exact h.elim
 | panic c=>obtain⟨v,hch,F',L',_,_,_,_,_,_,hp,_⟩:=hq;exact hp.elim
 | normal =>
 obtain⟨F1,L1,ρ1,hs1,he1,hn1,hd1',hst1,_,M1,τ1,ht1,hcaps,hrest⟩:=hq;obtain⟨bs,hsub,hbx,hptr,hown⟩:=Er hcaps ht1;simp only[Exit.then]
 -- the deferred function is named
 generalize hfv:Value.func (.func H) #[] (bs.map mg).toArray=fv;have hev:(ks.map Operand.tmp).toArray.map a1.eval=(bs.map mg).toArray:=by
  rw[List.map_toArray,vY he1,hptr]
 have he2:=he1.put (L':=L1) (d:=some d) (v:=fv) (x:=.v fv) (fun k e=>by injection e with e;subst e;omega) rfl cK fD (fun k g ty cs e=>⟨cs,e⟩);have ht2:TS G F1 L1 (put (some d) (.v fv) ρ1) M1 (bH (some d) .any τ1):=ht1.put (c:=.any) (sv:=.v fv) trivial (some d);obtain⟨tm,df⟩:=a1;simp only at hd1';subst hd1';have hdt:(tm.setIfInBounds d fv).getD d undef=fv:=by
  have:d<tm.size:=by simpa[hn1] using hd
  simp[abp,this]
 refine wp_seq (wp_region ?_);generalize hd0:({target:=.fn (.func H) (bs.map mg).toArray,args:=#[]}:Deferred)=d0;have hsz:d<tm.size:=by simpa[hn1] using hd
 simp[wpOps,go_sem,ho1,hd1,hg1,ho2,hd2,hg2,Exit.then,Region.wanted,hsz,Instr.makeFunc];have hml:List.map (Act.eval {tmps:=tm,defers:=[]}∘Operand.tmp) ks=bs.map mg:=by
  rw[<-hptr,<-vY he1,ab4]
 rw[hml,hfv,hd0];refine .inl (.inl ?_)
 let G1:Nat->Option (Nat×TypeId):=fun k=>match Nat.ble 1000 k||fU ks k with | true=>(match L1.get k with | some (.box g t _)=>some (g,t) | _=>none) | false=>none
 have hGL:∀k g t cs,(1000<=k\/k∈ks)->L1.get k=some (.box g t cs)->G1 k=some (g,t):=fun k g t cs hk e=>by
  have:(Nat.ble 1000 k||fU ks k)=true:=by
   rw[abH];exact hk.imp (fun h=>by rw[Nat.ble_eq];exact h) di.2
  simp only[G1,this,e]
 have hfz1:uK G1 ⟨PS,ks.zip ns,none⟩ (gA sc):=by
  intro k _ hne;simp only[G1] at hne;split at hne
  ·rename_i hb;rw[abH] at hb;rcases hb with hb | hb
   ·rw[Nat.ble_eq] at hb;exact .inl hb
   ·refine .inr ?_;have hl2:ks.length=ns.length:=by rw[(cP hsub).1.symm];exact xR hbx
    show fU ((ks.zip ns).map (·.1)) k=true;rw[List.map_fst_zip (by omega)];exact hb
  ·exact o5 rfl hne
 have hkp1:Kp G1 L1:=by
  intro k g t e;simp only[G1] at e;split at e
  case h_2=>cases e
  split at e
  ·rename_i g' t' cs h;injection e with e
   injection e with e1 e2
   subst e1 e2;exact⟨cs,h⟩
  ·cases e
 have hGG:∀k g t,G k=some (g,t)->G1 k=some (g,t):=fun k g t e=>let⟨cs,h⟩:=ht1.kp k g t e;hGL k g t cs (.inl (hGd k (by rw[e];simp))) h;have ht3:TS G1 F1 L1 (put (some d) (.v fv) ρ1) M1 (bH (some d) .any τ1):=⟨ht2.tl,ht2.env,hkp1,ht2.glob⟩;have he3:aC L1 (put (some d) (.v fv) ρ1) {tmps:=tm.setIfInBounds d fv,defers:=[d0]}:=⟨he2.eq,he2.own,he2.el⟩;refine wp_mono (f7 rest hl hfz1 hs1 he3 ht3 (by simpa using hn1) hrest) ?_;intro e a' w' hq;have hnd:=dw hks;have hGI:∀k g t cs,(inp Li).get k=some (.box g t cs)->G1 k=some (g,t):=fun k g t cs e=>hGG k g t (hG1 k g t cs e);have back:∀(u:FrameMode) (w:World),u=.returning->Leaves P fn a'.tmps RR [] .returning w->Leaves P fn a'.tmps RR [d0] u w:=by
  rintro u w rfl hlv;rw[<-hd0];refine leaves_cons (f:=H) (args:=(bs.map mg).toArray) (by simp) (hH.inv _ w) ?_;refine(hH.idle bs w hbx).mono ?_;rintro e u' w6 ⟨rfl,rfl,rfl⟩;exact hlv
 have fin:eZ A.n F1 L1 w1 {tmps:=tm.setIfInBounds d fv,defers:=[d0]} (ef rest) (Both G1 (fun L ρ=>hU L ρ rs fun vs=>fe Lin L (gZ vs) R)) a' w'->Leaves P fn a'.tmps RR a'.defers .returning w':=by
  intro hq;have hq':eZ A.n F (inp Li) w {tmps:=tm.setIfInBounds d fv,defers:=[d0]} (ef rest) (Both G1 (fun L ρ=>hU L ρ rs fun vs=>fe Lin L (gZ vs) R)) a' w':=by
   obtain⟨F',L',ρ',g1,g2,g3,g4,g5,g6,g7⟩:=hq;exact⟨F',L',ρ',g1,g2,g3,g4,hst1.trans g5,g6,g7⟩
  obtain⟨k1,v,k2,F',Lo,k3,k4,k5⟩:=BH hres hlL htl hGI hq';rw[k1];exact back _ _ rfl ⟨v,k2,hRR v F' Lo w' k3 k4 k5⟩
 cases e with
 | normal=>exact fin hq
 | ret=>exact fin hq
 | exit j=>obtain⟨F',L',ρ',_,_,_,_,_,_,M',τ',_,h⟩:=hq;exact h.elim
 | goto l=>exact hq.elim
 | outgrown=>exact hq.elim
 | panic ch =>
  obtain⟨v,⟨older,rfl,hold⟩,F',L',g1,g2,g3,g4,g5,kp,hp,hbL,_⟩:=hq;show Leaves P fn a'.tmps RR a'.defers _ w';rw[g4,<-hd0];obtain⟨bs',q1,q2,q3⟩:=Es hsub hbx (fun k g t cs hk e=>kp k g t (hGL k g t cs (.inr hk) e)) hbL (fun x hx=>hx);refine leaves_cons (f:=H) (args:=(bs.map mg).toArray) (by simp) (hH.inv _ w') ?_;rw[<-q3];refine(hH.caught F' bs' v older w' hp q2 (g1.handed q1 hnd)).mono ?_;rintro e u' w6 ⟨rfl,rfl,F6,hs6,hst6⟩;show Leaves P fn a'.tmps RR [] (settle _) w6;have hset:settle (.panicking ({v,recovered:=true}::older))=.returning:=by
   have:older.dropWhile (!·.goexit)=[]:=by
    exact RS older hold
   simp only[settle,this]
  rw[hset];obtain⟨z1,z2,z3⟩:=Hq (l:=out v) q2 (hout v hp);obtain⟨sl,sg⟩:=cP q1;have hkl:ks.length=(List.zipWith qp bs' (out v)).length:=by rw[z1,sl]
  obtain⟨c1,c2⟩:=gF g1 q1 hnd hnd (fun k hk=>.inl hk) hs6 hst6 hkl;generalize hL6:(L'.aas ks).puts ks (List.zipWith qp bs' (out v))=L6 at c1 c2;have hget:∀(i:Nat) k cs,ks[i]?=some k->(out v)[i]?=some cs->∃g t,L6.get k=some (.box g (t+1) cs)/\(∃cs',L'.get k=some (.box g (t+1) cs')):=by
   intro i k cs e1 e2;obtain⟨g,t,e3⟩:=z3 i cs e2;refine⟨g,t,by rw[<-hL6];exact eV hnd hkl e1 e3,?_⟩;have e4:=sg i k e1;have hlt:i<bs'.length:=by rw[<-z1];exact(aa6.1 e3).1
   rw[aa4 hlt] at e4;have e5:(List.zipWith qp bs' (out v))[i]?=some (qp bs'[i] cs):=by
    rw[List.getElem?_zipWith,aa4 hlt,e2]
   rw[e3] at e5;injection e5 with e5
   cases hb:bs'[i] with
   | row=>rw[hb] at e5;cases e5
   | box g' t' cs' =>
    rw[hb] at e5 e4;injection e5 with x1 x2
    subst x1 x2;exact⟨cs',e4⟩
  -- the slots that name the boxes
  let ρ6:Env:=fun j=>match fU ks j with | true=>.own j 0 | false=>.v (a'.tmps.getD j undef)
  have hkd':∀k∈ks,k∉ef rest/\k≠d:=by
   intro k hk;have:=abg.1 hkd k hk;simp only[xo,Bool.not_eq_true'] at this;refine⟨fun hm=>?_,fun e=>?_⟩
   ·rw[di.2 hm] at this;exact o5 this.1.1 (by simp)
   ·subst e;simp at this
  have hslot:∀k∈ks,∃g t cs,L6.get k=some (.box g t cs)/\a'.tmps.getD k undef=.pointer (some ⟨g,0,none⟩):=by
   intro k hk;obtain⟨i,hi⟩:=abw.1 hk;have hlt:i<(out v).length:=by
    have:=(aa6.1 hi).1;have hl2:ks.length=ns.length:=by rw[<-sl];exact xR q2
    rw[hout v hp];omega
   obtain⟨g,t,e1,cs',e2⟩:=hget i k _ hi (aa4 hlt);refine⟨g,t+1,_,e1,?_⟩;obtain⟨y1,y2⟩:=hkd' k hk;rw[g5 k y1];have:=he3.eq k;rw[this,put_eq];simp only[];rw[fo y2,hown k hk];simp only[conc];obtain⟨g0,t0,cs0,e0⟩:=he1.own k k 0 (hown k hk);obtain⟨cs1,e3⟩:=kp k g0 t0 (hGL k g0 t0 cs0 (.inr hk) e0);rw[e2] at e3;injection e3 with e3
   injection e3 with x1 x2 _
   subst x1;rw[e0]
  have he6:aC L6 ρ6 a':=by
   refine⟨fun j=>?_,fun j k off e=>?_,fun j ad i e=>?_⟩
   ·simp only[ρ6];cases hm:fU ks j with
    | false=>rfl
    | true =>
     obtain⟨g,t,cs,e1,e2⟩:=hslot j (di.1 hm);rw[e2];simp only[conc,e1]
   ·simp only[ρ6] at e;cases hm:fU ks j with
    | false=>rw[hm] at e;cases e
    | true =>
     rw[hm] at e;injection e with x1 x2
     subst x1;obtain⟨g,t,cs,e1,_⟩:=hslot j (di.1 hm);exact⟨g,t,cs,e1⟩
   ·simp only[ρ6] at e;cases hm:fU ks j<;>rw[hm] at e<;>cases e
  obtain⟨c,x,hrv,hrel,hlost⟩:=hcat v hp;obtain⟨us,h5,h6⟩:=Eo (K:=fun vs=>gD vs=x) c1 he6 hres (hrv L6 ρ6 fun i k cs e1 e2=>by
   obtain⟨g,t,e3,_⟩:=hget i k cs e1 e2;refine⟨?_,g,t,e3⟩;simp only[ρ6,di.2 (aa8 e1)])
  have hst:Step F (inp Li) w F6 L6 w6:=(hst1.trans g2).trans c2;obtain⟨Lo,p1,p2,p3,p4⟩:=tE c1 hst (fun i g t cs e=>by
   have e0:(inp Li).get (1000+i)=some (.box g t cs):=by rw[aJ,eu (by omega),show 1000+i-1000=i by omega];exact e
   obtain⟨cs1,e1⟩:=kp (1000+i) g t (hGI _ g t cs e0);refine⟨cs1,?_⟩;rw[<-hL6];have hni:1000+i∉ks:=by
    intro hm;have:=abg.1 hkd _ hm;simp only[xo] at this;have:=this.2;rw[Nat.blt_eq] at this;omega
   rcases dB ks (List.zipWith qp bs' (out v)) (L'.aas ks) (1000+i) hnd hkl with⟨q1,q2⟩ | ⟨i',q1,q2,q3⟩
   ·rw[q1,fH,fo hni];exact e1
   ·exact o5 (aa8 q1) hni)
  obtain⟨Mo,Lo',l1,l2,l3,l4,l5,l6⟩:=Tl hnm hlL htl p1 p2 p3 p4;refine⟨_,h5,hRR _ F6 Lo' w6 l1 l2 ⟨Mo,c,l4,l5,?_,l6,hlost Mo l3⟩⟩;rw[h6];exact hrel _ _
def tmpsOf:List Operand->Option (List Nat)
 | []=>some []
 | .tmp k::l=>match tmpsOf l with | some ks=>some (k::ks) | none=>none
 | _::_=>none
theorem BK:∀{l:List Operand}{ks:List Nat},tmpsOf l=some ks->l=ks.map Operand.tmp
 | [],ks,h=>by simp only[tmpsOf,aa1] at h;subst h;rfl
 | o::l,ks,h=>by
  cases o<;>simp only[tmpsOf,reduceCtorEq] at h;split at h
  case h_2=>cases h
  rename_i a e;injection h with h
  subst h;rw[BK e];rfl
def CI (op:Op) (d:Nat):Bool :=
 match op with
 | .defer c=>match c.callee,c.args.toList,c.argTypes.toList with
  | .value (.tmp a),[],[]=>Nat.beq d a
  | _,_,_=>false
 | _=>false
theorem Gh {op:Op}{d:Nat}(h:CI op d=true):op=.defer {callee:=.value (.tmp d),args:=#[],argTypes:=#[]}:=by
 unfold CI at h;split at h
 case h_2=>cases h
 rename_i c;split at h
 case h_2=>cases h
 rename_i k h1 h2 h3;have:=aa5 h;subst this;obtain⟨j,f,a⟩:=c;simp only at h1 h2 h3;subst h1;have b:f=#[]:=by apply Array.ext';exact h2
 have e:a=#[]:=by apply Array.ext';exact h3
 rw[b,e]
def CJ (P:Program) (A:cJ) (fn:Func):Option (ax×ax×Nat×List Nat×Nat×List RV) :=
 match fn.body with
 | some (.seq c0 (.seq (.region _ ⟨[o1,o2]⟩ false) rest))=>match o1.op,o1.dst,o1.guard with
  | .makeFunc (.func H) ⟨[]⟩ ca,some d,none=>match CI o2.op d,o2.dst,o2.guard,tmpsOf ca.toList with
   | true,none,none,some ks=>match low P A c0,low P A rest,nI P fn.results.toList with
    | some sc0,some sc,some rs=>match fn.name == "runtime.NumGoroutine",Nat.beq fn.ntmps A.n&&Nat.blt d A.n&&aU ks,ks.all fun k=>!(fU (ef rest) k)&&!(Nat.beq k d)&&Nat.blt k 1000 with
     | false,true,true=>some (sc0,sc,H,ks,d,rs)
     | _,_,_=>none
    | _,_,_=>none
   | _,_,_,_=>none
  | _,_,_=>none
 | _=>none
theorem gX {P:Program}{f H d:Nat}{fn:Func}{A:cJ}{m sc:ax}{rs:List RV}{ks ns:List Nat}{args:List C}{Lin:List TO}{R:List TO->C->Prop}{PS:Value->Prop}{out:Value->List (List Value)}
  (hf:P.funcs[f]?=some fn) (a:CJ P A fn=some (m,sc,H,ks,d,rs)) (hH:oL P H PS ns out)
  (e:∀v,PS v->(out v).length=ns.length) (p:Nat.ble args.length A.n=true) (s:BJ Lin=true)
  (j:∀v,PS v->∃c x,(∀(L:Loc) (ρ:Env),(∀(i:Nat) k cs,ks[i]?=some k->(out v)[i]?=some cs->ρ k=.own k 0/\∃g t,L.get k=some (.box g (t+1) cs))->nY L ρ rs (fun q=>gD q=x))/\(∀F L,Rel F L c x)/\∀Mo,BI Lin Mo->R Mo c)
  (h:vE args->(∀o∈Lin,o.Wf)->evalTC P ⟨fun _=>False,[],none⟩ m (fun _ _ _=>False) (fun _ _=>False) (fun M τ=>zl M τ ks ns=true /\
   evalTC P ⟨PS,ks.zip ns,none⟩ sc (fun _ _ _=>False) (fun L ρ=>hU L ρ rs fun q=>fe Lin L (gZ q) R) (fun L ρ=>hU L ρ rs fun q=>fe Lin L (gZ q) R) M (bH (some d) .any τ)) (cT Lin) (ku 0 args)) :
  CallsT P f args Lin R:=by
 unfold CJ at a;split at a
 case h_2=>cases a
 rename_i c0 r o1 o2 ac hb;split at a
 case h_2=>cases a
 rename_i H' ca d' e1 e2 e3;split at a
 case h_2=>cases a
 rename_i ab e4 e5 e6 e7;split at a
 case h_2=>cases a
 rename_i ae ar am e8 e9 aa;split at a
 case h_2=>cases a
 rename_i w b u;simp only[aa1,Prod.mk.injEq] at a;obtain⟨rfl,rfl,rfl,rfl,rfl,rfl⟩:=a;simp only[xo] at b;obtain⟨⟨b,l⟩,z⟩:=b;have y:ca=(ab.map Operand.tmp).toArray:=by
  have:=BK e7;rw[<-this]
 rw[y] at e1;rw[Nat.blt_eq] at l;exact CH hf hb w (aa5 b) e1 e2 e3 (Gh e4) e5 e6 e8 e9 aa hH l z u e p s j h
end Go.Fr.T
namespace Go.Fr
open Go Go.RowKit
section
variable {P:Program}{Q:Exit->Act->World->Prop}{K:dQ}
theorem noPan {n:Nat}{F:aA}{L:Loc}{w:World}{a:Act}{asg:List Nat}{E:Nat->dQ}{R N:dQ}{c} {a':Act}{w':World}(h:QQ n F L w a asg (fun _ _ _=>False) E R N (.panic c) a' w'):False:=by
 obtain⟨v,_,F',L',_,_,_,_,_,h⟩:=h;exact h
theorem AG {A:cJ}{r:Nat}{c:Array Oper}:∀(is:List Nat) {ss:List ak}{F:aA}{L:Loc}{ρ:Env}{a:Act}{w:World},qE P A r c is=some ss->St F L w->aC L ρ a->a.tmps.size=A.n ->
  aW P ss F L ρ K->(∀a' w',eZ A.n F L w a (dstsOf c is) K a' w'->Q .normal a' w')->wpOps P c Q is a w:=by
 intro is
 induction is with
 | nil =>
  intro ss F L ρ a w hl hs he hn l hQ;simp only[qE,aa1] at hl;subst hl;exact hQ a w ⟨F,L,ρ,hs,he,hn,rfl,Step.refl _ _ _,fun _ _=>rfl,l⟩
 | cons i is ih =>
  intro ss F L ρ a w hl hs he hn l hQ;simp only[qE] at hl;split at hl
  case h_1=>cases hl
  rename_i o hi;split at hl
  case h_2=>cases hl
  rename_i g s u hg cf ao ac;injection hl with hl
  subst hl
  -- the t
  have t:∀(ks:List Nat) {F:aA}{L:Loc}{ρ:Env},St F L w->aC L ρ a->aW P (ks.map ak.frz++nQ (wG A.pan r i) o.dst s g::u) F L ρ K ->
    ∃F' L' ρ',St F' L' w/\aC L' ρ' a/\Step F L w F' L' w/\aW P (nQ (wG A.pan r i) o.dst s g::u) F' L' ρ' K:=by
   intro ks
   induction ks with
   | nil=>intro F L ρ hs he h;exact⟨F,L,ρ,hs,he,Step.refl _ _ _,h⟩
   | cons k ks bi =>
    intro F L ρ hs he h;simp only[abe,abj,aW] at h;split at h
    ·rename_i g' t' cs' hk;obtain⟨F1,bl,bs,z,q,m⟩:=sZ hs he hk;obtain⟨F2,L2,ba,bb,az,ag,h2⟩:=bi z q (h F1 bl bs);exact⟨F2,L2,ba,bb,az,m.trans ag,h2⟩
    ·obtain⟨F1,L1,z,q,m,h1⟩:=rF hs he h;obtain⟨F2,L2,ba,bb,az,ag,h2⟩:=bi z q h1;exact⟨F2,L2,ba,bb,az,m.trans ag,h2⟩
  obtain⟨F1,L1,be,z,q,m,l⟩:=t _ hs he l
  clear t
  have ca:wG A.pan r i=false:=by
   cases hb:wG A.pan r i with
   | false=>rfl
   | true=>rw[hb] at l;simp only[nQ,aW] at l
  rw[ca] at l;simp only[nQ] at l
  clear he
  have he:=q;have hd:∀k,o.dst=some k->k<a.tmps.size:=by
   intro k hk;rw[hk] at ao;rw[hn];have h2:Nat.blt k A.n=true:=ao;simpa using h2
  have aw:dstsOf c (i::is)=match o.dst with | some d=>d::dstsOf c is | none=>dstsOf c is:=by
   simp only[dstsOf,hi,Option.bind_some];cases o.dst<;>rfl
  have ab:∀j,j∉dstsOf c (i::is)->o.dst≠some j/\j∉dstsOf c is:=by
   intro j hj;rw[aw] at hj;cases ho:o.dst with
   | none=>rw[ho] at hj;exact⟨by simp,hj⟩
   | some d =>
    rw[ho] at hj;simp only[abd,not_or] at hj;exact⟨by simp;exact fun e=>hj.1 e.symm,hj.2⟩
  have ad:evalOp P s o.dst F1 L1 be (fun F' L' ρ'=>aW P u F' L' ρ' K)->o.wp P a w (wpOps P c Q is) Q:=by
   intro l;have:=fV (Q:=Q) z q hd cf l;refine Oper.wp_mono ?_ (qF (asg:=[]) this);rintro a' w' ⟨⟨F',L',ρ',g1,g2,g3,g4,g5,g6⟩,cb⟩;refine ih ac g1 g2 (by rw[g3,hn]) g6 ?_;rintro aE av ⟨F'',L'',aa,k1,k2,k3,k4,k5,k6,k7⟩;refine hQ aE av ⟨F'',L'',aa,k1,k2,k3,k4.trans g4,(m.trans g5).trans k5,fun j hj=>?_,k7⟩;obtain⟨n1,n2⟩:=ab j hj;rw[k6 j n2,cb j n1]
  have skip:aW P u F1 L1 (put o.dst (.v undef) be) K->wpOps P c Q is (a.put o.dst undef) w:=by
   intro l;refine ih ac z (q.put hd (v:=undef) (x:=.v undef) rfl cK fD (uc L1)) (by rw[jV,hn]) l ?_;rintro aE av ⟨F'',L'',aa,k1,k2,k3,k4,k5,k6,k7⟩;refine hQ aE av ⟨F'',L'',aa,k1,k2,k3,k4.trans (gT _ _ _),m.trans k5,fun j hj=>?_,k7⟩;obtain⟨n1,n2⟩:=ab j hj;rw[k6 j n2,kK n1]
  simp only[wpOps,hi];cases al:o.guard with
  | none =>
   rw[al] at hg;simp only[iJ,aa1] at hg;subst hg;simp only[aW] at l;rw[eu (by simp[Region.wanted,al])];exact .inl (ad l)
  | some p =>
   obtain⟨j,y⟩:=p;rw[al] at hg;simp only[iJ] at hg;split at hg
   case h_2=>cases hg
   rename_i d bd;injection hg with hg
   subst hg;simp only[aW] at l;split at l
   ·rename_i b hb;have f:=q.eq d;rw[hb] at f;have hy:yielded c a.tmps j=some b:=by
     simp only[yielded,bd,Option.bind_some,rG f]
    have hw:Region.wanted o (yielded c a.tmps)=(b == y):=by
     simp only[Region.wanted,al,hy];cases b<;>cases y<;>rfl
    rw[hw];cases b<;>simp only[Ap] at l
    ·rw[lg hb] at l;cases y
     ·exact .inl (ad l)
     ·exact skip l
    ·rw[lg hb] at l;cases y
     ·exact skip l
     ·exact .inl (ad l)
   ·rename_i vs hb;have f:=q.eq d;rw[hb] at f;have hy:yielded c a.tmps j=none:=by
     simp only[yielded,bd,Option.bind_some];rw[abp] at f;cases e:a.tmps[d]? with
     | none=>rfl
     | some v=>rw[e] at f;simp only[Option.getD_some,conc] at f;rw[f]
    have hw:Region.wanted o (yielded c a.tmps)=false:=by
     simp only[Region.wanted,al,hy];rfl
    rw[hw];exact skip l
   ·exact l.elim
theorem CK {a:Act}{w:World}{d:List ak}{K:dQ}:∀(ks:List Nat) {F:aA}{L:Loc}{ρ:Env},St F L w->aC L ρ a->aW P (ks.map ak.frz++d) F L ρ K ->
  ∃F' L' ρ',St F' L' w/\aC L' ρ' a/\Step F L w F' L' w/\aW P d F' L' ρ' K:=by
 intro ks
 induction ks with
 | nil=>intro F L ρ o he h;exact⟨F,L,ρ,o,he,Step.refl _ _ _,h⟩
 | cons k ks n =>
  intro F L ρ o he h;simp only[abe,abj,aW] at h;split at h
  ·rename_i t s cs' r;obtain⟨F1,p,q,l,e,b⟩:=sZ o he r;obtain⟨F2,L2,f,m,j,c,h2⟩:=n l e (h F1 p q);exact⟨F2,L2,f,m,j,b.trans c,h2⟩
  ·obtain⟨F1,L1,l,e,b,h1⟩:=rF o he h;obtain⟨F2,L2,f,m,j,c,h2⟩:=n l e h1;exact⟨F2,L2,f,m,j,b.trans c,h2⟩
theorem Gi {ss:List ak}{E:Nat->dQ}{R N:dQ}{F:aA}{L:Loc}{ρ:Env}{a:Act}{w:World}:∀(ks:List Nat),St F L w->aC L ρ a->jH P (FQ ks (.regD ss)) E R N F L ρ ->
  ∃F' L' ρ',St F' L' w/\aC L' ρ' a/\Step F L w F' L' w/\aW P ss F' L' ρ' N
 | [],c,he,h=>⟨F,L,ρ,c,he,Step.refl _ _ _,by simpa only[FQ,jH] using h⟩
 | k::l,c,he,h=>by
  simp only[FQ,jH] at h;have d:aW P ((k::l).map ak.frz++[]) F L ρ (fun F L ρ=>aW P ss F L ρ N):=by simpa only[abe,abG] using h
  obtain⟨F1,L1,b,h1,h2,h3,h4⟩:=CK (k::l) c he d;simp only[aW] at h4;exact⟨F1,L1,b,h1,h2,h3,h4⟩
theorem qU {A:cJ}:∀(c:Code) {s:ax},low P A c=some s->∀{E:Nat->dQ}{R N:dQ}{F:aA}{L:Loc}{ρ:Env}{a:Act}{w:World},St F L w->aC L ρ a->a.tmps.size=A.n ->
  jH P s E R N F L ρ->c.wp P (QQ A.n F L w a (ef c) (fun _ _ _=>False) E R N) a w:=by
 intro c
 induction c with
 | skip =>
  intro s b E R N F L ρ a w p he o m;simp only[low,aa1] at b;subst b;exact wp_skip ⟨F,L,ρ,p,he,o,rfl,Step.refl _ _ _,fun _ _=>rfl,m⟩
 | label l =>
  intro s b E R N F L ρ a w p he o m;simp only[low,aa1] at b;subst b;exact wp_label ⟨F,L,ρ,p,he,o,rfl,Step.refl _ _ _,fun _ _=>rfl,m⟩
 | exit id =>
  intro s b E R N F L ρ a w p he o m;simp only[low,aa1] at b;subst b;exact wp_exit ⟨F,L,ρ,p,he,o,rfl,Step.refl _ _ _,fun _ _=>rfl,m⟩
 | ret =>
  intro s b E R N F L ρ a w p he o m;simp only[low,aa1] at b;subst b;exact wp_ret ⟨F,L,ρ,p,he,o,rfl,Step.refl _ _ _,fun _ _=>rfl,m⟩
 | region r cx bb =>
  intro s b E R N F L ρ a w p he o m;cases bb with
  | false =>
   simp only[low] at b;split at b
   case h_2=>cases b
   rename_i ss ca;injection b with b;subst b
   simp only[jH] at m;exact wp_region (AG _ ca p he o m fun a' w' h=>h)
  | true =>
   simp only[low] at b;split at b
   case h_2=>cases b
   rename_i is cl ss h1 h2;split at b
   case h_2 =>
    split at b
    case h_2=>cases b
    injection b with b;subst b
    simp only[jH] at m
   rename_i h0;split at b
   case h_2=>cases b
   rename_i h3;injection b with b;subst b
   obtain⟨F1,L1,z,aw,an,q,m⟩:=Gi _ p he m;have h4:DR A.ord r=is:=by simp only[DR,h1]
   rw[h4] at h2;exact yx h2 h3 aw an o m fun a' w' h=>eZ.after (asg1:=[]) q rfl (fun _ _=>rfl) h (fun _ h=>o5 h List.not_mem_nil) (fun _ h=>h)
 | seq x y ae ag =>
  intro s b E R N F L ρ a w p he o m;simp only[low] at b;split at b
  case h_2=>cases b
  rename_i h1 h2;injection b with b;subst b
  simp only[jH] at m;refine wp_seq (wp_mono (ae h1 p he o m) ?_);intro e a1 w1 d;cases e with
  | normal =>
   obtain⟨F1,L1,z,g1,g2,g3,g4,g5,g6,g7⟩:=d;refine wp_mono (ag h2 g1 g2 g3 g7) ?_;intro e2 a2 w2 ar;cases e2<;>first
    | exact eZ.after g5 g4 g6 ar (fun j h=>aa9.2 (.inl h)) (fun j h=>aa9.2 (.inr h))
    | exact ar
    | exact(noPan ar).elim
  | exit id=>exact d.mono fun j h=>aa9.2 (.inl h)
  | ret=>exact d.mono fun j h=>aa9.2 (.inl h)
  | goto l=>exact d
  | panic c=>exact(noPan d).elim
  | outgrown=>exact d
 | cond c x y ae ag =>
  intro s b E R N F L ρ a w p he o m;simp only[low] at b;split at b
  case h_2=>cases b
  rename_i h0 h1 h2;injection b with b;subst b
  simp only[jH] at m;split at m
  case h_2=>exact m.elim
  rename_i t ht;have hc:a.eval c=.bool t:=by rw[aI h0 he,dh ht]
  refine wp_cond hc ?_;cases t
  ·simp only[Ap] at m;refine wp_mono (ag h2 p he o m) ?_;intro e a1 w1 d;cases e<;>first
    | exact d.mono fun j h=>aa9.2 (.inr h)
    | exact(noPan d).elim
    | exact d
  ·simp only[Ap] at m;refine wp_mono (ae h1 p he o m) ?_;intro e a1 w1 d;cases e<;>first
    | exact d.mono fun j h=>aa9.2 (.inl h)
    | exact(noPan d).elim
    | exact d
 | block id x ih =>
  intro s b E R N F L ρ a w p he o m;simp only[low] at b;split at b
  case h_2=>cases b
  rename_i h1;injection b with b;subst b
  simp only[jH] at m;refine wp_block (wp_mono (ih h1 p he o m) ?_);intro e a1 w1 d;cases e with
  | exit j =>
   simp only[Exit.inBlock];simp only[QQ] at d
   by_cases hj:j=id
   ·subst hj;have hb:Nat.beq j j=true:=by simp
    rw[hb] at d;rw[eu rfl];exact d
   ·have hb:Nat.beq j id=false:=by
     cases h:Nat.beq j id with
     | true=>exact o5 (aa5 h) hj
     | false=>rfl
    rw[hb] at d;rw[fo hj];exact d
  | normal=>exact d
  | ret=>exact d
  | goto l=>exact d
  | panic c=>exact(noPan d).elim
  | outgrown=>exact d
 | loop x ih =>
  intro s b E R N F L ρ a w p he o m;simp only[low] at b;split at b
  case h_2=>cases b
  rename_i sx h1;injection b with b;subst b
  simp only[jH] at m;obtain⟨σ,x0,Inv,ls,lv,Lf,μ,i0,i1,i2,i3,i4⟩:=m
  -- the frame at a loop's ab
  have ab:∀(y:σ) (F1:aA) (L1:Loc) (z:Env) (a1:Act) (w1:World),(∀t,a1.tmps.getD t undef=conc L1 (z t))->(∀j,j∉ef x->a1.tmps.getD j undef=a.tmps.getD j undef)->holds ls ((lv y).map .v) z ->
    aC (Lf y) (puts ls ((lv y).map .v) (qy (ef x) (fun j=>a1.tmps.getD j undef) ρ)) a1:=by
   intro y F1 L1 z a1 w1 bp bv hh;have be:∀j k off,qy (ef x) (fun j=>a1.tmps.getD j undef) ρ j=.own k off->j∉ef x/\ρ j=.own k off:=by
    intro j k off e;simp only[qy] at e;split at e
    ·cases e
    ·rename_i hm;exact⟨fun h=>(by rw[di.2 h] at hm;cases hm),e⟩
   have bs:∀j ad i,qy (ef x) (fun j=>a1.tmps.getD j undef) ρ j=.el ad i->ρ j=.el ad i:=by
    intro j ad i e;simp only[qy] at e;split at e
    ·cases e
    ·exact e
   refine⟨fun j=>?_,fun j k off e=>?_,fun j ad i e=>?_⟩
   ·rcases yh ls (lv y) z (qy (ef x) (fun j=>a1.tmps.getD j undef) ρ) bp hh j with⟨v,h2,h3⟩ | h2
    ·rw[h2,h3];rfl
    ·rw[h2];simp only[qy];split
     ·rfl
     ·rename_i hm;have hj:j∉ef x:=fun h=>by rw[di.2 h] at hm;cases hm
      rw[bv j hj,he.eq j];cases e:ρ j with
      | v u=>rfl
      | el u i=>rfl
      | own k off =>
       obtain⟨g,ty,cs,hg⟩:=he.own j k off e;obtain⟨cs',ao⟩:=rH (i3 y) hg;simp only[conc,hg,ao]
   ·rcases pB ls (lv y) (qy (ef x) (fun j=>a1.tmps.getD j undef) ρ) j with h2 | ⟨v,h2⟩
    ·rw[h2] at e;obtain⟨_,e'⟩:=be j k off e;obtain⟨g,ty,cs,hg⟩:=he.own j k off e';obtain⟨cs',ao⟩:=rH (i3 y) hg;exact⟨g,ty,cs',ao⟩
    ·rw[h2] at e;cases e
   ·rcases pB ls (lv y) (qy (ef x) (fun j=>a1.tmps.getD j undef) ρ) j with h2 | ⟨v,h2⟩
    ·rw[h2] at e;exact he.el j ad i (bs j ad i e)
    ·rw[h2] at e;cases e
  refine vG (fun n a1 w1=>∃(y:σ) (F1:aA),n=μ y/\F.le F1/\Inv y F1/\St F1 (Lf y) w1/\a1.tmps.size=A.n/\a1.defers=a.defers/\Step F L w F1 (Lf y) w1/\(∀j,j∉ef x->a1.tmps.getD j undef=a.tmps.getD j undef) /\
   aC (Lf y) (puts ls ((lv y).map .v) (qy (ef x) (fun j=>a1.tmps.getD j undef) ρ)) a1) ?_ ?_
  ·exact⟨_,x0,F,rfl,aA.le_refl F,i0,p.gives i2,o,rfl,s5 i2,fun _ _=>rfl,ab x0 F L ρ a w he.eq (fun _ _=>rfl) i1⟩
  ·rintro n a1 w1 ⟨y,F1,rfl,bc,bd,aw,bu,av,q,aa,an⟩;refine wp_mono (ih h1 aw an bu (i4 y F1 _ bc bd)) ?_;intro e a2 w2 d;cases e with
   | normal =>
    obtain⟨F2,L2,ce,g1,g2,g3,g4,g5,g6,⟨y',k1,k2,k3,k4⟩⟩:=d;have am:∀j,j∉ef x->a2.tmps.getD j undef=a.tmps.getD j undef:=fun j hj=>by rw[g6 j hj,aa j hj]
    exact⟨μ y',k4,y',F2,rfl,aA.le_trans bc g5.le,k1,g1.gives k3,g3,g4.trans av,(q.trans g5).trans (s5 k3),am,ab y' F2 L2 ce a2 w2 g2.eq am k2⟩
   | exit j=>exact eZ.after q av aa d (fun j h=>h) (fun j h=>h)
   | ret=>exact eZ.after q av aa d (fun j h=>h) (fun j h=>h)
   | goto l=>exact d
   | panic c=>exact(noPan d).elim
   | outgrown=>exact d
 | rangeFunc f ps x y ae ag=>intro s b;simp only[low] at b;cases b
 | scope x ih =>
  intro s b E R N F L ρ a w p he o m;simp only[low] at b;refine wp_scope_straight (wp_mono (ih b p he o m) ?_);intro e a1 w1 d;cases e<;>exact d
 | goto l=>intro s b;simp only[low] at b;cases b
 | refuse cw=>intro s b;simp only[low] at b;cases b
end
end Go.Fr
namespace Go.Fr.T
open Go Go.RowKit Go.Fr
theorem Ld:∀{bs:List Own}{ns:List Nat}{i:Nat}{o:Own},Dz bs ns->bs[i]?=some o->∃g t cs,o=.box g t cs
 | [],ns,i,o,h,e=>by simp at e
 | b::bs,[],i,o,h,e=>h.elim
 | b::bs,n::ns,i,o,h,e=>by
  cases i with
  | zero =>
   simp only[abm,aa1] at e;subst e;cases b with
   | row=>exact h.1.elim
   | box g t cs=>exact⟨g,t,cs,rfl⟩
  | succ i=>exact Ld h.2 (by simpa using e)
def Jk (n:Nat):Env:=fun j=>match Nat.blt j n with | true=>.own (1000+j) 0 | false=>.v undef
theorem O7 {bs:List Own}{ns:List Nat}{m:Nat}(h:Dz bs ns):aC (inp bs) (Jk bs.length) {tmps:=(bs.map mg).toArray++Array.replicate m undef,defers:=[]}:=by
 have d:∀j,j<bs.length->∃g t cs,bs[j]?=some (.box g t cs):=fun j c=>by
  obtain⟨g,t,cs,e⟩:=Ld h (aa4 c);exact⟨g,t,cs,by rw[aa4 c,e]⟩
 have hi:∀j,(inp bs).get (1000+j)=bs[j]?:=fun j=>by rw[aJ,eu (by omega),show 1000+j-1000=j by omega]
 refine⟨fun j=>?_,fun j k off e=>?_,fun j f i e=>?_⟩
 ·simp only[Jk,abp];cases hb:Nat.blt j bs.length with
  | true =>
   have a:j<bs.length:=by simpa using hb
   obtain⟨g,t,cs,e⟩:=d j a;rw[Array.getElem?_append_left (by simpa using a)];simp only[conc,hi,e,List.getElem?_toArray,abk,abI,Option.getD_some,mg]
  | false =>
   have b:¬j<bs.length:=fun h=>by rw[(Nat.blt_eq ..).mpr h] at hb;cases hb
   rw[Array.getElem?_append_right (by simpa using b)];simp only[Array.getElem?_replicate,conc];split<;>rfl
 ·simp only[Jk] at e;split at e
  ·rename_i hb;have a:j<bs.length:=by simpa using hb
   injection e with e1 e2
   subst e1;obtain⟨g,t,cs,e⟩:=d j a;exact⟨g,t,cs,by rw[hi,e]⟩
  ·cases e
 ·simp only[Jk] at e;split at e<;>cases e
theorem Le {P:Program}{H d r0:Nat}{fn:Func}{o:Oper}{rest:Code}{A:cJ}{sc:ax}{PS:Value->Prop}{ns:List Nat}{out:Value->List (List Value)}
  (hf:P.funcs[H]?=some fn) (hb:fn.body=some (.seq (.region r0 #[o] false) rest)) (hname:(fn.name == "runtime.NumGoroutine")=false) (ho:o.op=.call {callee:=.builtin .recover,args:=#[],argTypes:=#[]}) (hd:o.dst=some d) (hg:o.guard=none)
  (hnt:fn.ntmps=A.n) (hres:fn.results=#[]) (hl:low P A rest=some sc) (hdn:d<A.n) (hns:ns.length<=A.n)
  (hidle:∀(bs:List Own) (w:World),Dz bs ns->CallsD P H (bs.map mg).toArray .returning w fun e u' w'=>e=.returned (.tuple #[])/\u'=.returning/\w'=w)
  (hcat:∀(F:aA) (bs:List Own) (v:Value),PS v->Dz bs ns->jH P sc (fun _ _ _ _=>False) (fun _ L' _=>L'.sub (List.range' 1000 bs.length)=some (List.zipWith qp bs (out v))) (fun _ L' _=>L'.sub (List.range' 1000 bs.length)=some (List.zipWith qp bs (out v))) F (inp bs) (put (some d) (.v v) (Jk bs.length))) :
  oL P H PS ns out:=by
 refine⟨fun cap w=>?_,hidle,fun F bs v older w hv hbx hs=>?_⟩
 ·simp[invoke];rw[iS ⟨fn,hf,by rw[hb];rfl,hname⟩]
 refine callsD_of_wpS hf hb fun c₀ cs hu=>?_;have hlen:=xR hbx;have he0:=O7 (m:=fn.ntmps-(bs.map mg).toArray.size) hbx;generalize htm:(bs.map mg).toArray++Array.replicate (fn.ntmps-(bs.map mg).toArray.size) undef=tm at he0 ⊢;have hsz:tm.size=A.n:=by
  rw[<-htm,<-hnt];simp;omega
 refine wpS_seq (wpS_region ?_);simp[wpOpsS,go_sem,recoverD,hu,ho,hd,hg,Region.wanted,Exit.thenS,hsz,hdn];have he1:=he0.put (L':=inp bs) (d:=some d) (v:=v) (x:=.v v) (fun k e=>by injection e with e;subst e;simpa[hsz] using hdn) rfl cK fD (fun k g ty cs e=>⟨cs,e⟩);refine wpS_of_wp (wp_mono (qU rest hl hs ⟨he1.eq,he1.own,he1.el⟩ (by simpa using hsz) (hcat F bs v hv hbx)) ?_);have fin:∀(a':Act) (w':World),eZ A.n F (inp bs) w {tmps:=tm.setIfInBounds d v,defers:=[]} (ef rest) (fun _ L' _=>L'.sub (List.range' 1000 bs.length)=some (List.zipWith qp bs (out v))) a' w' ->
   a'.defers=[]/\∃u',({c₀ with mode:=FrameMode.panicking ({v,recovered:=true}::older)}::cs:List Frame)={c₀ with mode:=u'}::cs/\∃x,(results fn a'.tmps).run P w'=.ok x w' /\
    ((Ending.returned x=.returned (.tuple #[])/\u'=.panicking ({v,recovered:=true}::older))/\∃F',St F' (inp (List.zipWith qp bs (out v))) w'/\Step F (inp bs) w F' (inp (List.zipWith qp bs (out v))) w'):=by
  rintro a' w' ⟨F',L',ρ',g1,g2,g3,g4,g5,g6,k1⟩;obtain⟨e1,e2⟩:=cP k1;refine⟨g4,_,rfl,.tuple #[],by simp[results,hres],⟨rfl,rfl⟩,F',g1.handed k1 List.nodup_range',?_⟩;refine⟨g5.le,g5.os,g5.tape,g5.output,g5.size,g5.same,g5.frz,fun b hb=>g5.own b ?_⟩;obtain⟨j,p,e,hb⟩:=hb;rw[aJ] at e;split at e
  case isFalse=>cases e
  have hlt:j-1000<(List.zipWith qp bs (out v)).length:=(aa6.1 e).1;have hk:(List.range' 1000 bs.length)[j-1000]?=some ((List.range' 1000 bs.length)[j-1000]'(by omega)):=aa4 (by omega);exact⟨_,p,by rw[e2 _ _ hk];exact e,hb⟩
 intro e a' w' hq;cases e with
 | normal =>
  obtain⟨k1,u',k2,x,k3,⟨k4,k5⟩,k6⟩:=fin a' w' hq;exact⟨k1,u',k2,x,k3,k4,k5,k6⟩
 | ret =>
  obtain⟨k1,u',k2,x,k3,⟨k4,k5⟩,k6⟩:=fin a' w' hq;exact⟨k1,u',k2,x,k3,k4,k5,k6⟩
 | exit j=>obtain⟨F',L',ρ',_,_,_,_,_,_,h⟩:=hq;exact h.elim
 | goto l=>exact hq.elim
 | outgrown=>exact hq.elim
 | panic ch=>obtain⟨v,hch,hp⟩:=hq;obtain⟨F',L',_,_,_,_,_,hp⟩:=hp;exact hp.elim
def RT:Op->Bool
 | .call {callee:=.builtin .recover,args:=⟨[]⟩,argTypes:=⟨[]⟩}=>true
 | _=>false
def CM (P:Program) (A:cJ) (fn:Func):Option (ax×Nat) :=
 match fn.body with
 | some (.seq (.region _ ⟨[o]⟩ false) rest)=>match RT o.op,o.dst,o.guard,low P A rest,fn.results with
  | true,some d,none,some sc,⟨[]⟩=>match fn.name == "runtime.NumGoroutine",Nat.beq fn.ntmps A.n&&Nat.blt d A.n with
   | false,true=>some (sc,d)
   | _,_=>none
  | _,_,_,_,_=>none
 | _=>none
theorem wR {P:Program}{H d:Nat}{fn:Func}{A:cJ}{k:ax}{PS:Value->Prop}{ns:List Nat}{out:Value->List (List Value)}(hf:P.funcs[H]?=some fn) (a:CM P A fn=some (k,d)) (h:Nat.ble ns.length A.n=true)
  (b:∀(bs:List Own) (w:World),Dz bs ns->CallsD P H (bs.map mg).toArray .returning w fun e p w'=>e=.returned (.tuple #[])/\p=.returning/\w'=w)
  (c:∀(F:aA) (bs:List Own) (v:Value),PS v->Dz bs ns->jH P k (fun _ _ _ _=>False) (fun _ L' _=>L'.sub (List.range' 1000 bs.length)=some (List.zipWith qp bs (out v))) (fun _ L' _=>L'.sub (List.range' 1000 bs.length)=some (List.zipWith qp bs (out v))) F (inp bs) (put (some d) (.v v) (Jk bs.length))) :
  oL P H PS ns out:=by
 unfold CM at a;split at a
 case h_2=>cases a
 rename_i r o j hb;split at a
 case h_2=>cases a
 rename_i s l h1 h2 h3 h4 h5;split at a
 case h_2=>cases a
 rename_i h6 f;simp only[aa1,Prod.mk.injEq] at a;obtain⟨rfl,rfl⟩:=a;simp only[xo] at f;obtain⟨f,m⟩:=f;have q:o.op=.call {callee:=.builtin .recover,args:=#[],argTypes:=#[]}:=by
  unfold RT at h1;split at h1
  ·assumption
  ·cases h1
 exact Le hf hb h6 q h2 h3 (aa5 f) h5 h4 (by simpa using m) (abq h) b c
end Go.Fr.T
namespace Go.Fr
open Go Go.RowKit
mutual
def G.bulk:G->Nat
 | .int _ _=>1
 | .bool _=>1
 | .str s=>s.size+1
 | .sl _ l=>G.aat l+1
 | .st l=>G.aat l+1
def G.aat:List G->Nat
 | []=>0
 | x::l=>G.bulk x+G.aat l
end
mutual
def iO {H:Type}:DataW H->Nat
 | .lit (.string bytes)=>bytes.length+1
 | .lit _=>1
 | .nil=>1
 | .ptr d=>iO d+1
 | .slice elems spare=>fj elems+fj spare+1
 | .agg parts=>fj parts+1
 | .iface _ d=>iO d+1
 | .map entries=>mo entries+1
 | .held _=>1
def fj {H:Type}:List (DataW H)->Nat
 | []=>0
 | d::r=>iO d+fj r
def mo {H:Type}:List (Lit×DataW H)->Nat
 | []=>0
 | x::r=>tF x+mo r
def tF {H:Type}:Lit×DataW H->Nat
 | (.string bytes,d)=>bytes.length+iO d+1
 | (_,d)=>iO d+1
end
def Ok (P:Program):Nat->TypeId->G->Prop
 | 0,_,_=>False
 | n+1,t,g=>match P.underlying t with
  | some .bool=>∃b,g=.bool b
  | some (.int k)=>∃x,g=.int k x/\(Lit.int k x).wf=true
  | some .string=>∃s,g=.str s
  | some (.slice e)=>∃l,g=.sl (P.cellsOf e) l/\∀x∈l,Ok P n e x
  | some (.struct a)=>∃l,g=.st l/\l.length=a.size/\∀(i:Nat) (f:Field) (x:G),a[i]?=some f->l[i]?=some x->Ok P n f.type x
  | _=>False
def zq (P:Program):Nat->List Field->Nat->Bool
 | o,[],n=>Nat.beq o n
 | o,f::a,n=>Nat.beq f.offset o&&zq P (o+P.cellsOf f.type) a n
def Mn (P:Program) (S:List TypeId) (t:TypeId):Bool :=
 match P.underlying t with
 | some .bool=>true
 | some (.int _)=>true
 | some .string=>true
 | some (.slice e)=>fU S e&&Nat.blt 0 (P.cellsOf e)
 | some (.struct a)=>zq P 0 a.toList (P.cellsOf t)&&a.toList.all fun f=>fU S f.type
 | _=>false
def flat (P:Program) (S:List TypeId):Bool:=S.all (Mn P S)
theorem wS {Q:Nat->G->Prop}:∀(n:Nat),(∀i,i<n->∃g,Q i g)->∃l:List G,l.length=n/\∀i g,l[i]?=some g->Q i g
 | 0,_=>⟨[],rfl,fun i g h=>by simp at h⟩
 | n+1,h=>by
  obtain⟨l,h1,h2⟩:=wS n (fun i hi=>h i (by omega));obtain⟨g,b⟩:=h n (by omega);refine⟨l++[g],by simp[h1],fun i x a=>?_⟩
  by_cases hi:i<l.length
  ·rw[abV hi] at a;exact h2 i x a
  ·rw[abW (by omega)] at a;have:i-l.length=0:=by
    cases e:i-l.length with
    | zero=>rfl
    | succ k=>rw[e] at a;simp at a
   rw[this] at a;simp only[abm,aa1] at a;subst a;have:i=n:=by omega
   subst this;exact b
theorem zu {H:Type}:∀{l:List G}{ds:List (DataW H)},l.length=ds.length->(∀(i:Nat) g d,l[i]?=some g->ds[i]?=some d->g.bulk<=iO d)->G.aat l<=fj ds
 | [],_,_,_=>by simp[G.aat]
 | x::l,[],h,_=>by simp at h
 | x::l,d::ds,h,hb=>by
  simp only[G.aat,fj];have h1:=hb 0 x d (by simp) (by simp);have h2:=zu (l:=l) (ds:=ds) (by simpa using h) (fun i g b a hd=>hb (i+1) g b (by simpa using a) (by simpa using hd));omega
section
variable {H:Type}{enc:TypeId×Value->H}{P:Program}{w:World}{base:Nat}{spare:Nat->Bool}{held:Bool}
def qV (w:World):aA:=fun b=>w.heap[b]?
theorem BL {a:Addr}{n:Nat}{cs:List Value}(h:w.cells? base a n=some cs) (p:0<n):cs.length=n/\dY (qV w) (some a) 0 cs:=by
 obtain⟨_,f,m⟩:=World.cells?_some h;refine⟨f,?_⟩;have h0:=m 0 p;rw[aa4 (by omega)] at h0;have d:a.spot=none:=by simpa[Addr.add] using World.cell?_spot h0
 have k:∃j t fr,w.heap[a.block]?=some (.cells j t fr):=by
  simp only[World.cell?,Addr.add] at h0;split at h0
  ·rename_i c t fr e;exact⟨c,t,fr,e⟩
  ·cases h0
 obtain⟨j,t,fr,hb⟩:=k;refine⟨a,j,t,fr,rfl,hb,d,fun i v l=>?_⟩;have hi:i<n:=by rw[<-f];exact(aa6.1 l).1
 have:=m i hi;obtain⟨b,o,q⟩:=a;simp only at d;subst d;rw[l,dI] at this;simp only[World.cell?] at this;simp only at hb;rw[hb] at this;simpa using this
theorem CZ {F:aA}{a:Addr}{n:Nat}{cs:List Value}(d:a.spot=none) (h:dY F (some (a.add n)) 0 cs):dY F (some a) n cs:=by
 obtain⟨b,o,m⟩:=a;simp only at d;subst d;rw[dI] at h;obtain⟨l,c,t,fr,e,hb,k,j⟩:=h;injection e with e
 subst e;exact⟨_,c,t,fr,rfl,hb,rfl,fun i v f=>by have:=j i v f;simpa[Nat.add_assoc] using this⟩
theorem EB {F:aA}{a:Addr}{cs:List Value}(h:dY F (some a) 0 cs):a.spot=none:=by
 obtain⟨d,c,t,fr,e,hb,b,f⟩:=h;injection e with e
 subst e;exact b
theorem Qp {S:List TypeId}(hS:flat P S=true):∀(q:Nat) (t:TypeId) (cs:List Value) (x:DataW H×List MemPlace),t∈S->DataW.trod enc P w base spare held q t cs=some x ->
  ∃g,Ok P q t g/\Rd (qV w) g cs/\g.bulk<=iO x.1:=by
 intro q
 induction q with
 | zero=>intro t cs x _ h;simp[DataW.trod] at h
 | succ n ih =>
  intro t cs x ht h;have hf:=abg.1 hS t ht;simp only[Mn] at hf;split at hf
  ·rename_i p;obtain⟨b,rfl,rfl⟩:=DataW.trod_bool p h;exact⟨.bool b,by simp[Ok,p],by simp[Rd],by simp[G.bulk,iO]⟩
  ·rename_i k p;obtain⟨m,rfl,rfl,hw⟩:=DataW.trod_int p h;exact⟨.int k m,by simp[Ok,p,hw],by simp[Rd,hw],by simp[G.bulk,iO]⟩
  ·rename_i p;obtain⟨s,rfl,rfl,hw⟩:=DataW.trod_string p h;exact⟨.str s,by simp[Ok,p],by simp[Rd],by simp[G.bulk,iO]⟩
  ·rename_i e p;simp only[xo] at hf;have he:e∈S:=di.1 hf.1;have aa:0<P.cellsOf e:=by simpa using hf.2
   rcases DataW.trod_slice p h with⟨rfl,rfl⟩ | ⟨a,len,cap,elems,bi,m,e1,rfl,rfl,hb,hl,hm,ab,av,_,_⟩
   ·refine⟨.sl (P.cellsOf e) [],by simp[Ok,p],?_,by simp[G.bulk,G.aat,iO]⟩;rw[RI];exact⟨none,0,rfl,by simp,by simp,fun _=>⟨rfl,rfl⟩,fun j x hx=>by simp at hx⟩
   ·obtain rfl:m=n:=by omega
    have ae:0<len->a.spot=none:=by
     intro h0;have h1:=av 0 h0;rw[aa4 (by omega)] at h1;obtain⟨es,h2,h3⟩:=Option.bind_eq_some_iff.1 h1;have:=EB (BL h2 aa).2;simpa[Addr.add] using this
    obtain⟨l,ao,ag⟩:=wS (Q:=fun i g=>Ok P m e g/\(∃es,es.length=P.cellsOf e/\dY (qV w) (some a) (i*P.cellsOf e) es/\Rd (qV w) g es)/\∀y,elems[i]?=some y->g.bulk<=iO y.1) len (by
     intro i hi;have h1:=av i hi;rw[aa4 (by omega)] at h1;obtain⟨es,h2,h3⟩:=Option.bind_eq_some_iff.1 h1;obtain⟨g,g1,g2,g3⟩:=ih e es _ he h3;obtain⟨g4,g5⟩:=BL h2 aa;refine⟨g,g1,⟨es,g4,CZ (ae (by omega)) g5,g2⟩,fun y r=>?_⟩;rw[aa4 (by omega)] at r;injection r with r
     subst r;exact g3)
    refine⟨.sl (P.cellsOf e) l,?_,?_,?_⟩
    ·simp only[Ok,p];refine⟨l,rfl,fun x hx=>?_⟩;obtain⟨i,hi⟩:=abw.1 hx;exact(ag i x hi).1
    ·rw[RI];exact⟨some a,cap,by rw[ao],by omega,hm,fun e=>(by cases e),fun j x hx=>(ag j x hx).2.1⟩
    ·simp only[G.bulk,iO];have:=zu (l:=l) (ds:=elems.map (·.1)) (by simp[ao,ab]) (fun i g d hg hd=>by
      simp only[abk,Option.map_eq_some_iff] at hd;obtain⟨y,r,rfl⟩:=hd;exact(ag i g hg).2.2 y r)
     omega
  ·rename_i fs p;simp only[xo] at hf;obtain⟨al,an⟩:=hf;obtain⟨xs,m,e1,rfl,ab,aw,u⟩:=DataW.trod_struct p h;obtain rfl:m=n:=by omega
   have key:∀(fl:List Field) (v:List (DataW H×List MemPlace)) (o:Nat),zq P o fl (P.cellsOf t)=true->v.length=fl.length->(∀f∈fl,f.type∈S) ->
     (∀(i:Nat) f,fl[i]?=some f->DataW.trod enc P w base spare held m f.type ((cs.drop f.offset).take (P.cellsOf f.type))=v[i]?) ->
     ∃l,l.length=fl.length/\(∀(i:Nat) f g,fl[i]?=some f->l[i]?=some g->Ok P m f.type g)/\mM (qV w) l (cs.drop o)/\G.aat l<=fj (v.map (·.1)):=by
    intro fl
    induction fl with
    | nil =>
     intro v o hc _ _ _;simp only[zq] at hc;have:=aa5 hc;refine⟨[],rfl,fun i f g h=>by simp at h,?_,by simp[G.aat]⟩;simp only[mM];rw[List.drop_eq_nil_iff];omega
    | cons f fl aE =>
     intro v o hc r z u;simp only[zq,xo] at hc;have ar:=aa5 hc.1
     match v,r with
     | y::v,r =>
      have h0:=u 0 f (by simp);simp only[abm] at h0;obtain⟨g,g1,g2,g3⟩:=ih f.type _ _ (z f (by simp)) h0;obtain⟨l,l1,l2,l3,l4⟩:=aE v (o+P.cellsOf f.type) hc.2 (by simpa using r) (fun f' c=>z f' (by simp[c])) (fun i f' c=>by
       have:=u (i+1) f' (by simpa using c);simpa using this)
      refine⟨g::l,by simp[l1],fun i f' g' c ac=>?_,?_,?_⟩
      ·cases i with
       | zero=>simp only[abm,aa1] at c ac;subst c;subst ac;exact g1
       | succ i=>exact l2 i f' g' (by simpa using c) (by simpa using ac)
      ·simp only[mM];refine⟨(cs.drop o).take (P.cellsOf f.type),cs.drop (o+P.cellsOf f.type),?_,by rw[<-ar];exact g2,l3⟩;rw[<-List.drop_drop,List.take_append_drop]
      ·simp only[G.aat,abe,fj];omega
   obtain⟨l,l1,l2,l3,l4⟩:=key fs.toList xs 0 al (by simp[aw]) (fun f hf=>di.1 (abg.1 an f hf)) (fun i f hi=>u i f (by simpa using hi));refine⟨.st l,?_,?_,?_⟩
   ·simp only[Ok,p];exact⟨l,rfl,by simpa using l1,fun i f x hi hx=>l2 i f x (by simpa using hi) hx⟩
   ·simp only[Rd];simpa using l3
   ·simp only[G.bulk,iO];omega
  ·cases hf
end
namespace Api
abbrev I (n:Int):G:=.int .i64 n
inductive Ty where
 | mk (kind id:Int) (args:List Ty)
 deriving Inhabited
def Ty.kind:Ty->Int | .mk k _ _=>k
def Ty.id:Ty->Int | .mk _ i _=>i
def Ty.args:Ty->List Ty | .mk _ _ l=>l
mutual
def Ty.g:Ty->G
 | .mk k i l=>.st [I k,I i,.sl 3 (Ty.gs l)]
def Ty.gs:List Ty->List G
 | []=>[]
 | t::l=>t.g::Ty.gs l
end
theorem Ty.aaR:∀l:List Ty,Ty.gs l=l.map Ty.g
 | []=>rfl
 | t::l=>by simp[Ty.gs,Ty.aaR l]
structure aS where
 param:Int
 trait:Int
def aS.g (b:aS):G:=.st [I b.param,I b.trait]
structure Term where
 kind:Int
 a:Int
 targets:List Int
def Term.g (x:Term):G:=.st [I x.kind,I x.a,.sl 1 (x.targets.map I)]
structure Qq where
 op:Int
 dst:Int
 a:Int
 b:Int
 n:Int
 args:List Int
 types:List Ty
def Qq.g (x:Qq):G:=.st [I x.op,I x.dst,I x.a,I x.b,I x.n,.sl 1 (x.args.map I),.sl 3 (x.types.map Ty.g)]
structure Block where
 code:List Qq
 fin:Term
def Block.g (x:Block):G:=.st [.sl 7 (x.code.map Qq.g),x.fin.g]
structure Qr where
 name:ByteArray
 module:Int
 params:Int
 bounds:List aS
 arity:Int
 result:Ty
 locals:List Ty
 blocks:List Block
 ties:List Int
def Qr.g (f:Qr):G:=.st [.str f.name,I f.module,I f.params,.sl 2 (f.bounds.map aS.g),I f.arity,f.result.g,.sl 3 (f.locals.map Ty.g),.sl 4 (f.blocks.map Block.g),.sl 1 (f.ties.map I)]
structure Variant where
 name:ByteArray
 fields:List Ty
def Variant.g (x:Variant):G:=.st [.str x.name,.sl 3 (x.fields.map Ty.g)]
structure Data where
 name:ByteArray
 module:Int
 params:Int
 variants:List Variant
 drop:Int
def Data.g (d:Data):G:=.st [.str d.name,I d.module,I d.params,.sl 2 (d.variants.map Variant.g),I d.drop]
structure Impl where
 trait:Int
 module:Int
 params:Int
 bounds:List aS
 type:Ty
 func:Int
def Impl.g (x:Impl):G:=.st [I x.trait,I x.module,I x.params,.sl 2 (x.bounds.map aS.g),x.type.g,I x.func]
structure Prog where
 modules:List ByteArray
 uses:List (List Int)
 datas:List Data
 traits:List ByteArray
 homes:List Int
 impls:List Impl
 funcs:List Qr
 main:Int
def Prog.g (p:Prog):G:=.st [.sl 1 (p.modules.map .str),.sl 1 (p.uses.map fun l=>.sl 1 (l.map I)),.sl 5 (p.datas.map Data.g),.sl 1 (p.traits.map .str),.sl 1 (p.homes.map I),.sl 8 (p.impls.map Impl.g),.sl 11 (p.funcs.map Qr.g),I p.main]
section
variable {F:aA}{cs:List Value}
end
end Api
end Go.Fr
namespace Go.Fr
open Go Go.RowKit
namespace Api
section
variable {P:Program}
def Tn (P:Program) (n:Nat):List TypeId->List G->Prop
 | [],[]=>True
 | t::ts,x::l=>Ok P n t x/\Tn P n ts l
 | _,_=>False
theorem Mp {n:Nat}:∀{fl:List Field}{l:List G},l.length=fl.length->(∀(i:Nat) (f:Field) (x:G),fl[i]?=some f->l[i]?=some x->Ok P n f.type x)->Tn P n (fl.map (·.type)) l
 | [],[],_,_=>trivial
 | [],x::l,h,_=>by simp at h
 | f::fl,[],h,_=>by simp at h
 | f::fl,x::l,h,a=>⟨a 0 f x (by simp) (by simp),Mp (by simpa using h) fun i f' c hf b=>a (i+1) f' c (by simpa using hf) (by simpa using b)⟩
theorem ok_int {n:Nat}{t:TypeId}{g:G}{k:IntKind}(h:P.underlying t=some (.int k)) (a:Ok P n t g):∃x,g=.int k x:=by
 cases n with
 | zero=>exact a.elim
 | succ n=>simp only[Ok,h] at a;obtain⟨x,h1,_⟩:=a;exact⟨x,h1⟩
theorem Tp {n:Nat}{t:TypeId}{g:G}(h:P.underlying t=some .string) (a:Ok P n t g):∃x,g=.str x:=by
 cases n with
 | zero=>exact a.elim
 | succ n=>simp only[Ok,h] at a;exact a
theorem HO {b:Type}{f:b->G}:∀{l:List G},(∀x∈l,∃y,x=f y)->∃a:List b,l=a.map f
 | [],_=>⟨[],rfl⟩
 | x::l,h=>by
  obtain⟨y,rfl⟩:=h x (by simp);obtain⟨a,rfl⟩:=HO (l:=l) (fun z c=>h z (by simp[c]));exact⟨y::a,rfl⟩
theorem Tq {n:Nat}{t e:TypeId}{g:G}{sz:Nat}{c:Type}{f:c->G}(h:P.underlying t=some (.slice e)) (a:P.cellsOf e=sz) (b:Ok P n t g) (he:∀m x,m<n->Ok P m e x->∃y,x=f y):∃l:List c,g=.sl sz (l.map f):=by
 cases n with
 | zero=>exact b.elim
 | succ n =>
  simp only[Ok,h] at b;obtain⟨l,rfl,d⟩:=b;obtain⟨k,rfl⟩:=HO (f:=f) (fun x j=>he n x (by omega) (d x j));exact⟨k,by rw[a]⟩
theorem Va {n:Nat}{t:TypeId}{g:G}{c:Array Field}{ts:List TypeId}(h:P.underlying t=some (.struct c)) (a:c.toList.map (·.type)=ts) (b:Ok P n t g):∃m l,m<n/\g=.st l/\Tn P m ts l:=by
 cases n with
 | zero=>exact b.elim
 | succ n =>
  simp only[Ok,h] at b;obtain⟨l,rfl,e,d⟩:=b;subst a;exact⟨n,l,by omega,rfl,Mp (by simpa using e) fun i f x hf j=>d i f x (by simpa using hf) j⟩
def wj (P:Program) (t:TypeId) (ts:List TypeId):Bool:=match P.underlying t with | some (.struct fs)=>decide (fs.toList.map (·.type)=ts) | _=>false
def uR (P:Program) (t e sz:Nat):Bool:=match P.underlying t with | some (.slice e')=>Nat.beq e' e&&Nat.beq (P.cellsOf e) sz | _=>false
def W4 (P:Program) (t:TypeId):Bool:=match P.underlying t with | some (.int .i64)=>true | _=>false
def Yu (P:Program) (t:TypeId):Bool:=match P.underlying t with | some .string=>true | _=>false
theorem kZ {t:TypeId}{ts:List TypeId}(h:wj P t ts=true) {n:Nat}{g:G}(a:Ok P n t g):∃m l,m<n/\g=.st l/\Tn P m ts l:=by
 simp only[wj] at h;split at h
 ·rename_i c b;exact Va b (by simpa using h) a
 ·cases h
theorem fu {t e sz:Nat}(h:uR P t e sz=true) {n:Nat}{g:G}{a:Type}{f:a->G}(b:Ok P n t g) (he:∀m x,m<n->Ok P m e x->∃y,x=f y):∃l:List a,g=.sl sz (l.map f):=by
 simp only[uR] at h;split at h
 ·rename_i d c;simp only[xo] at h;have h1:=aa5 h.1;have h2:=aa5 h.2;subst h1;exact Tq c h2 b he
 ·cases h
theorem Gk {t:TypeId}(h:W4 P t=true) {n:Nat}{g:G}(a:Ok P n t g):∃x,g=I x:=by
 simp only[W4] at h;split at h
 ·rename_i b;exact ok_int b a
 ·cases h
theorem zw {t:TypeId}(h:Yu P t=true) {n:Nat}{g:G}(a:Ok P n t g):∃x,g=.str x:=by
 simp only[Yu] at h;split at h
 ·rename_i b;exact Tp b a
 ·cases h
theorem AL {n:Nat}{b:TypeId}{l:List G}(h:Tn P n [b] l):∃a,l=[a]/\Ok P n b a:=by
 match l,h with
 | [a],h=>exact⟨a,rfl,h.1⟩
theorem br {n:Nat}{b:TypeId}{ts:List TypeId}{l:List G}(h:Tn P n (b::ts) l):∃a r,l=a::r/\Ok P n b a/\Tn P n ts r:=by
 match l,h with
 | a::r,h=>exact⟨a,r,rfl,h.1,h.2⟩
theorem Vb {t e ts:TypeId}(hi:W4 P e=true) (o:wj P t [e,e,ts]=true) (s:uR P ts t 3=true):∀(n:Nat) (g:G),Ok P n t g->∃x:Ty,g=x.g:=by
 intro n
 induction n using Nat.strongRecOn with
 | _ n u =>
  intro g v;obtain⟨m,l,w,rfl,d⟩:=kZ o v;obtain⟨a,l,rfl,j,d⟩:=br d;obtain⟨b,l,rfl,hb,d⟩:=br d;obtain⟨c,rfl,q⟩:=AL d;obtain⟨k,rfl⟩:=Gk hi j;obtain⟨i,rfl⟩:=Gk hi hb;obtain⟨xs,rfl⟩:=fu s q (f:=Ty.g) (fun r x h p=>u r (by omega) x p);exact⟨.mk k i xs,by simp[Ty.g,Ty.aaR]⟩
structure d9 where
 int:TypeId
 str:TypeId
 ints:TypeId
 strs:TypeId
 intss:TypeId
 ty:TypeId
 tys:TypeId
 bound:TypeId
 bounds:TypeId
 term:TypeId
 ins:TypeId
 inss:TypeId
 block:TypeId
 blocks:TypeId
 func:TypeId
 funcs:TypeId
 variant:TypeId
 variants:TypeId
 data:TypeId
 datas:TypeId
 impl:TypeId
 impls:TypeId
 prog:TypeId
def d9.tyOk (P:Program) (d:d9):Bool:=W4 P d.int&&wj P d.ty [d.int,d.int,d.tys]&&uR P d.tys d.ty 3
def d9.aax (P:Program) (d:d9):Bool:=d.tyOk P&&Yu P d.str&&uR P d.ints d.int 1&&wj P d.bound [d.int,d.int]&&uR P d.bounds d.bound 2&&wj P d.term [d.int,d.int,d.ints] &&
 wj P d.ins [d.int,d.int,d.int,d.int,d.int,d.ints,d.tys]&&uR P d.inss d.ins 7&&wj P d.block [d.inss,d.term]&&uR P d.blocks d.block 4 &&
 wj P d.func [d.str,d.int,d.int,d.bounds,d.int,d.ty,d.tys,d.blocks,d.ints]
def d9.aaz (P:Program) (d:d9):Bool:=d.aax P&&uR P d.strs d.str 1&&uR P d.intss d.ints 1&&wj P d.variant [d.str,d.tys]&&uR P d.variants d.variant 2&&wj P d.data [d.str,d.int,d.int,d.variants,d.int] &&
 uR P d.datas d.data 5&&wj P d.impl [d.int,d.int,d.int,d.bounds,d.ty,d.int]&&uR P d.impls d.impl 8&&uR P d.funcs d.func 11&&wj P d.prog [d.strs,d.intss,d.datas,d.strs,d.ints,d.impls,d.funcs,d.int]
theorem d9.aaG {d:d9}(h:d.aaz P=true):d.aax P=true:=by
 simp only[d9.aaz,xo] at h;exact h.1.1.1.1.1.1.1.1.1.1
theorem d9.aaF {d:d9}(h:d.aax P=true):d.tyOk P=true:=by
 simp only[d9.aax,xo] at h;exact h.1.1.1.1.1.1.1.1.1.1
theorem d9.ty' {d:d9}(h:d.tyOk P=true) {n:Nat}{g:G}(a:Ok P n d.ty g):∃x:Ty,g=x.g:=by
 simp only[d9.tyOk,xo] at h;exact Vb h.1.1 h.1.2 h.2 n g a
theorem d9.i {d:d9}(h:d.tyOk P=true) {n:Nat}{g:G}(a:Ok P n d.int g):∃x:Int,g=I x:=by
 simp only[d9.tyOk,xo] at h;exact Gk h.1.1 a
theorem d9.aaP {d:d9}(h:d.tyOk P=true) {n:Nat}{g:G}(c:Ok P n d.tys g):∃x:List Ty,g=.sl 3 (x.map Ty.g):=by
 have a:=h;simp only[d9.tyOk,xo] at a;exact fu a.2 c fun m x _ b=>d9.ty' h b
theorem d9.bnd {d:d9}(h:d.aax P=true) {n:Nat}{g:G}(l:Ok P n d.bound g):∃x:aS,g=x.g:=by
 have hf:=h;have e:=d9.aaF hf;have a:=hf;simp only[d9.aax,xo] at a;obtain⟨⟨⟨⟨⟨⟨⟨⟨⟨⟨_,k1⟩,r⟩,k⟩,v⟩,s⟩,o⟩,q⟩,k8⟩,k9⟩,k10⟩:=a;obtain⟨m,w,p,rfl,c⟩:=kZ k l;obtain⟨u,t,rfl,j,b⟩:=br c;obtain⟨v0,rfl⟩:=d9.i e j;obtain⟨y,rfl,f⟩:=AL b;obtain⟨v1,rfl⟩:=d9.i e f;exact⟨⟨v0,v1⟩,rfl⟩
theorem d9.trm {d:d9}(h:d.aax P=true) {n:Nat}{g:G}(s:Ok P n d.term g):∃x:Term,g=x.g:=by
 have hf:=h;have e:=d9.aaF hf;have a:=hf;simp only[d9.aax,xo] at a;obtain⟨⟨⟨⟨⟨⟨⟨⟨⟨⟨_,k1⟩,l⟩,k3⟩,k4⟩,o⟩,u⟩,w⟩,k8⟩,k9⟩,k10⟩:=a;obtain⟨m,l0,v,rfl,j⟩:=kZ o s;obtain⟨z,y,rfl,p,c⟩:=br j;obtain⟨v0,rfl⟩:=d9.i e p;obtain⟨g1,t,rfl,k,b⟩:=br c;obtain⟨v1,rfl⟩:=d9.i e k;obtain⟨g2,rfl,r⟩:=AL b;obtain⟨v2,rfl⟩:=fu l r (f:=I) fun m x _ q=>d9.i e q;exact⟨⟨v0,v1,v2⟩,rfl⟩
theorem d9.ins' {d:d9}(h:d.aax P=true) {n:Nat}{g:G}(hg:Ok P n d.ins g):∃x:Qq,g=x.g:=by
 have hf:=h;have a:=d9.aaF hf;have b:=hf;simp only[d9.aax,xo] at b;obtain⟨⟨⟨⟨⟨⟨⟨⟨⟨⟨_,k1⟩,v⟩,k3⟩,k4⟩,k5⟩,q⟩,k7⟩,k8⟩,k9⟩,k10⟩:=b;obtain⟨m,l0,hm,rfl,l⟩:=kZ q hg;obtain⟨g0,l1,rfl,z,e⟩:=br l;obtain⟨v0,rfl⟩:=d9.i a z;obtain⟨g1,l2,rfl,s,c⟩:=br e;obtain⟨v1,rfl⟩:=d9.i a s;obtain⟨g2,l3,rfl,e2,k⟩:=br c;obtain⟨v2,rfl⟩:=d9.i a e2;obtain⟨g3,l4,rfl,y,p⟩:=br k;obtain⟨v3,rfl⟩:=d9.i a y;obtain⟨g4,l5,rfl,e4,o⟩:=br p;obtain⟨u,rfl⟩:=d9.i a e4;obtain⟨g5,l6,rfl,t,j⟩:=br o;obtain⟨v5,rfl⟩:=fu v t (f:=I) fun m x _ hx=>d9.i a hx;obtain⟨g6,rfl,w⟩:=AL j;obtain⟨r,rfl⟩:=d9.aaP a w;exact⟨⟨v0,v1,v2,v3,u,v5,r⟩,rfl⟩
theorem d9.blk {d:d9}(h:d.aax P=true) {n:Nat}{g:G}(o:Ok P n d.block g):∃x:Block,g=x.g:=by
 have hf:=h;have s:=d9.aaF hf;have a:=hf;simp only[d9.aax,xo] at a;obtain⟨⟨⟨⟨⟨⟨⟨⟨⟨⟨_,k1⟩,r⟩,y⟩,w⟩,t⟩,p⟩,e⟩,k8⟩,k9⟩,k10⟩:=a;obtain⟨m,z,q,rfl,c⟩:=kZ k8 o;obtain⟨v,u,rfl,k,b⟩:=br c;obtain⟨v0,rfl⟩:=fu e k (f:=Qq.g) fun m x _ l=>d9.ins' hf l;obtain⟨g1,rfl,j⟩:=AL b;obtain⟨v1,rfl⟩:=d9.trm hf j;exact⟨⟨v0,v1⟩,rfl⟩
theorem d9.fn {d:d9}(h:d.aax P=true) {n:Nat}{g:G}(hg:Ok P n d.func g):∃x:Qr,g=x.g:=by
 have hf:=h;have a:=d9.aaF hf;have b:=hf;simp only[d9.aax,xo] at b;obtain⟨⟨⟨⟨⟨⟨⟨⟨⟨⟨_,k1⟩,y⟩,k3⟩,k4⟩,k5⟩,k6⟩,k7⟩,k8⟩,k9⟩,k10⟩:=b;obtain⟨m,l0,hm,rfl,q⟩:=kZ k10 hg;obtain⟨g0,l1,rfl,e0,k⟩:=br q;obtain⟨v0,rfl⟩:=zw k1 e0;obtain⟨g1,l2,rfl,u,e⟩:=br k;obtain⟨v1,rfl⟩:=d9.i a u;obtain⟨g2,l3,rfl,e2,o⟩:=br e;obtain⟨v2,rfl⟩:=d9.i a e2;obtain⟨g3,l4,rfl,e3,s⟩:=br o;obtain⟨v3,rfl⟩:=fu k4 e3 (f:=aS.g) fun m x _ c=>d9.bnd hf c;obtain⟨g4,l5,rfl,e4,r⟩:=br s;obtain⟨w,rfl⟩:=d9.i a e4;obtain⟨g5,l6,rfl,v,l⟩:=br r;obtain⟨v5,rfl⟩:=d9.ty' a v;obtain⟨g6,l7,rfl,z,j⟩:=br l;obtain⟨t,rfl⟩:=d9.aaP a z;obtain⟨g7,l8,rfl,e7,p⟩:=br j;obtain⟨v7,rfl⟩:=fu k9 e7 (f:=Block.g) fun m x _ c=>d9.blk hf c;obtain⟨g8,rfl,e8⟩:=AL p;obtain⟨v8,rfl⟩:=fu y e8 (f:=I) fun m x _ c=>d9.i a c;exact⟨⟨v0,v1,v2,v3,w,v5,t,v7,v8⟩,rfl⟩
theorem d9.aa0 {d:d9}(h:d.aaz P=true) {n:Nat}{g:G}(o:Ok P n d.variant g):∃x:Variant,g=x.g:=by
 have h0:=h;have hf:=d9.aaG h;have f:=d9.aaF hf;have a:=hf;simp only[d9.aax,xo] at a;obtain⟨⟨⟨⟨⟨⟨⟨⟨⟨⟨_,k1⟩,v⟩,k3⟩,k4⟩,z⟩,p⟩,s⟩,k8⟩,k9⟩,k10⟩:=a;simp only[d9.aaz,xo] at h;obtain⟨⟨⟨⟨⟨⟨⟨⟨⟨⟨h,p1⟩,r⟩,j⟩,p4⟩,u⟩,t⟩,w⟩,y⟩,p9⟩,l⟩:=h;obtain⟨m,l0,q,rfl,c⟩:=kZ j o;obtain⟨g0,l1,rfl,k,b⟩:=br c;obtain⟨v0,rfl⟩:=zw k1 k;obtain⟨g1,rfl,e⟩:=AL b;obtain⟨v1,rfl⟩:=d9.aaP f e;exact⟨⟨v0,v1⟩,rfl⟩
theorem d9.dat {d:d9}(h:d.aaz P=true) {n:Nat}{g:G}(y:Ok P n d.data g):∃x:Data,g=x.g:=by
 have h0:=h;have hf:=d9.aaG h;have e:=d9.aaF hf;have a:=hf;simp only[d9.aax,xo] at a;obtain⟨⟨⟨⟨⟨⟨⟨⟨⟨⟨_,k1⟩,k2⟩,k3⟩,k4⟩,k5⟩,k6⟩,k7⟩,k8⟩,k9⟩,k10⟩:=a;simp only[d9.aaz,xo] at h;obtain⟨⟨⟨⟨⟨⟨⟨⟨⟨⟨h,p1⟩,p2⟩,p3⟩,z⟩,q⟩,p6⟩,p7⟩,p8⟩,p9⟩,u⟩:=h;obtain⟨m,l0,hm,rfl,k⟩:=kZ q y;obtain⟨g0,l1,rfl,s,c⟩:=br k;obtain⟨v0,rfl⟩:=zw k1 s;obtain⟨g1,l2,rfl,o,b⟩:=br c;obtain⟨v1,rfl⟩:=d9.i e o;obtain⟨g2,l3,rfl,w,j⟩:=br b;obtain⟨v2,rfl⟩:=d9.i e w;obtain⟨g3,l4,rfl,r,l⟩:=br j;obtain⟨v3,rfl⟩:=fu z r (f:=Variant.g) fun m x _ t=>d9.aa0 h0 t;obtain⟨g4,rfl,v⟩:=AL l;obtain⟨p,rfl⟩:=d9.i e v;exact⟨⟨v0,v1,v2,v3,p⟩,rfl⟩
theorem d9.imp {d:d9}(h:d.aaz P=true) {n:Nat}{g:G}(hg:Ok P n d.impl g):∃x:Impl,g=x.g:=by
 have h0:=h;have hf:=d9.aaG h;have a:=d9.aaF hf;have b:=hf;simp only[d9.aax,xo] at b;obtain⟨⟨⟨⟨⟨⟨⟨⟨⟨⟨_,k1⟩,k2⟩,k3⟩,w⟩,k5⟩,k6⟩,k7⟩,k8⟩,k9⟩,k10⟩:=b;simp only[d9.aaz,xo] at h;obtain⟨⟨⟨⟨⟨⟨⟨⟨⟨⟨h,p1⟩,p2⟩,p3⟩,p4⟩,p5⟩,p6⟩,s⟩,p8⟩,p9⟩,y⟩:=h;obtain⟨m,l0,hm,rfl,k⟩:=kZ s hg;obtain⟨g0,l1,rfl,u,e⟩:=br k;obtain⟨v0,rfl⟩:=d9.i a u;obtain⟨g1,l2,rfl,p,c⟩:=br e;obtain⟨v1,rfl⟩:=d9.i a p;obtain⟨g2,l3,rfl,e2,j⟩:=br c;obtain⟨v2,rfl⟩:=d9.i a e2;obtain⟨g3,l4,rfl,t,o⟩:=br j;obtain⟨v3,rfl⟩:=fu w t (f:=aS.g) fun m x _ v=>d9.bnd hf v;obtain⟨g4,l5,rfl,z,l⟩:=br o;obtain⟨r,rfl⟩:=d9.ty' a z;obtain⟨g5,rfl,q⟩:=AL l;obtain⟨v5,rfl⟩:=d9.i a q;exact⟨⟨v0,v1,v2,v3,r,v5⟩,rfl⟩
theorem d9.prg {d:d9}(h:d.aaz P=true) {n:Nat}{g:G}(hg:Ok P n d.prog g):∃x:Prog,g=x.g:=by
 have h0:=h;have hf:=d9.aaG h;have k:=d9.aaF hf;have b:=hf;simp only[d9.aax,xo] at b;obtain⟨⟨⟨⟨⟨⟨⟨⟨⟨⟨_,k1⟩,u⟩,k3⟩,k4⟩,k5⟩,k6⟩,k7⟩,k8⟩,k9⟩,k10⟩:=b;simp only[d9.aaz,xo] at h;obtain⟨⟨⟨⟨⟨⟨⟨⟨⟨⟨h,v⟩,y⟩,p3⟩,p4⟩,p5⟩,z⟩,p7⟩,p8⟩,p9⟩,q⟩:=h;obtain⟨m,l0,hm,rfl,p⟩:=kZ q hg;obtain⟨g0,l1,rfl,e0,j⟩:=br p;obtain⟨v0,rfl⟩:=fu v e0 (f:=G.str) fun m x _ a=>zw k1 a;obtain⟨g1,l2,rfl,e1,c⟩:=br j;obtain⟨v1,rfl⟩:=fu y e1 (f:=fun(l:List Int)=>G.sl 1 (l.map I)) fun m x _ a=>fu u a (f:=I) fun m x _ a=>d9.i k a;obtain⟨g2,l3,rfl,e2,o⟩:=br c;obtain⟨v2,rfl⟩:=fu z e2 (f:=Data.g) fun m x _ a=>d9.dat h0 a;obtain⟨g3,l4,rfl,e3,t⟩:=br o;obtain⟨v3,rfl⟩:=fu v e3 (f:=G.str) fun m x _ a=>zw k1 a;obtain⟨g4,l5,rfl,e4,s⟩:=br t;obtain⟨v4,rfl⟩:=fu u e4 (f:=I) fun m x _ a=>d9.i k a;obtain⟨g5,l6,rfl,e5,r⟩:=br s;obtain⟨v5,rfl⟩:=fu p8 e5 (f:=Impl.g) fun m x _ a=>d9.imp h0 a;obtain⟨g6,l7,rfl,e6,e⟩:=br r;obtain⟨w,rfl⟩:=fu p9 e6 (f:=Qr.g) fun m x _ a=>d9.fn hf a;obtain⟨g7,rfl,e7⟩:=AL e;obtain⟨v7,rfl⟩:=d9.i k e7;exact⟨⟨v0,v1,v2,v3,v4,v5,w,v7⟩,rfl⟩
end
end Api
end Go.Fr
namespace Go.Fr.T
open Go Go.RowKit Go.Fr
mutual
def sD:G->List C
 | .int k n=>[.int k n]
 | .bool b=>[.bool b]
 | .str s=>[.str s]
 | .sl _ l=>[.sl (tG l)]
 | .st l=>lR l
def tG:List G->List (List C)
 | []=>[]
 | x::l=>sD x::tG l
def lR:List G->List C
 | []=>[]
 | x::l=>sD x++lR l
end
theorem zx:∀l:List G,tG l=l.map sD
 | []=>rfl
 | x::l=>by simp only[tG,abe,zx l]
theorem C0 {a b:List C}(h:fB a=true) (k:fB b=true):fB (a++b)=true:=by
 rw[oD] at *;intro c d;rcases aa9.1 d with d | d
 ·exact h c d
 ·exact k c d
mutual
theorem C2 {F:aA}:∀{g:G}{cs:List Value},Rd F g cs->g.bulk<=maxLen->aB F [] (sD g) cs/\fB (sD g)=true
 | .int k n,cs,h,hb=>by
  simp only[Rd] at h;obtain⟨rfl,h⟩:=h;simp only[sD,aB,Rel];exact⟨⟨_,_,rfl,⟨rfl,h⟩,rfl⟩,rfl⟩
 | .bool b,cs,h,hb=>by
  simp only[Rd] at h;subst h;simp only[sD,aB,Rel];exact⟨⟨_,_,rfl,rfl,rfl⟩,rfl⟩
 | .str s,cs,h,hb=>by
  simp only[Rd] at h;subst h;simp only[G.bulk] at hb;simp only[sD,aB,Rel];exact⟨⟨_,_,rfl,⟨rfl,by omega⟩,rfl⟩,rfl⟩
 | .sl sz l,cs,h,hb=>by
  simp only[Rd] at h;obtain⟨a,c,rfl,h1,h2,h3,h4⟩:=h;simp only[G.bulk] at hb;have hl:(tG l).length=l.length:=by simp[zx]
  simp only[sD,aB,Rel];refine⟨⟨_,_,rfl,⟨a,c,by rw[hl],by rw[hl];exact h1,by rw[hl];omega,fun e=>?_,sz,BM h4 (by omega)⟩,rfl⟩,rfl⟩;obtain⟨e1,e2⟩:=h3 e;subst e1;exact⟨rfl,e2⟩
 | .st l,cs,h,hb=>by
  simp only[Rd] at h;simp only[G.bulk] at hb;simp only[sD];exact zy h (by omega)
theorem BM {F:aA}{a:Option Addr}{sz:Nat}:∀{i:Nat}{l:List G},uq F a sz i l->G.aat l<=maxLen->gU F a sz i (tG l)
 | _,[],_,_=>by simp only[tG,gU]
 | i,x::l,h,hb=>by
  simp only[uq] at h;obtain⟨⟨es,h1,h2,h3⟩,h4⟩:=h;simp only[G.aat] at hb;obtain⟨r1,r2⟩:=C2 h3 (by omega);simp only[tG,gU];exact⟨⟨es,h1,h2,r2,r1⟩,BM h4 (by omega)⟩
theorem zy {F:aA}:∀{l:List G}{cs:List Value},mM F l cs->G.aat l<=maxLen->aB F [] (lR l) cs/\fB (lR l)=true
 | [],cs,h,_=>by simp only[mM] at h;subst h;simp only[lR,aB];exact⟨trivial,rfl⟩
 | x::l,cs,h,hb=>by
  simp only[mM] at h;obtain⟨c1,c2,rfl,h1,h2⟩:=h;simp only[G.aat] at hb;obtain⟨r1,r2⟩:=C2 h1 (by omega);obtain⟨q1,q2⟩:=zy h2 (by omega);simp only[lR];exact⟨r1.append q1,C0 r2 q2⟩
end
open Api
abbrev IC (n:Int):C:=.int .i64 n
def uS (l:List Int):List (List C):=l.map fun n=>[IC n]
def Mq (l:List ByteArray):List (List C):=l.map fun s=>[C.str s]
mutual
def aD:Ty->List C
 | .mk k i l=>[IC k,IC i,.sl (Js l)]
def Js:List Ty->List (List C)
 | []=>[]
 | t::l=>aD t::Js l
end
theorem EC:∀l:List Ty,Js l=l.map aD
 | []=>rfl
 | t::l=>by simp only[Js,abe,EC l]
theorem iP (t:Ty):aD t=[IC t.kind,IC t.id,.sl (t.args.map aD)]:=by
 cases t;simp only[aD,EC,Ty.kind,Ty.id,Ty.args]
def aV (b:aS):List C:=[IC b.param,IC b.trait]
def Mr (x:Term):List C:=[IC x.kind,IC x.a,.sl (uS x.targets)]
def Tr (x:Qq):List C:=[IC x.op,IC x.dst,IC x.a,IC x.b,IC x.n,.sl (uS x.args),.sl (x.types.map aD)]
def Gl (x:Block):List C:=[.sl (x.code.map Tr),IC x.fin.kind,IC x.fin.a,.sl (uS x.fin.targets)]
def Tt (f:Qr):List C:=[.str f.name,IC f.module,IC f.params,.sl (f.bounds.map aV),IC f.arity,IC f.result.kind,IC f.result.id,.sl (f.result.args.map aD),.sl (f.locals.map aD),.sl (f.blocks.map Gl),.sl (uS f.ties)]
def uT (x:Variant):List C:=[.str x.name,.sl (x.fields.map aD)]
def lG (d:Api.Data):List C:=[.str d.name,IC d.module,IC d.params,.sl (d.variants.map uT),IC d.drop]
def dS (x:Impl):List C:=[IC x.trait,IC x.module,IC x.params,.sl (x.bounds.map aV),IC x.type.kind,IC x.type.id,.sl (x.type.args.map aD),IC x.func]
def kG (p:Prog):List C:=[.sl (Mq p.modules),.sl (p.uses.map fun l=>[.sl (uS l)]),.sl (p.datas.map lG),.sl (Mq p.traits),.sl (uS p.homes),.sl (p.impls.map dS),.sl (p.funcs.map Tt),IC p.main]
theorem iX {a:Type}{f:a->G}{h:a->List C}(hf:∀x,sD (f x)=h x) (l:List a):tG (l.map f)=l.map h:=by
 rw[zx,ab4];exact ab7 fun x _=>hf x
theorem zA (l:List Int):tG (l.map I)=uS l:=iX (fun _=>rfl) l
theorem Tv (l:List ByteArray):tG (l.map .str)=Mq l:=iX (fun _=>rfl) l
mutual
theorem zB:∀t:Ty,sD t.g=aD t
 | .mk k i l=>by simp only[Ty.g,sD,lR,aD,HT l,abG,abj,abF]
theorem HT:∀l:List Ty,tG (Ty.gs l)=Js l
 | []=>rfl
 | t::l=>by simp only[Ty.gs,tG,Js,zB t,HT l]
end
theorem xT (l:List Ty):tG (l.map Ty.g)=l.map aD:=iX zB l
theorem wk (b:aS):sD b.g=aV b:=rfl
theorem Ms (x:Term):sD x.g=Mr x:=by simp only[Term.g,sD,lR,Mr,zA,abG,abj,abF]
theorem Qs (x:Qq):sD x.g=Tr x:=by simp only[Qq.g,sD,lR,Tr,zA,xT,abG,abj,abF]
theorem Jt (x:Block):sD x.g=Gl x:=by simp only[Block.g,sD,lR,Gl,Ms,Mr,iX Qs,abG,abj,abF]
theorem Qt (f:Qr):sD f.g=Tt f:=by simp only[Qr.g,sD,lR,Tt,zB,iP,xT,zA,iX wk,iX Jt,abG,abj,abF]
theorem ED (x:Variant):sD x.g=uT x:=by simp only[Variant.g,sD,lR,uT,xT,abG,abj,abF]
theorem Mt (x:Api.Data):sD x.g=lG x:=by simp only[Data.g,sD,lR,lG,iX ED,abG,abj,abF]
theorem Mu (x:Impl):sD x.g=dS x:=by simp only[Impl.g,sD,lR,dS,zB,iP,iX wk,abG,abj,abF]
theorem Mv (x:Prog):sD x.g=kG x:=by
 simp only[Prog.g,sD,lR,kG,zA,Tv,iX Mt,iX Mu,iX Qt,abG,abj,abF];rw[iX (f:=fun l=>G.sl 1 (l.map I)) (h:=fun l=>[C.sl (uS l)]) (fun l=>by simp only[sD,zA])]
theorem bW {l:List Ty}{k:Nat}{x:Ty}{K:List C->Prop}(a:l[k]?=some x) (h:K [IC x.kind,IC x.id,.sl (x.args.map aD)]):ur (l.map aD) (k:Int) 3 K:=Gg a (iP x) rfl h
end Go.Fr.T
namespace Go.Fr.T
open Go Go.RowKit Go.Fr Go.ChangeShapes Go.WideShapes Go.ChangeAt
def tH:G->C
 | .int k n=>.int k n
 | .bool b=>.bool b
 | .str s=>.str s
 | .sl _ l=>.sl (tG l)
 | .st l=>.agg (lR l)
def R9 (P:Program):List TypeId->List G->Prop
 | [],[]=>True
 | t::ts,g::gs=>(∃n,Ok P n t g)/\R9 P ts gs
 | _,_=>False
section
variable {H:Type}{enc:TypeId×Value->H}{P:Program}{W:World}
theorem uU {F:aA}{L:Loc}{c:C}{v:Value}(h:aB F L [c] [v]):Rel F L c v:=by
 simp only[aB] at h;obtain⟨x,y,e,h1,h2⟩:=h;injection e with e1 e2
 subst e1;exact h1
theorem Qu {S:List TypeId}(hS:flat P S=true) {t:TypeId}(q:t∈S) {r:Reach}{u:Nat}{s:Nat->Bool}{hd:Bool}{v:Value}{d:DataW H}{ps:List MemPlace}(f:Value.okWide P W r u t v)
  (h:DataW.Trod enc P W 0 s hd t v d ps) (hb:iO d<=maxLen):∃n g,Ok P n t g/\Rel (qV W) [] (tH g) v/\g.bulk<=iO d:=by
 obtain⟨o,h⟩:=h;obtain⟨g,h1,h2,h3⟩:=Qp hS o t _ _ q h;refine⟨o,g,h1,?_,h3⟩;have h4:=(C2 h2 (abN h3 hb)).1;have hf:=abg.1 hS t q;cases o with
 | zero=>exact h1.elim
 | succ n =>
 simp only[Mn] at hf;simp only[Ok] at h1;split at hf
 ·rename_i j;obtain⟨b,rfl⟩:=okWide_bool j f;simp only[j] at h1;obtain⟨p,rfl⟩:=h1;exact uU h4
 ·rename_i k j;obtain⟨m,rfl⟩:=okWide_int j f;simp only[j] at h1;obtain⟨p,rfl,_⟩:=h1;exact uU h4
 ·rename_i j;obtain⟨m,rfl⟩:=okWide_string j f;simp only[j] at h1;obtain⟨p,rfl⟩:=h1;exact uU h4
 ·rename_i e j;obtain⟨a,l,c,rfl⟩:=okWide_slice j f;simp only[j] at h1;obtain⟨p,rfl,_⟩:=h1;exact uU h4
 ·rename_i w j;simp only[Value.okWide,j] at f;obtain⟨cs,rfl,_,_⟩:=f;simp only[j] at h1;obtain⟨l,rfl,_⟩:=h1;simp only[tH,Rel];exact⟨cs.toList,by simp,h4⟩
 ·cases hf
theorem BN {S:List TypeId}(hS:flat P S=true) {r:Reach}{m:Nat}{l:Nat->Bool}{hd:Bool}:∀{ts:List TypeId}{a:List Value}{ds:List (DataW H)}{ps:List MemPlace},(∀t∈ts,t∈S) ->
  (∀(j:Nat) t v,ts[j]?=some t->a[j]?=some v->Value.okWide P W r m t v)->DataW.TrodAll enc P W 0 l hd ts a ds ps->fj ds<=maxLen ->
  ∃gs,R9 P ts gs/\aB (qV W) [] (gs.map tH) a/\G.aat gs<=fj ds
 | [],[],[],_,_,_,_,_=>⟨[],trivial,by simp only[abX,aB],by simp[G.aat]⟩
 | t::ts,v::a,d::ds,ps,e,f,⟨p,q,h1,h2,_⟩,hb=>by
  simp only[fj] at hb ⊢;obtain⟨n,g,s,o,u⟩:=Qu hS (e t (by simp)) (f 0 t v rfl rfl) h1 (by omega);obtain⟨gs,k1,k,w⟩:=BN hS (fun t b=>e t (by simp[b])) (fun j t v b c=>f (j+1) t v (by simpa using b) (by simpa using c)) h2 (by omega);refine⟨g::gs,⟨⟨n,s⟩,k1⟩,?_,by simp only[G.aat];omega⟩;simp only[abe,aB];exact⟨v,a,rfl,o,k⟩
 | [],_::_,_,_,_,_,h,_=>h.elim
 | [],[],_::_,_,_,_,h,_=>h.elim
 | _::_,[],_,_,_,_,h,_=>h.elim
 | _::_,_::_,[],_,_,_,h,_=>h.elim
theorem AO {ts:List TypeId}(j:laidOutB P=true) (c:ts.all (fun t=>P.readableRec t&&decide (t<P.types.size))=true) {W':World}(hb:Below W.heap.size W W') {f:Nat->Bool} :
  ∀{b:List Value}{ds:List (DataW H)}{ps:List MemPlace},DataW.TrodAll enc P W 0 (fun _=>true) true ts b ds ps->(∀x∈ps,x.block<W.heap.size)->(∀x∈ps,f x.block=true)->DataW.TrodAll enc P W' 0 f true ts b ds ps:=by
 induction ts with
 | nil =>
  intro b ds ps h _ _
  match b,ds,h with
  | [],[],h=>exact h
 | cons t ts l =>
  intro b ds ps h h1 h2
  match b,ds,h with
  | v::b,d::ds,⟨p,q,k1,k,e⟩ =>
   subst e;simp only[abu,xo,abf] at c;refine⟨p,q,WideElems.Trod_stays j c.1.1 c.1.2 k1 (fun x a=>hb.same (h1 x (by simp[a]))) (fun x a=>h2 x (by simp[a])),l (by simpa using c.2) k (fun x a=>h1 x (by simp[a])) (fun x a=>h2 x (by simp[a])),rfl⟩
theorem AP {f:Func}{s:ChangeSpec}{W W':World}{args:Array Value}{v:Value}{ds gs:List (DataW H)}{a pa pv:List MemPlace}
  (o:DataW.Whole enc P f.params.toList s.vars false W args.toList ds gs a)
  (k:∀(b:Nat) (l:Nat->Bool) (hd:Bool),DataW.TrodAll enc P W' b l hd f.resultTypes.toList (v.resultList f.resultTypes.size) (s.fn H (ds++gs)).results [])
  (c:∀l:Nat->Bool,(∀p∈a,l p.block=true)->DataW.TrodAll enc P W' 0 l true f.params.toList args.toList (s.fn H (ds++gs)).args pa)
  (d:∀l:Nat->Bool,(∀p∈a,l p.block=true)->DataW.TrodVars enc P W' l s.vars (s.fn H (ds++gs)).vars pv)
  (m:a=pa++pv) (hb:Below W.heap.size W W')
  (q:∀(j:Nat) (t:TypeId) (r:Value),f.resultTypes[j]?=some t->(v.resultList f.resultTypes.size)[j]?=some r->Value.okWide P W' .any 0 t r) :
  s.post enc P f false true false false W args v W':=by
 have h:∀p∈a,(fun b=>decide (b<W.heap.size)) p.block=true:=fun p e=>by simpa using o.lt p e
 have u:∀p∈a,p.block<W.heap.size:=fun p e=>o.lt p e;refine⟨ds,gs,a,[],pa,pv,o,k _ _ _,c _ h,d _ h,World.keptBut_mono (fun p e=>⟨e,?_⟩) (hb.frame (·∈a)),fun _=>?_⟩
 ·rw[m,aa9] at e;exact Or.inr e
 ·obtain⟨_,_,_,_,_,x,y⟩:=o;refine⟨q,_,_,([]++pa)++pv,⟨[]++pa,pv,trodAll_append (c _ (fun _ _=>rfl)) (k _ _ _),d _ (fun _ _=>rfl),rfl,?_,?_⟩,?_⟩
  ·intro b off e;have n:MemPlace.cell b off∈a:=by rw[m];simpa using e
   rw[hb.frozen (p:=⟨b,off,none⟩) (u _ n)];exact x b off n
  ·intro w;cases w
  ·intro p e _;rw[m];simpa using e
theorem entry {f:FuncId}{ts:List TypeId}{S:List TypeId}(hS:flat P S=true) (p:∀t∈ts,t∈S) {r:Reach}{s:Nat}{args:Array Value}{ds:List (DataW H)}{ps:List MemPlace}
  (d:∀(j:Nat) t v,ts[j]?=some t->args.toList[j]?=some v->Value.okWide P W r s t v) (h:DataW.TrodAll enc P W 0 (fun _=>true) true ts args.toList ds ps) (l:fj ds<=1048576)
  (w:tU (qV W)) (law:∀gs,R9 P ts gs->G.aat gs<=1048576->CallsT P f (gs.map tH) [] (aQ [] (.bool true))) :
  Calls P f args W fun e W'=>e=.returned (.bool true)/\Below W.heap.size W W':=by
 obtain⟨gs,k1,q,k3⟩:=BN hS p d h (abN l (by decide));have u:=(law gs k1 (by omega)).out (qV W) [] args.toList rfl (fun k=>by rw[show(inp []).get k=none from rfl,show(cT []).get k=none from rfl];trivial) q;have he:∀k,(inp []).get k=none:=fun _=>rfl;have m:St (qV W) (inp []) W:=⟨fun b o h=>h,fun k o h=>(by rw[he] at h;cases h),fun k o g h=>(by rw[he] at h;cases h),fun k k' o o' g h=>(by rw[he] at h;cases h),w⟩;refine Calls.mono (u.run W m) ?_;rintro e W' ⟨v,F',Lo,rfl,hs,a,Mo,c,y,z,n,x,rfl,rfl⟩;simp only[Rel] at n;subst n;exact⟨rfl,a.os,a.tape,a.output,a.size,fun k l=>a.same k l (by rintro⟨_,_,h,_⟩;cases h)⟩
theorem AQ {f:FuncId}{fn:Func}{s:ChangeSpec}{S:List TypeId}{tb:TypeId}(hl:laidOutB P=true) (hS:flat P S=true) (hm:fn.params.toList.all (fun t=>S.contains t&&(P.readableRec t&&decide (t<P.types.size)))=true)
  (d:fn.resultTypes=#[tb]) (l:P.underlying tb=some .bool) (a:s.vars=[])
  (law:∀gs,R9 P fn.params.toList gs->G.aat gs<=1048576->CallsT P f (gs.map tH) [] (aQ [] (.bool true)))
  {r:Reach}{b0:Nat}{args:Array Value}{ds gs:List (DataW H)}{c:List MemPlace}(h:s.fn H ds={results:=[.lit (.bool true)],args:=ds})
  (n:∀(j:Nat) t v,fn.params[j]?=some t->args[j]?=some v->Value.okWide P W r b0 t v)
  (u:DataW.Whole enc P fn.params.toList s.vars false W args.toList ds gs c) (hk:fj ds<=1048576) (hG:tU (qV W):=by exact trivial) :
  Calls P f args W fun e W'=>∃v,e=.returned v/\s.post enc P fn false true false false W args v W':=by
 have m:=u;rw[a] at u;obtain⟨p,q,hA,hV,rfl,ag,ad⟩:=u;obtain⟨rfl,rfl⟩:=trodVars_none hV;have k:=abg.1 hm;refine(entry hS (fun t w=>by have:=k t w;simp only[xo,List.contains_iff_mem] at this;exact this.1) (fun j t v h1 h2=>n j t v (by simpa using h1) (by simpa using h2)) hA hk hG law).mono ?_;rintro e W' ⟨rfl,hb⟩;refine⟨_,rfl,AP (pa:=p) (pv:=[]) m ?_ ?_ ?_ rfl hb (ok_one d rfl (okWide_bool_mk l _))⟩
 ·intro b z hd;simp only[abG,h,d];exact trodAll_cons_mk (shut_bool l _) trodAll_mk0
 ·intro z o;simp only[abG,h];exact AO hl (abg.2 fun t w=>by have:=k t w;simp only[xo] at this ⊢;exact this.2) hb hA (fun x y=>m.lt x (by simp[y])) (fun x y=>o x (by simp[y]))
 ·intro z o;rw[a];simp only[abG,h];exact rfl
end
end Go.Fr.T
namespace Go.Fr.T
open Go Go.RowKit Go.Fr Go.Fr.Api
theorem qW {P:Program}{t:TypeId}{ts:List TypeId}{gs:List G}(h:R9 P (t::ts) gs):∃g r n,gs=g::r/\Ok P n t g/\R9 P ts r:=by
 cases gs with
 | nil=>exact h.elim
 | cons g r=>obtain⟨⟨n,h1⟩,h2⟩:=h;exact⟨g,r,n,rfl,h1,h2⟩
theorem Qv {P:Program}{gs:List G}(h:R9 P [] gs):gs=[]:=by
 cases gs with
 | nil=>rfl
 | cons g r=>exact h.elim
theorem HU {l:List G}:tH (.st l)=.agg (sD (.st l)):=by simp only[tH,sD]
theorem Qw (x:Ty):tH x.g=.agg (aD x):=by
 rw[<-zB];cases x;exact HU
theorem Ju (x:Prog):tH x.g=.agg (kG x):=by
 rw[<-Mv];exact HU
theorem Tw (n:Int):tH (I n)=IC n:=rfl
theorem Mw (l:List Ty) {n:Nat}:tH (.sl n (l.map Ty.g))=.sl (l.map aD):=by simp only[tH,xT]
theorem oP {a:Sort _}{p:a->Prop}{K:Prop}(h:∃x,p x) (H:∀x,p x->K):K:=h.elim H
theorem bR {a:Type}{l:List a}{k:Nat}{K:Prop}(h:k<l.length) (H:∀x,l[k]?=some x->x∈l->K):K:=H l[k] (aa4 h) (List.getElem_mem h)
theorem aX {a:Type}{l:List a}{k:Nat}{K:Prop}(h:k<l.length) (H:∀x,l[k]?=some x->x∈l->l.drop k=x::l.drop (k+1)->K):K:=H l[k] (aa4 h) (List.getElem_mem h) (List.drop_eq_getElem_cons h)
section
variable {P:Program}{L:TL}{ρ:aG}
def Such (p:Prop):List TO->C->Prop:=fun Mo v=>Mo=[]/\∃b,v=.bool b/\(b=true->p)
theorem Mx {Lin:List TO}{v:C}{p:Prop}(b:Bool) (hb:aH Lin (List.range' 1000 Lin.length) []=true) (e:v.aaB.ren (bn [] 1000)=.bool b) (a:b=true->p):fe Lin L v (Such p) :=
 ⟨[],[],L,v,v,[],rfl,.inl ⟨rfl,rfl⟩,rfl,rfl,hb,fun _=>⟨rfl,b,e,a⟩⟩
end
end Go.Fr.T
namespace Go.Fr.T
open Go Go.RowKit Go.Fr
theorem CallsT.give {P:Program}{f:Nat}{args:List C}{t sz:Nat}{els:List (List C)}(h:CallsT P f args [] (aQ [.row t sz els] (.rw 1000))):CallsT P f args [] (aQ [] (.sl els)):=by
 refine⟨fun F Li vs u n s=>?_⟩;obtain rfl:Li=[]:=List.length_eq_zero_iff.1 u;have q:=h.out F [] vs rfl n s;refine⟨q.ent,gV.aaC,fun w hs=>Calls.mono (q.run w hs) ?_⟩;rintro e w' ⟨v,F',Lo,rfl,l,p,Mo,c,q1,y,x,q4,rfl,rfl⟩;have m:aC (inp Lo) (fun _=>.v undef) (⟨#[],[]⟩:Act):=by
  refine⟨fun j=>?_,fun j k off e=>(by cases e),fun j a i e=>(by cases e)⟩;simp[conc]
 obtain⟨F2,L2,g1,g2,r,g4,z⟩:=pO (G:=fun _=>none) (k:=1000) l m (τ:=fun _=>.any) ⟨y,fun j=>trivial,fun k g t e=>(by cases e),l.glob⟩ (show(cT [TO.row t sz els]).get 1000=some (.row t sz els) from rfl);refine⟨v,F2,[],rfl,g1.part (fun k o e=>by cases e),?_,[],.sl els,rfl,fun k=>trivial,?_,fun i g t cs e=>(by cases e),rfl,rfl⟩
 ·have d:=p.trans r;exact⟨d.le,d.os,d.tape,d.output,d.size,d.same,d.frz,fun b ⟨k,o,e,_⟩=>(by cases e)⟩
 ·have:=z x;have e:(C.rw 1000).frz 1000 els=.sl els:=rfl;rw[e] at this;simp only[Rel] at this ⊢;exact this
end Go.Fr.T
