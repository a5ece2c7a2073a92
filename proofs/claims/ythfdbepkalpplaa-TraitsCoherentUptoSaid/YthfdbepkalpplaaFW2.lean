/- Part of the proofs of the statements of this seat. -/
import Derived.Test.YthfdbepkalpplaaFW1
import Derived.Tactics
import Derived.Tactics2
import Derived.Defers
import Derived.Recover
import Derived.OneCell
import Derived.ChangeArms
import Derived.DataReads
import Derived.Carry
import Derived.ChangeSame
import Derived.WalkKit
import Derived.ProofKit
import Derived.OpenShut
set_option maxRecDepth 10000
set_option linter.unusedVariables false
set_option linter.unusedSimpArgs false
namespace Go.Fr.T
open Go Go.RowKit Go.Fr
section
variable {P:Program}{G:Nat->Option (Nat×TypeId)}{F:aA}{L:Loc}{ρ:Env}{M:TL}{τ:aM}
def Both (G:Nat->Option (Nat×TypeId)) (K:TK):dG:=fun F L ρ=>∃M τ,TS G F L ρ M τ/\K M τ
theorem lH {k:Nat}{a:Option Addr}{c n:Nat}{t sz:Nat}{xs:List Value}(h:L.get k=some (.row (.slice a n c) t sz n xs)):aN F L (.rw k) (.v (.slice a n c)) :=
 ⟨_,rfl,by simp only[Rel];exact⟨a,c,t,sz,n,xs,rfl,h⟩⟩
theorem R0 {g:Nat}{F':aA}{t:TypeId}{cs:List C}{a:List Value}{b:Nat×Nat}(c:F' g=some (.cells a.toArray t b)) (h1:eT cs=true) (d:aB F' [] cs a):aN F' L (.pt cs 0) (.v (.pointer (some ⟨g,0,none⟩))) :=
 ⟨g,0,0,a,.inl ⟨rfl,rfl⟩,⟨0,_,t,b,c,rfl,fun i v hi=>by simpa using hi⟩,h1,d⟩
theorem jF (he:∀j,aN F L (τ j) (ρ j)) {sz:Nat}:∀{xs:List X},qo τ sz xs=true->ga L ρ sz xs=true/\aP F sz (uW τ xs) (cellsOf L ρ xs)/\(uW τ xs).length=xs.length
 | [],_=>⟨rfl,by simp only[uW,cellsOf,aP],rfl⟩
 | x::xs,h=>by
  simp only[qo] at h;split at h
  case h_2=>cases h
  rename_i h1 e d k;obtain⟨k1,c,f⟩:=jF he h;have b:=iF he h1;have a:(aO (val L ρ x)).length=sz:=by rw[b.len];exact cg e
  refine⟨by simp only[ga,jv a];exact k1,?_,by simp only[uW,aa5,f]⟩;simp only[uW,cellsOf,aP];exact⟨_,_,rfl,a,nV d,ld (jA k b),c⟩
theorem gu {t:Nat}(h:Tj t=true):t<1048576/\t≠0:=by
 unfold Tj at h;split at h
 ·cases h
 ·rename_i h1;have:=aa9 h;exact⟨by omega,fun e=>by subst e;simp at h1⟩
theorem GA {t:TypeId}{x:X}{k:Nat}{K:TK}(f:TS G F L ρ M τ) (l:M.get k=none) (m:(cZ τ x).okc=true) (b:t<1048576/\t≠0) (h:K (M.set k (.box t (cO (cZ τ x)))) (bA (some k) (.own k 0) τ)) (g:Nat) :
  Both G K F (L.set k (.box g t (aO (val L ρ x)))) (put (some k) (.own k 0) ρ):=by
 have d:=cj f.tl l;have a:Ext L (L.set k (.box g t (aO (val L ρ x)))):=by
  intro j p e;refine⟨p,?_,Own.aah p⟩;rw[Loc.aac,fo (by rintro rfl;rw[d] at e;cases e)];exact e
 have h1:=f.new (aA.le_refl F) d (o:=.box g t (aO (val L ρ x))) (to:=.box t (cO (cZ τ x))) ⟨⟨b.1,.inl rfl,b.2⟩,(iF f.env m).ext (aA.le_refl F) a⟩;exact⟨_,_,h1.put (c:=.own k 0) (sv:=.own k 0) ⟨rfl,g,t,_,by rw[Loc.aac,eu rfl]⟩ (some k),h⟩
theorem AX {t:TypeId}{zs:List Value}{k:Nat}{K:TK}(d:TS G F L ρ M τ) (e:M.get k=none) (a:t<1048576/\t≠0) (h:K (M.set k (.box t (zs.map rT))) (bA (some k) (.own k 0) τ)) (g:Nat) :
  Both G K F (L.set k (.box g t zs)) (put (some k) (.own k 0) ρ):=by
 have b:=cj d.tl e;have h1:=d.new (aA.le_refl F) b (o:=.box g t zs) (to:=.box t (zs.map rT)) ⟨⟨a.1,.inl rfl,a.2⟩,kY zs⟩;exact⟨_,_,h1.put (c:=.own k 0) (sv:=.own k 0) ⟨rfl,g,t,_,by rw[Loc.aac,eu rfl]⟩ (some k),h⟩
theorem GD {e n sz:Nat}{xs:List X}{d:Option Nat}{K:TK}(a:TS G F L ρ M τ) (j:qo τ sz xs=true) (l:xs.length=n) (m:n<=maxLen) (h:K M (bA d (.slx (uW τ xs)) τ)) {g:Nat}{F':aA}(hF:F.le F')
  (k:F' g=some (.cells (cellsOf L ρ xs).toArray e (0,0))):Both G K F' L (put d (.v (.slice (some ⟨g,0,none⟩) n n)) ρ):=by
 obtain⟨k1,f,b⟩:=jF a.env j;have hf:dL F' (some ⟨g,0,none⟩) 0 (cellsOf L ρ xs):=⟨_,_,_,_,rfl,k,rfl,fun i v hi=>by simpa using hi⟩;refine⟨_,_,(a.mono hF).put (c:=.slx (uW τ xs)) ⟨_,rfl,?_⟩ d,h⟩;simp only[Rel];exact⟨⟨g,0,none⟩,by rw[b,l],by omega,sz,(f.mono hF).frz hf⟩
theorem NR {e n sz:Nat}{xs:List X}{k:Nat}{K:TK}(a:TS G F L ρ M τ) (m:qo τ sz xs=true) (p:xs.length=n) (f:n<=maxLen) (j:M.get k=none) (h:K (M.set k (.row e sz (uW τ xs))) (bA (some k) (.rw k) τ)) (g:Nat) :
  Both G K F (L.set k (.row (.slice (some ⟨g,0,none⟩) n n) e sz n (cellsOf L ρ xs))) (put (some k) (.v (.slice (some ⟨g,0,none⟩) n n)) ρ):=by
 obtain⟨k1,d,l⟩:=jF a.env m;have b:=cj a.tl j;have h1:=a.new (aA.le_refl F) b (o:=.row (.slice (some ⟨g,0,none⟩) n n) e sz n (cellsOf L ρ xs)) (to:=.row e sz (uW τ xs)) ⟨rfl,rfl,by rw[l,p],⟨f,_,_,rfl,fun e=>(by cases e)⟩,d⟩;exact⟨_,_,h1.put (c:=.rw k) (lH (by rw[Loc.aac,eu rfl])) (some k),h⟩
theorem sH {e sz:Nat}{k:Nat}{els b:List (List C)}{d:Option Nat}{K:TK}(l:TS G F L ρ M τ) {s:Value}{xs f:List Value}(m:L.get k=some (.row s e sz els.length xs)) (q:aP F sz els xs) (o:aP F sz b f)
  (p:els.length+b.length<=maxLen) (h:K ((M.aad (C.kill k)).set k (.row e sz (els++b))) (bA d (.rw k) fun j=>(τ j).kill k)) {v:Value}(n:∃a c,v=.slice a (els.length+b.length) c/\(a=none->els.length+b.length=0)) :
  Both G K F (L.set k (.row v e sz (els.length+b.length) (xs++f))) (put d (.v v) ρ):=by
 obtain⟨a,c,rfl,r⟩:=n;have h1:=l.aay (k:=k) (o':=.row (.slice a (els.length+b.length) c) e sz (els.length+b.length) (xs++f)) (to:=.row e sz (els++b)) (fun g t cs e=>by rw[m] at e;injection e with e;cases e)
  ⟨rfl,rfl,by simp,⟨p,a,c,rfl,r⟩,q.append o⟩
 exact⟨_,_,h1.put (c:=.rw k) (lH (by rw[Loc.aac,eu rfl])) d,h⟩
theorem qy {e sz:Nat}{k:Nat}{b:List (List C)}{d:Option Nat}{K:TK}(j:TS G F L ρ M τ) {f:List Value}(l:M.get k=none) (n:aP F sz b f)
  (q:b.length<=maxLen) (h:K (M.set k (.row e sz b)) (bA d (.rw k) τ)) {v:Value}(m:∃a c,v=.slice a (0+b.length) c/\(a=none->0+b.length=0)) :
  Both G K F (L.set k (.row v e sz (0+b.length) ([]++f))) (put d (.v v) ρ):=by
 obtain⟨a,c,rfl,p⟩:=m;have h1:=j.new (aA.le_refl F) (cj j.tl l) (o:=.row (.slice a (0+b.length) c) e sz (0+b.length) ([]++f)) (to:=.row e sz b) ⟨rfl,rfl,by simp,⟨by omega,a,c,rfl,p⟩,n⟩;exact⟨_,_,h1.put (c:=.rw k) (lH (by rw[Loc.aac,eu rfl])) d,h⟩
theorem tT {x:X}{k e sz:Nat}{els:List (List C)}(f:TS G F L ρ M τ) (l:cZ τ x=.rw k) (h:M.get k=some (.row e sz els)) :
  ∃a c xs,ev ρ x=.v (.slice a els.length c)/\L.get k=some (.row (.slice a els.length c) e sz els.length xs)/\aP F sz els xs/\els.length<=maxLen:=by
 obtain⟨a,c,r,o,n,q,j,d⟩:=Fu f.env l;obtain⟨v,xs,b,⟨m,_⟩,p⟩:=mE f.tl h;rw[d] at b;injection b with b
 injection b with q1 q2 q3 q4 q5
 subst q2 q3 q4 q5;exact⟨a,c,_,j,d,p,m⟩
set_option maxHeartbeats 1000000 in
theorem DJ {e sz b:Nat}{s x:X}{d:Option Nat}{K:TK}(l:TS G F L ρ M τ) (h:ND e sz b (cZ τ s) (cZ τ x) d M τ K):∃sv xv,ev ρ s=.v sv/\ev ρ x=.v xv/\Gl F L e sz b sv xv fun L1 v=>Both G K F L1 (Fr.put d (.v v) ρ):=by
 have he:=l.env;simp only[ND,gk] at h;split at h
 ·rename_i k f z n;split at h
  case h_2=>exact h.elim
  rename_i e' bl els p;split at h
  case h_2=>exact h.elim
  rename_i h1 h2;obtain rfl:=aaQ h1;obtain rfl:=aaQ h2;obtain⟨g1,m,t,g4⟩:=h;obtain⟨a,c,xs,e1,e2,hr,hm⟩:=tT l z p;obtain⟨a',q,ao,e3,e4,e5,e6,e7⟩:=lG he n;obtain⟨w,y1,y2,y3⟩:=jE e7 g1;exact⟨_,_,e1,e3,k,els.length,xs,f.length,w,.inl e2,⟨a',q,rfl,y1,y2.imp id .inl⟩,y3.ones,m,t,fun v hv=>sH l e2 hr y3 m g4 hv⟩
 ·rename_i f k z n;split at h
  case h_2=>exact h.elim
  rename_i p;obtain⟨g1,m,t,g4⟩:=h;obtain⟨a',q,ao,e3,e4,e5,e6,e7⟩:=lG he n;obtain⟨w,y1,y2,y3⟩:=jE e7 g1;simp only[abL] at m t;exact⟨_,_,tN he z,e3,k,0,[],f.length,w,.inr (.inl ⟨cj l.tl p,rfl,rfl,rfl⟩),⟨a',q,rfl,y1,y2.imp id .inl⟩,y3.ones,m,t,fun v hv=>qy l p y3 (by omega) g4 hv⟩
 ·rename_i els f k z n;split at h
  case h_2=>exact h.elim
  rename_i p;obtain⟨g0,bi,g1,m,t,g4⟩:=h;obtain⟨a,ce,e1,hm,e2⟩:=Cj he z;obtain⟨a',q,ao,e3,e4,e5,e6,e7⟩:=lG he n;obtain⟨w,y1,y2,y3⟩:=jE e7 g1;obtain⟨xs,x1,x2,x3⟩:=jE e2 bi;refine⟨_,_,e1,e3,k,els.length,xs,f.length,w,.inr (.inr ⟨cj l.tl p,a,rfl,g0,x1,x2⟩),⟨a',q,rfl,y1,y2.imp id .inl⟩,y3.ones,m,t,fun v hv=>?_⟩;obtain⟨av,cv,rfl,hn⟩:=hv;have h1:=l.new (aA.le_refl F) (cj l.tl p) (o:=.row (.slice av (els.length+f.length) cv) e sz (els.length+f.length) (xs++w)) (to:=.row e sz (els++f)) ⟨rfl,rfl,by simp,⟨m,av,cv,rfl,hn⟩,x3.append y3⟩;exact⟨_,_,h1.put (c:=.rw k) (lH (by rw[Loc.aac,eu rfl])) _,g4⟩
 ·rename_i k k' z n;have n:=Ci n;split at h
  case h_2=>exact h.elim
  rename_i e' bl els az ar f p r;split at h
  case h_2=>exact h.elim
  rename_i h1 h2 h3;obtain rfl:=aaQ h1;obtain rfl:=aaQ h2;obtain rfl:=aaQ h3;obtain⟨g1,m,t,g4⟩:=h;obtain⟨a,c,xs,e1,e2,hr,hm⟩:=tT l z p;obtain⟨a',q,w,e3,e4,j,be⟩:=tT l n r;refine⟨_,_,e1,e3,k,els.length,xs,f.length,w,.inl e2,⟨a',q,rfl,iE j,?_⟩,j.ones,m,t,fun v hv=>sH l e2 hr j m g4 hv⟩;cases a' with
  | some ad=>exact .inr (.inr ⟨k',_,_,_,_,_,ad,q,e4,rfl,rfl,fun i u hu=>hu⟩)
  | none =>
   obtain⟨v,ay,q1,⟨_,a2,c2,y,q3⟩,q4⟩:=mE l.tl r;rw[e4] at q1;injection q1 with q1
   injection q1 with r1 r2 r3 r4 r5
   rw[<-r1] at y;injection y with y
   have hz:=q3 y.symm;have hl:=iE j;refine .inr (.inl ⟨hz,List.length_eq_zero_iff.1 (by rw[hl,hz];simp)⟩)
 ·rename_i k' k z n;have n:=Ci n;split at h
  case h_2=>exact h.elim
  rename_i az ar f p r;split at h
  case h_2=>exact h.elim
  rename_i h3;obtain rfl:=aaQ h3;obtain⟨g1,m,t,g4⟩:=h;obtain⟨a',q,w,e3,e4,j,be⟩:=tT l n r;simp only[abL] at m t;refine⟨_,_,tN he z,e3,k,0,[],f.length,w,.inr (.inl ⟨cj l.tl p,rfl,rfl,rfl⟩),⟨a',q,rfl,iE j,?_⟩,j.ones,m,t,fun v hv=>qy l p j (by omega) g4 hv⟩;cases a' with
  | some ad=>exact .inr (.inr ⟨k',_,_,_,_,_,ad,q,e4,rfl,rfl,fun i u hu=>hu⟩)
  | none =>
   obtain⟨v,ay,q1,⟨_,a2,c2,y,q3⟩,q4⟩:=mE l.tl r;rw[e4] at q1;injection q1 with q1
   injection q1 with r1 r2 r3 r4 r5
   rw[<-r1] at y;injection y with y
   have hz:=q3 y.symm;have hl:=iE j;refine .inr (.inl ⟨hz,List.length_eq_zero_iff.1 (by rw[hl,hz];simp)⟩)
 ·exact h.elim
theorem NS {e sz b:Nat}{zs:List Value}{s x:X}{d:Option Nat}{K:TK}(f:TS G F L ρ M τ) (h:bT P (.app e sz b zs s x) d M τ K):evalOp P (.app e sz b zs s x) d F L ρ (Both G K):=by
 obtain⟨sv,k,j,a,c⟩:=DJ f h;simp only[evalOp,j,a];exact c
theorem Kt {e sz b:Nat}{zs:List Value}{s x:X}{d:Option Nat}{K:TK}(k:TS G F L ρ M τ) (h:bT P (.appX e sz b zs s x) d M τ K):evalOp P (.appX e sz b zs s x) d F L ρ (Both G K):=by
 obtain⟨sv,u,l,f,⟨r,n,xs,m,a,h1,q,j,c,t,p⟩⟩:=DJ k h;simp only[evalOp,l,f];exact⟨r,n,xs,m,a,h1,q,j,c,t,fun v o _=>p v o⟩
set_option maxHeartbeats 1000000 in
theorem Ku {e sz b:Nat}{zs:List Value}{s x:X}{d:Option Nat}{K:TK}(j:TS G F L ρ M τ) (h:bT P (.appD e sz b zs s x) d M τ K):evalOp P (.appD e sz b zs s x) d F L ρ (Both G K):=by
 have he:=j.env;simp only[bT,gk,fu,eZ] at h;simp only[evalOp];split at h
 ·rename_i k f q y;split at h
  case h_2=>exact h.elim
  rename_i e' aE els m;split at h
  case h_2=>exact h.elim
  rename_i h1 h2;obtain rfl:=aaQ h1;obtain rfl:=aaQ h2;obtain⟨t,l,p,r⟩:=h;obtain⟨a,c,xs,e1,e2,hr,hm⟩:=tT j q m;obtain⟨a',c',ab,z,e4,e5,e6,w⟩:=lG he y;obtain⟨n,y1,y2,y3⟩:=jE w t;rw[e1,z];exact⟨k,els.length,xs,f.length,n,.inl e2,⟨a',c',rfl,y1,y2⟩,y3.ones,l,p,fun v u _=>sH j e2 hr y3 l r u⟩
 ·rename_i f k q y;split at h
  case h_2=>exact h.elim
  rename_i m;obtain⟨t,l,p,r⟩:=h;obtain⟨a',c',ab,z,e4,e5,e6,w⟩:=lG he y;obtain⟨n,y1,y2,y3⟩:=jE w t;simp only[abL] at l p;rw[tN he q,z];exact⟨k,0,[],f.length,n,.inr (.inl ⟨rfl,cj j.tl m,rfl,rfl,rfl⟩),⟨a',c',rfl,y1,y2⟩,y3.ones,l,p,fun v u _=>qy j m y3 (by omega) r u⟩
 ·rename_i els f k q y;split at h
  case h_2=>exact h.elim
  rename_i m;obtain⟨g0,ae,t,l,p,r⟩:=h;obtain⟨a,ao,e1,hm,e2⟩:=Cj he q;obtain⟨a',c',ab,z,e4,e5,e6,w⟩:=lG he y;obtain⟨n,y1,y2,y3⟩:=jE w t;obtain⟨xs,x1,x2,x3⟩:=jE e2 ae;rw[e1,z];refine⟨k,els.length,xs,f.length,n,.inr (.inr ⟨rfl,cj j.tl m,a,rfl,g0,x1,x2⟩),⟨a',c',rfl,y1,y2⟩,y3.ones,l,p,fun v u _=>?_⟩;obtain⟨av,cv,rfl,hn⟩:=u;have h1:=j.new (aA.le_refl F) (cj j.tl m) (o:=.row (.slice av (els.length+f.length) cv) e sz (els.length+f.length) (xs++n)) (to:=.row e sz (els++f)) ⟨rfl,rfl,by simp,⟨l,av,cv,rfl,hn⟩,x3.append y3⟩;exact⟨_,_,h1.put (c:=.rw k) (lH (by rw[Loc.aac,eu rfl])) _,r⟩
 ·exact h.elim
theorem AY {n:Nat}{y x:X}{d:Option Nat}{K:TK}(u:TS G F L ρ M τ) (h:storeT false n y x d M τ K):evalOp P (.store n y x) d F L ρ (Both G K):=by
 have he:=u.env;simp only[storeT,gk,fu,eZ] at h;simp only[evalOp];split at h
 ·rename_i k off h1 h2 s hy;split at h
  case h_2=>exact h.elim
  rename_i t cs hk;split at h
  case h_2=>exact h.elim
  rename_i hl;obtain⟨g,ty,vs,hL,q,z⟩:=lu u.tl hk;have l:=iF he h1;have p:ig (aO (val L ρ x)) n=true:=jv (by rw[l.len];exact cg h2);have ho:=wV (nW l s);rw[p,ho,(jq he hy).1];simp only[hL];have ae:=(q.drop off).take n;rw[oJ z.2.2 (jv (by rw[ae.len];exact cg hl))];have h4:=u.turn (o':=.box g ty (bU vs off (aO (val L ρ x)))) (to:=.box t (jo cs off (cO (cZ τ x)))) hL ⟨rfl,rfl⟩ (fun g' t' cs' e=>by injection e with a b c;subst a b;exact⟨_,rfl⟩)
   (fun L' hx=>⟨z,(mX q l).ext (aA.le_refl F) hx⟩)
  exact⟨_,_,h4.put (c:=.und) (sv:=.v undef) ⟨_,rfl,by simp only[Rel]⟩ d,h⟩
 ·rename_i k j off h1 h2 s hy;split at h
  case h_2=>exact h.elim
  rename_i t sz els h0 hk hp;obtain⟨r0,es,r1,r2,r3⟩:=h;obtain⟨ad,t',f,m,c,aw,e1,e2⟩:=wU he hy;obtain⟨v,xs,e3,⟨hm,q6⟩,q⟩:=mE u.tl hk;rw[e2] at e3;injection e3 with e3
  injection e3 with q1 q2 q3 q4 q5
  subst q1 q2 q3 q4 q5;have l:=iF he h1;have o:(aO (val L ρ x)).length=n:=by rw[l.len];exact cg h2
  have p:ig (aO (val L ρ x)) n=true:=jv o;have ho:=wV (nW l s);rw[p,ho,e1];have be:es.length=f:=by
   obtain⟨us,u1,_,u3,_⟩:=q.at r1;rw[<-u1,u3.len]
  have hn:off+n<=f:=aa9 r0;have r:=q.set (ds:=(cO (cZ τ x)).map C.can) (us:=aO (val L ρ x)) (off:=off) r1 (by rw[o];exact hn) (ld (jA hp l)) (nV s);have w:j<els.length:=(aaR.1 r1).1;have ao:=iE q;have h4:=u.turn (o':=.row (.slice (some ad) els.length c) t' f els.length (bU aw (j*f+off) (aO (val L ρ x)))) (to:=.row t' f (els.set j (jo es off ((cO (cZ τ x)).map C.can)))) e2 ⟨rfl,rfl,rfl⟩
   (fun g' aE cs' e=>by cases e) (fun L' hx=>⟨rfl,rfl,by simp,⟨hm,_,_,rfl,fun e=>(by cases e)⟩,r⟩)
  refine⟨k,_,_,_,_,_,ad,c,e2,rfl,rfl,?_,nW l s,_,_,h4.put (c:=.und) (sv:=.v undef) ⟨_,rfl,by simp only[Rel]⟩ d,r3 es r1⟩;rw[ao,o];have:(j+1)*f<=els.length*f:=Nat.mul_le_mul_right _ w;rw[Nat.add_mul] at this;omega
 ·exact h.elim
theorem yj {n:Nat}{y x:X}{d:Option Nat}{K:TK}(l:TS G F L ρ M τ) (h:storeT true n y x d M τ K):evalOp P (.storeD n y x) d F L ρ (Both G K):=by
 have he:=l.env;simp only[storeT,gk,fu,eZ] at h;simp only[evalOp];split at h
 ·rename_i k off h1 h2 u hy;split at h
  case h_2=>exact h.elim
  rename_i t cs w;split at h
  case h_2=>exact h.elim
  rename_i r;obtain⟨g,ty,vs,p,q,f⟩:=lu l.tl w;have m:=iF he h1;have o:ig (aO (val L ρ x)) n=true:=jv (by rw[m.len];exact cg h2);have z:=wV (nW m u);rw[o,z,(jq he hy).1];simp only[p];have j:=(q.drop off).take n;rw[oJ f.2.2 (jv (by rw[j.len];exact cg r))];have s:=l.turn (o':=.box g ty (bU vs off (aO (val L ρ x)))) (to:=.box t (jo cs off (cO (cZ τ x)))) p ⟨rfl,rfl⟩ (fun g' t' cs' e=>by injection e with a b c;subst a b;exact⟨_,rfl⟩)
   (fun L' hx=>⟨f,(mX q m).ext (aA.le_refl F) hx⟩)
  exact⟨_,_,s.put (c:=.und) (sv:=.v undef) ⟨_,rfl,by simp only[Rel]⟩ d,h⟩
 ·exact h.elim
 ·exact h.elim
theorem Iu {e sz b:Nat}{zs:List Value}{l c:X}{d:Option Nat}{K:TK}(j:TS G F L ρ M τ) (h:bT P (.makeS e sz b zs l c) d M τ K):evalOp P (.makeS e sz b zs l c) d F L ρ (Both G K):=by
 have he:=j.env;simp only[bT,gk,fu,eZ] at h;simp only[evalOp];split at h
 case h_2=>exact h.elim
 rename_i k1 n k2 m k r x;split at h
 case h_2=>exact h.elim
 rename_i t h1 h2;rw[(gL he r).1,(gL he x).1];have a:=cj j.tl t;simp only[a];obtain⟨w,q,u,p,v⟩:=h;refine⟨w,q,u,p,fun g=>?_⟩;have y:aB F [] ((zs.map rT).map C.can) zs:=ld (kY zs);have f:∀i:Nat,aP F sz (List.replicate i ((zs.map rT).map C.can)) (List.replicate i zs).flatten:=by
  intro i
  induction i with
  | zero=>simp only[List.replicate_zero,List.flatten_nil,aP]
  | succ i z =>
   simp only[ab2,List.flatten_cons,aP];exact⟨zs,_,rfl,by have:=cg h1;simpa using this,nV h2,y,z⟩
 have s:=j.new (aA.le_refl F) a (o:=.row (.slice (some ⟨g,0,none⟩) n.toNat m.toNat) e sz n.toNat (List.replicate n.toNat zs).flatten) (to:=.row e sz (List.replicate n.toNat ((zs.map rT).map C.can)))
  ⟨rfl,rfl,by simp,⟨abv (Int.toNat_le_toNat q) p,_,_,rfl,fun e=>(by cases e)⟩,f _⟩
 exact⟨_,_,s.put (c:=.rw k) (lH (by rw[Loc.aac,eu rfl])) (some k),v⟩
end
section
variable {P:Program}{G:Nat->Option (Nat×TypeId)}{F:aA}{L:Loc}{ρ:Env}{M:TL}{τ:aM}
theorem Cl:∀{ks:List Nat}{i j m:Nat},bB ks i j=some m->∃n,ks[n]?=some j/\m=i+n
 | [],_,_,_,h=>by simp[bB] at h
 | k::ks,i,j,m,h=>by
  simp only[bB] at h;cases a:Nat.beq j k with
  | true =>
   have:=aaQ a;subst this;rw[a] at h;injection h with h
   exact⟨0,by simp,by omega⟩
  | false =>
   rw[a] at h;obtain⟨n,h1,b⟩:=Cl h;exact⟨n+1,by simpa using h1,by omega⟩
theorem nZ {ko:List Nat}{j m:Nat}(h:aJ ko j=some m):1000<=j/\ko[j-1000]?=some m:=by
 simp only[aJ] at h;split at h
 ·rename_i h1;exact⟨aa9 h1,h⟩
 ·cases h
theorem cT:∀{l:List Nat},aS l=true->l.Nodup
 | [],_=>List.nodup_nil
 | k::l,h=>by
  simp only[aS] at h;split at h
  ·cases h
  ·rename_i h1;exact List.nodup_cons.2 ⟨fun a=>(by rw[cQ.2 a] at h1;cases h1),cT h⟩
theorem Kv {L':Loc}{f:Nat->Option Nat}(hf:∀j m,f j=some m->∀o,L.get j=some o->L'.get m=some o) (c:C) (v:Value) (d:c.leaf=true) (h:Rel F L c v):Rel F L' (wR f c) v:=by
 cases c<;>simp only[C.leaf,aa2] at d<;>simp only[wR]
 case rw j =>
  simp only[Rel] at h;obtain⟨a,c,t,sz,n,xs,rfl,h⟩:=h;cases b:f j with
  | none=>simp only[Rel]
  | some m=>simp only[Rel];exact⟨a,c,t,sz,n,xs,rfl,hf j m b _ h⟩
 case own j off =>
  simp only[Rel] at h;obtain⟨g,t,cs,h,rfl⟩:=h;cases b:f j with
  | none=>simp only[Rel]
  | some m=>simp only[Rel];exact⟨g,t,cs,hf j m b _ h,rfl⟩
 case mpr j =>
  simp only[Rel] at h;obtain⟨g,cs,h,rfl⟩:=h;cases b:f j with
  | none=>simp only[Rel]
  | some m=>simp only[Rel];exact⟨g,cs,hf j m b _ h,rfl⟩
 case ownv=>exact h.elim
 case elr=>exact h.elim
 all_goals
  exact bL (aA.le_refl F) (fun k e=>by rcases e with⟨off,e⟩ | e | e<;>cases e) rfl h
theorem Rel.ren {L':Loc}{f:Nat->Option Nat}(hf:∀j m,f j=some m->∀o,L.get j=some o->L'.get m=some o) {c:C}{v:Value}(h:Rel F L c v):Rel F L' (c.ren f) v:=Rel.mp (Kv hf) 3 h
theorem cK.ren {L':Loc}{f:Nat->Option Nat}(hf:∀j m,f j=some m->∀o,L.get j=some o->L'.get m=some o):∀{o:TO}{p:Own},cK F L o p->cK F L' (o.aad (C.ren f)) p
 | .box t cs,.box g a b,r=>⟨r.1,r.2.map fun c _ v h=>h.ren hf⟩
 | .row t sz els,.row v a d n xs,r=>r
 | .box _ _,.row ..,r=>r.elim
 | .row ..,.box ..,r=>r.elim
 | .map _,.row ..,r=>r.elim
 | .map es,.box g a b,r=>r
theorem kE (e:bS F L M):∀{ks:List Nat}{Lin:List TO},M.sub ks=some Lin->∃Li,L.sub ks=some Li/\Li.length=Lin.length/\∀(i:Nat) o p,Lin[i]?=some o->Li[i]?=some p->cK F L o p
 | [],Lin,h=>by simp only[TL.sub,xo] at h;subst h;exact⟨[],rfl,rfl,by simp⟩
 | k::ks,Lin,h=>by
  simp only[TL.sub] at h;split at h
  case h_2=>cases h
  rename_i o l h1 q;injection h with h
  subst h;obtain⟨Li,m,j,n⟩:=kE e q;rcases d9 (e k) with⟨a,f⟩ | ⟨o',p,a,f,r⟩
  ·rw[h1] at a;cases a
  ·rw[h1] at a;injection a with a
   subst a;refine⟨p::Li,by simp only[Loc.sub,f,m],by simp[j],fun i d c hi b=>?_⟩;cases i with
   | zero=>simp only[aa3,xo] at hi b;subst hi;subst b;exact r
   | succ i=>exact n i d c (by simpa using hi) (by simpa using b)
theorem lI {ks:List Nat}{Li:List Own}(b:L.sub ks=some Li):∀j m,bB ks 1000 j=some m->∀o,L.get j=some o->(inp Li).get m=some o:=by
 intro j m h o c;obtain⟨n,h1,rfl⟩:=Cl h;obtain⟨_,a⟩:=cE b;rw[aH,eu (by omega),show 1000+n-1000=n by omega,<-a n j h1];exact c
theorem lz (f:bS F L M) {ks:List Nat}{Lin:List TO}{Li:List Own}(e:Li.length=Lin.length) (c:L.sub ks=some Li) (d:∀(i:Nat) o p,Lin[i]?=some o->Li[i]?=some p->cK F L o p) :
  bS F (inp Li) (cJ (Lin.map (TO.aad (C.ren (bB ks 1000))))):=by
 intro k;rw[cA,aH];split
 ·rw[aa4];cases b:Lin[k-1000]? with
  | none =>
   have:Li[k-1000]?=none:=by rw[aby] at b ⊢;omega
   rw[this];trivial
  | some o =>
   have a:k-1000<Li.length:=by have:=(aaR.1 b).1;omega
   rw[aaO a];exact(d _ _ _ b (aaO a)).ren (lI c)
 ·trivial
def lJ (L:Loc) (k:Nat):Loc:=match L.get k with | some (.row ..)=>L.del k | _=>L
def mH:List Nat->Loc->Loc
 | [],L=>L
 | k::ks,L=>mH ks (lJ L k)
theorem ve (k:Nat):(∀c v,c.leaf=true->Rel F L c v->Rel F (lJ L k) (gj k c) v)/\(∀c sv,c.leaf=true->aN F L c sv->aN F (lJ L k) (gj k c) sv):=by
 by_cases a:∃v t sz n xs,L.get k=some (.row v t sz n xs)
 ·obtain⟨v,t,sz,n,xs,a⟩:=a;have e:lJ L k=L.del k:=by simp only[lJ,a]
  rw[e];have h1:∀g t cs,L.get k≠some (.box g t cs):=fun g t cs h=>by rw[a] at h;injection h with h;cases h
  have b:∀j,j≠k->∀o,L.get j=some o->∃o',(L.del k).get j=some o'/\Own.like o o':=fun j d o f=>⟨o,by rw[Loc.aag,fo d];exact f,Own.aah o⟩;exact⟨nY h1 b (aA.le_refl F),oW h1 b (aA.le_refl F)⟩
 ·have e:lJ L k=L:=by
   simp only[lJ];split
   ·rename_i h;exact fL ⟨_,_,_,_,_,h⟩ a
   ·rfl
  rw[e];refine⟨fun c v l h=>?_,fun c sv l h=>?_⟩
  ·cases c<;>simp only[gj]<;>first
    | exact h
    | exact h.elim
    | (split<;>first | exact h | (simp only[Rel];done))
  ·cases c<;>simp only[gj]<;>first
    | exact h
    | (split<;>first | exact h | trivial)
theorem Rel.kills:∀(ks:List Nat) {L:Loc}{c:C}{v:Value},Rel F L c v->Rel F (mH ks L) (C.kills ks c) v
 | [],L,c,v,h=>h
 | k::ks,L,c,v,h=>Rel.kills ks (Rel.mp (ve k).1 3 h)
theorem aN.kills:∀(ks:List Nat) {L:Loc}{c:C}{sv:SV},aN F L c sv->aN F (mH ks L) (C.kills ks c) sv
 | [],L,c,sv,h=>h
 | k::ks,L,c,sv,h=>aN.kills ks (aN.mp (ve k).1 (ve k).2 3 h)
theorem cK.kills (ks:List Nat) {L:Loc}:∀{o:TO}{p:Own},cK F L o p->cK F (mH ks L) (o.aad (C.kills ks)) p
 | .box t cs,.box g a b,r=>⟨r.1,r.2.map fun c _ v h=>h.kills ks⟩
 | .row t sz els,.row v a d n xs,r=>r
 | .box _ _,.row ..,r=>r.elim
 | .row ..,.box ..,r=>r.elim
 | .map _,.row ..,r=>r.elim
 | .map es,.box g a b,r=>r
theorem DK {k j:Nat}{o:Own}(h:(lJ L k).get j=some o):L.get j=some o/\(j=k->∃g t cs,o=.box g t cs):=by
 unfold lJ at h;split at h
 ·rw[Loc.aag] at h;split at h
  ·cases h
  ·rename_i a;exact⟨h,fun e=>fL e a⟩
 ·rename_i b;refine⟨h,fun e=>?_⟩;subst e;cases o with
  | box g t cs=>exact⟨g,t,cs,rfl⟩
  | row v t sz n xs=>exact fL h (b v t sz n xs)
theorem oZ:∀{ks:List Nat}{L:Loc}{j:Nat}{o:Own},(mH ks L).get j=some o->L.get j=some o/\(j∈ks->∃g t cs,o=.box g t cs)
 | [],L,j,o,h=>⟨h,by simp⟩
 | k::ks,L,j,o,h=>by
  obtain⟨h1,c⟩:=oZ (ks:=ks) h;obtain⟨b,d⟩:=DK h1;exact⟨b,fun a=>by
   rcases aaT.1 a with e | e
   ·exact d e
   ·exact c e⟩
theorem yp (ks:List Nat) (M:TL) (k:Nat):(TL.kills ks M).get k=(M.get k).map (TO.aad (C.kills ks)):=by
 cases ks with
 | nil =>
  simp only[TL.kills];cases M.get k with
  | none=>rfl
  | some o =>
   cases o with
   | box t cs =>
    have e:(C.kills []:C->C)=id:=rfl;simp[TO.aad,e]
   | row t sz els=>rfl
   | map es=>rfl
 | cons a ks=>exact qx _ _ _
theorem yq (ks:List Nat) (τ:aM) (j:Nat):dF ks τ j=(τ j).kills ks:=by cases ks<;>rfl
def Cm:TO->Bool
 | .row _ _ _=>true
 | _=>false
theorem gH:∀{Lin:List TO}{ks ko:List Nat},aK Lin ks ko=true->∀(i:Nat) o,Lin[i]?=some o->Cm o=false->∃k,ks[i]?=some k/\ko[i]?=some k
 | [],_,_,_,i,o,e,_=>by simp at e
 | .box d c0::l,[],ko,h,i,o,e,_=>by cases ko<;>simp[aK] at h
 | .box d c0::l,k::ks,[],h,i,o,e,_=>by simp[aK] at h
 | .box d c0::l,k::ks,c::ko,h,i,o,e,a=>by
  simp only[aK] at h;split at h
  case h_2=>cases h
  rename_i b;have:=aaQ b;subst this;cases i with
  | zero=>exact⟨k,by simp,by simp⟩
  | succ i=>simpa using gH h i o (by simpa using e) a
 | .map es::l,[],ko,h,i,o,e,_=>by cases ko<;>simp[aK] at h
 | .map es::l,k::ks,[],h,i,o,e,_=>by simp[aK] at h
 | .map es::l,k::ks,c::ko,h,i,o,e,a=>by
  simp only[aK] at h;split at h
  case h_2=>cases h
  rename_i b;have:=aaQ b;subst this;cases i with
  | zero=>exact⟨k,by simp,by simp⟩
  | succ i=>simpa using gH h i o (by simpa using e) a
 | .row ..::l,k::ks,c::ko,h,i,o,e,a=>by
  simp only[aK] at h;cases i with
  | zero =>
   simp only[aa3,xo] at e;subst e;cases a
  | succ i=>simpa using gH h i o (by simpa using e) a
 | .row ..::l,k::ks,[],h,i,o,e,a=>by
  simp only[aK] at h;cases i with
  | zero =>
   simp only[aa3,xo] at e;subst e;cases a
  | succ i =>
   obtain⟨c,h1,f⟩:=gH h i o (by simpa using e) a;simp at f
 | .row ..::l,[],ko,h,i,o,e,_=>by simp[aK] at h
theorem yt {Lin:List TO}{ks ko:List Nat}(h:aK Lin ks ko=true) (i:Nat) (t:TypeId) (cs:List C) (e:Lin[i]?=some (.box t cs)):∃k,ks[i]?=some k/\ko[i]?=some k:=gH h i _ e rfl
theorem rp {M:TL}{ks:List Nat}:∀{ko:List Nat},jI M ks ko=true->∀k∈ko,k∈ks\/M.get k=none
 | [],_,k,a=>by simp at a
 | k0::ko,h,k,a=>by
  simp only[jI] at h;rcases aaT.1 a with e | e
  ·subst e;split at h
   ·rename_i h1;exact .inl (cQ.1 h1)
   ·rename_i h1 b;exact .inr b
   ·cases h
  ·split at h
   ·exact rp h k e
   ·exact rp h k e
   ·cases h
theorem eG {ko:List Nat}{Lo:List Own}{L:Loc}(c:ko.Nodup) (d:ko.length=Lo.length) {i k:Nat}{o:Own}(b:ko[i]?=some k) (e:Lo[i]?=some o):(L.puts ko Lo).get k=some o:=by
 rcases cU ko Lo L k c d with⟨_,a⟩ | ⟨f,h1,a,_⟩
 ·exact fL (aaW b) a
 ·have:=AA c h1 b;subst this;rw[a,e]
theorem sI {k:Nat}{t sz:Nat}{els:List (List C)}(h:M.get k=some (.row t sz els)):∀{ks:List Nat},k∈ks->k∈rowsOf M ks
 | [],a=>by cases a
 | j::ks,a=>by
  simp only[rowsOf];rcases aaT.1 a with rfl | a
  ·rw[h];simp
  ·split
   ·exact abg _ (sI h a)
   ·exact sI h a
theorem yu {ks:List Nat}{k:Nat}{o:Own}(e:bS F L M) (f:k∈ks) (h:L.get k=some o) (hb:k∈rowsOf M ks->∃g t cs,o=.box g t cs):∃g t cs,o=.box g t cs:=by
 rcases d9 (e k) with⟨c,a⟩ | ⟨q,p,c,a,d⟩
 ·rw[h] at a;cases a
 ·rw[h] at a;injection a with a
  subst a;cases q with
  | row t sz els=>exact hb (sI c f)
  | box t cs =>
   cases o with
   | row=>exact d.elim
   | box g b cs'=>exact⟨g,b,cs',rfl⟩
  | map es =>
   cases o with
   | row=>exact d.elim
   | box g b cs'=>exact⟨g,b,cs',rfl⟩
theorem rq {f:Nat}{args:List C}{vs:List Value}{ks ko:List Nat}{Lin:List TO}{R:List TO->C->Prop}{K:TL->aM->C->Prop}(z:TS G F L ρ M τ) (ha:aB F L args vs)
  (h1:M.sub ks=some Lin) (h2:aS ks=true) (h3:aS ko=true) (h4:jI M ks ko=true) (h5:aK Lin ks ko=true)
  (h6:CallsT P f (args.map fun c=>c.aaj.ren (bB ks 1000)) (Lin.map (TO.aad (C.ren (bB ks 1000)))) R)
  (h7:∀v Mo,R Mo v->Wf v->(∀o∈Mo,o.Wf)->ko.length=Mo.length/\K (((M.aae ks).kills (rowsOf M ks)).puts ko (Mo.map (TO.aad (C.ren (aJ ko))))) (dF (rowsOf M ks) τ) (v.ren (aJ ko)).slt) :
  dY P f vs F L (fun F' L' v=>∃M' al c,TS G F' L' ρ M' al/\aN F' L' c (.v v)/\K M' al c):=by
 obtain⟨Li,e1,e2,e3⟩:=kE z.tl h1;have hn:=cT h2;have d:=cT h3;have ag:∀k,k∈ko->k∈ks\/L.get k=none:=fun k q=>(rp h4 k q).imp id fun e=>cj z.tl e;have ar:=cE e1;refine⟨ks,ko,Li,gP Li R,e1,hn,d,ag,h6.out F Li vs (by simp[e2]) (lz z.tl e2 e1 e3) ?_,?_⟩
 ·exact ha.map fun c _ v hc=>(jh hc).ren (lI e1)
 ·rintro v F' Lo hF ⟨Mo,c,q1,q2,q3,q4,q5⟩;have av:∀o∈Mo,o.Wf:=by
   intro o s;obtain⟨i,hi⟩:=abf.1 s;have l:i<Lo.length:=by rw[<-q1];exact(aaR.1 hi).1
   have:=q2 (1000+i);rw[cA,aH,eu (by omega),eu (by omega),show 1000+i-1000=i by omega,hi,aaO l] at this;exact cK.wf this
  obtain⟨k1,k2⟩:=h7 c Mo q5 q3.wf av;have b:ko.length=Lo.length:=by rw[k1,q1]
  have a:∀k g t cs,k∈ks->L.get k=some (.box g t cs)->∃cs',Loc.get ((L.aae ks).puts ko Lo) k=some (.box g t cs'):=by
   intro k g t cs q hg;obtain⟨i,hi⟩:=abf.1 q;have w:Li[i]?=some (.box g t cs):=by rw[<-ar.2 i k hi];exact hg
   have l:i<Lin.length:=by rw[<-e2];exact(aaR.1 w).1
   have hr:=e3 i _ _ (aaO l) w;cases hL:Lin[i] with
   | row=>rw[hL] at hr;exact hr.elim
   | box t' cs' =>
    obtain⟨k',n,b2⟩:=yt h5 i t' cs' (by rw[aaO l,hL]);rw[hi] at n;injection n with n
    subst n;obtain⟨ab,ac⟩:=q4 i g t cs w;exact⟨ab,eG d b b2 ac⟩
   | map es =>
    obtain⟨k',n,b2⟩:=gH h5 i (.map es) (by rw[aaO l,hL]) rfl;rw[hi] at n;injection n with n
    subst n;obtain⟨ab,ac⟩:=q4 i g t cs w;exact⟨ab,eG d b b2 ac⟩
  refine⟨b,a,?_⟩;generalize u:(L.aae ks).puts ko Lo=L' at a
  -- what was there before
  have y:∀k,k∉ks->∀o,L.get k=some o->L'.get k=some o:=by
   intro k q o s;rw[<-u];rcases cU ko Lo (L.aae ks) k d b with⟨a1,a2⟩ | ⟨i,a1,a2,a3⟩
   ·rw[a1,eX,fo q];exact s
   ·rcases ag k (aaW a1) with e | e
    ·exact fL e q
    ·rw[s] at e;cases e
  have x:Ext (mH (rowsOf M ks) L) L':=by
   intro k o s;obtain⟨g1,g2⟩:=oZ s
   by_cases q:k∈ks
   ·obtain⟨g,t,cs,rfl⟩:=yu z.tl q g1 g2;obtain⟨cs',h⟩:=a k g t cs q g1;exact⟨_,h,rfl,rfl⟩
   ·exact⟨o,y k q o g1,Own.aah o⟩
  have r:∀j m,aJ ko j=some m->∀o,(inp Lo).get j=some o->L'.get m=some o:=by
   intro j m hj o s;obtain⟨a1,a2⟩:=nZ hj;rw[aH,eu a1] at s;rw[<-u];exact eG d b a2 s
  refine⟨_,_,_,⟨fun k=>?_,fun j=>?_,fun k g t e=>?_,z.glob.mono hF⟩,kM (q3.ren r),k2⟩
  ·rcases nX ko (Mo.map (TO.aad (C.ren (aJ ko)))) ((M.aae ks).kills (rowsOf M ks)) k d (by simp[k1]) with⟨a1,a2⟩ | ⟨i,a1,a2,a3⟩
   ·have ae:L'.get k=(L.aae ks).get k:=by
     rw[<-u];rcases cU ko Lo (L.aae ks) k d b with⟨n,_⟩ | ⟨i,n,_,_⟩
     ·exact n
     ·exact fL (aaW n) a2
    rw[a1,ae,yp,rm,eX];split
    ·trivial
    ·rcases d9 (z.tl k) with⟨c1,c2⟩ | ⟨o,p,c1,c2,hr⟩
     ·rw[c1,c2];trivial
     ·rw[c1,c2];exact(hr.kills (rowsOf M ks)).ext hF x
   ·rw[a2,aa4];have l:i<Mo.length:=by simpa using a3
    have aa:i<Lo.length:=by omega
    have ae:L'.get k=some (Lo[i]):=by rw[<-u];exact eG d b a1 (aaO aa)
    rw[ae,aaO l];have:=q2 (1000+i);rw[cA,aH,eu (by omega),eu (by omega),show 1000+i-1000=i by omega,aaO l,aaO aa] at this;exact cK.ren r this
  ·rw[yq];exact((z.env j).kills (rowsOf M ks)).ext hF x
  ·obtain⟨cs,h⟩:=z.kp k g t e
   by_cases q:k∈ks
   ·exact a k g t cs q h
   ·exact⟨cs,y k q _ h⟩
theorem vg {f:Nat}{args:List C}{vs:List Value}{ks:List Nat}{Lin:List TO}{R:List TO->C->Prop}{K:TL->aM->C->Prop}(ht:TS G F L ρ M τ) (ha:aB F L args vs)
  (h1:M.sub ks=some Lin) (h2:aS ks=true) (h6:fG P f (args.map fun c=>c.aaj.ren (bB ks 1000)) (Lin.map (TO.aad (C.ren (bB ks 1000)))) R)
  (h7:∀v Mo,R Mo v->Wf v->(∀o∈Mo,o.Wf)->ks.length=Mo.length/\K ((M.aae ks).puts ks (Mo.map (TO.aad (C.ren (aJ ks))))) τ (v.ren (aJ ks)).slt) :
  dY P f vs F L (fun F' L' v=>∃M' ad c,TS G F' L' ρ M' ad/\aN F' L' c (.v v)/\K M' ad c):=by
 obtain⟨Li,e1,e2,e3⟩:=kE ht.tl h1;have q:=cT h2;have ac:=cE e1;refine⟨ks,ks,Li,_,e1,q,q,fun k d=>.inl d,h6.out F Li vs (by simp[e2]) (lz ht.tl e2 e1 e3) ?_,?_⟩
 ·exact ha.map fun c _ v hc=>(jh hc).ren (lI e1)
 ·rintro v F' Lo hF ⟨⟨Mo,c,q1,q2,q3,q4,q5⟩,bk,ar⟩;have an:∀o∈Mo,o.Wf:=by
   intro o r;obtain⟨i,hi⟩:=abf.1 r;have s:i<Lo.length:=by rw[<-q1];exact(aaR.1 hi).1
   have:=q2 (1000+i);rw[cA,aH,eu (by omega),eu (by omega),show 1000+i-1000=i by omega,hi,aaO s] at this;exact cK.wf this
  obtain⟨k1,k2⟩:=h7 c Mo q5 q3.wf an;have a:ks.length=Lo.length:=by rw[k1,q1]
  have b:∀k g t cs,k∈ks->L.get k=some (.box g t cs)->∃cs',Loc.get ((L.aae ks).puts ks Lo) k=some (.box g t cs'):=by
   intro k g t cs d hg;obtain⟨i,hi⟩:=abf.1 d;have z:Li[i]?=some (.box g t cs):=by rw[<-ac.2 i k hi];exact hg
   obtain⟨ag,al⟩:=q4 i g t cs z;exact⟨ag,eG q a hi al⟩
  refine⟨a,b,?_⟩;generalize n:(L.aae ks).puts ks Lo=L' at b;have w:∀k,k∉ks->∀o,L.get k=some o->L'.get k=some o:=by
   intro k d o r;rw[<-n];rcases cU ks Lo (L.aae ks) k q a with⟨a1,y⟩ | ⟨i,a1,y,a3⟩
   ·rw[a1,eX,fo d];exact r
   ·exact fL (aaW a1) d
  have u:Ext L L':=by
   intro k o r
   by_cases d:k∈ks
   ·obtain⟨i,hi⟩:=abf.1 d;have z:Li[i]?=some o:=by rw[<-ac.2 i k hi];exact r
    obtain⟨o',h1,h2⟩:=ar i o z;exact⟨o',by rw[<-n];exact eG q a hi h1,h2⟩
   ·exact⟨o,w k d o r,Own.aah o⟩
  have l:∀j m,aJ ks j=some m->∀o,(inp Lo).get j=some o->L'.get m=some o:=by
   intro j m hj o r;obtain⟨a1,y⟩:=nZ hj;rw[aH,eu a1] at r;rw[<-n];exact eG q a y r
  refine⟨_,_,_,⟨fun k=>?_,fun j=>(ht.env j).ext hF u,fun k g t e=>?_,ht.glob.mono hF⟩,kM (q3.ren l),k2⟩
  ·rcases nX ks (Mo.map (TO.aad (C.ren (aJ ks)))) (M.aae ks) k q (by simp[k1]) with⟨a1,y⟩ | ⟨i,a1,y,a3⟩
   ·have aa:L'.get k=(L.aae ks).get k:=by
     rw[<-n];rcases cU ks Lo (L.aae ks) k q a with⟨b1,_⟩ | ⟨i,b1,_,_⟩
     ·exact b1
     ·exact fL (aaW b1) y
    rw[a1,aa,rm,eX];split
    ·trivial
    ·rcases d9 (ht.tl k) with⟨c1,c2⟩ | ⟨o,p,c1,c2,hr⟩
     ·rw[c1,c2];trivial
     ·rw[c1,c2];exact hr.ext hF u
   ·rw[y,aa4];have s:i<Mo.length:=by simpa using a3
    have x:i<Lo.length:=by omega
    have aa:L'.get k=some (Lo[i]):=by rw[<-n];exact eG q a a1 (aaO x)
    rw[aa,aaO s];have:=q2 (1000+i);rw[cA,aH,eu (by omega),eu (by omega),show 1000+i-1000=i by omega,aaO s,aaO x] at this;exact cK.ren l this
  ·obtain⟨cs,h⟩:=ht.kp k g t e
   by_cases d:k∈ks
   ·exact b k g t cs d h
   ·exact⟨cs,w k d _ h⟩
theorem ru {ks:List Nat}:∀{ko:List Nat},(∀k∈ko,k∈ks)->jI M ks ko=true
 | [],_=>rfl
 | k::ko,h=>by
  simp only[jI,cQ.2 (h k (by simp))];exact ru fun j a=>h j (by simp[a])
def V6 (hb:List (Nat×Nat)) (L:Loc):Prop:=∀k n,(k,n)∈hb->∃g t cs,L.get k=some (.box g t cs)/\cs.length=n
def Fw (F':aA) (L':Loc) (M':TL):Prop:=∀k o,M'.get k=some o->∃p,L'.get k=some p/\cK F' L' o p
theorem AZ {F':aA}{L':Loc}{M':TL}(h:bS F' L' M'):Fw F' L' M':=fun k o e=>by
 rcases d9 (h k) with⟨a,b⟩ | ⟨o',p,a,b,c⟩
 ·rw[e] at a;cases a
 ·rw[e] at a;injection a with a
  subst a;exact⟨p,b,c⟩
def NT (PS:nU) (F':aA) (L':Loc) (v:Value):Prop:=∀s,PS.st=some s->∃M',Fw F' L' M'/\s M' v
theorem NT.no {PS:nU}(h:PS.st=none) {F':aA}{L':Loc}{v:Value}:NT PS F' L' v:=fun s e=>by rw[h] at e;cases e
def zQ (G:Nat->Option (Nat×TypeId)) (PS:nU) (F':aA) (L':Loc) (v:Value):Prop:=Kp G L'/\PS.ps v/\V6 PS.hb L'/\NT PS F' L' v
theorem DL:∀{hb:List (Nat×Nat)}{ks:List Nat},jJ M ks hb=true->∀k n,(k,n)∈hb->k∉ks/\∃t cs,M.get k=some (.box t cs)/\cs.length=n
 | [],ks,_,k,n,h=>by cases h
 | (j,m)::l,ks,h,k,n,a=>by
  simp only[jJ] at h;split at h
  case h_2=>cases h
  rename_i t cs h1 d;split at h
  case h_2=>cases h
  rename_i c;rcases aaT.1 a with e | a
  ·simp only[Prod.mk.injEq] at e;obtain⟨rfl,rfl⟩:=e;exact⟨fun b=>(by rw[cQ.2 b] at h1;cases h1),t,cs,d,cg c⟩
  ·exact DL h k n a
theorem NU {hb:List (Nat×Nat)}{ks:List Nat}{L':Loc}(d:bS F L M) (h:jJ M ks hb=true) (e:∀k g t cs,k∉ks->L.get k=some (.box g t cs)->L'.get k=some (.box g t cs)):V6 hb L':=by
 intro k n f;obtain⟨h1,t,cs,j,c⟩:=DL h k n f;obtain⟨g,ty,a,b,l,_⟩:=lu d j;exact⟨g,ty,a,e k g ty a h1 b,by rw[l.len,c]⟩
theorem rz {ks ko:List Nat}{Lin:List TO}{Li:List Own}{R:List TO->C->Prop}{K:TL->aM->C->Prop}(ht:TS G F L ρ M τ)
  (h2:aS ks=true) (h3:aS ko=true) (h4:jI M ks ko=true) (h5:aK Lin ks ko=true) (e1:L.sub ks=some Li) (e2:Li.length=Lin.length) (e3:∀(i:Nat) o p,Lin[i]?=some o->Li[i]?=some p->cK F L o p)
  (h7:∀v Mo,R Mo v->Wf v->(∀o∈Mo,o.Wf)->ko.length=Mo.length/\K (((M.aae ks).kills (rowsOf M ks)).puts ko (Mo.map (TO.aad (C.ren (aJ ko))))) (dF (rowsOf M ks) τ) (v.ren (aJ ko)).slt) :
  ∀v F' Lo,F.le F'->gP Li R F' Lo v->ko.length=Lo.length/\(∀k g t cs,k∈ks->L.get k=some (.box g t cs)->∃cs',Loc.get ((L.aae ks).puts ko Lo) k=some (.box g t cs')) /\
   ∃M' ae c,TS G F' ((L.aae ks).puts ko Lo) ρ M' ae/\aN F' ((L.aae ks).puts ko Lo) c (.v v)/\K M' ae c:=by
 have hn:=cT h2;have f:=cT h3;have an:∀k,k∈ko->k∈ks\/L.get k=none:=fun k n=>(rp h4 k n).imp id fun e=>cj ht.tl e;have am:=cE e1;rintro v F' Lo hF ⟨Mo,c,q1,q2,q3,q4,q5⟩;have ao:∀o∈Mo,o.Wf:=by
  intro o r;obtain⟨i,hi⟩:=abf.1 r;have d:i<Lo.length:=by rw[<-q1];exact(aaR.1 hi).1
  have:=q2 (1000+i);rw[cA,aH,eu (by omega),eu (by omega),show 1000+i-1000=i by omega,hi,aaO d] at this;exact cK.wf this
 obtain⟨k1,k2⟩:=h7 c Mo q5 q3.wf ao;have b:ko.length=Lo.length:=by rw[k1,q1]
 have a:∀k g t cs,k∈ks->L.get k=some (.box g t cs)->∃cs',Loc.get ((L.aae ks).puts ko Lo) k=some (.box g t cs'):=by
  intro k g t cs n hg;obtain⟨i,hi⟩:=abf.1 n;have u:Li[i]?=some (.box g t cs):=by rw[<-am.2 i k hi];exact hg
  have d:i<Lin.length:=by rw[<-e2];exact(aaR.1 u).1
  have hr:=e3 i _ _ (aaO d) u;cases hL:Lin[i] with
  | row=>rw[hL] at hr;exact hr.elim
  | box t' cs' =>
   obtain⟨k',l,b2⟩:=yt h5 i t' cs' (by rw[aaO d,hL]);rw[hi] at l;injection l with l
   subst l;obtain⟨z,aa⟩:=q4 i g t cs u;exact⟨z,eG f b b2 aa⟩
  | map es =>
   obtain⟨k',l,b2⟩:=gH h5 i (.map es) (by rw[aaO d,hL]) rfl;rw[hi] at l;injection l with l
   subst l;obtain⟨z,aa⟩:=q4 i g t cs u;exact⟨z,eG f b b2 aa⟩
 refine⟨b,a,?_⟩;generalize s:(L.aae ks).puts ko Lo=L' at a
 -- what was there before
 have x:∀k,k∉ks->∀o,L.get k=some o->L'.get k=some o:=by
  intro k n o r;rw[<-s];rcases cU ko Lo (L.aae ks) k f b with⟨a1,a2⟩ | ⟨i,a1,a2,a3⟩
  ·rw[a1,eX,fo n];exact r
  ·rcases an k (aaW a1) with e | e
   ·exact fL e n
   ·rw[r] at e;cases e
 have w:Ext (mH (rowsOf M ks) L) L':=by
  intro k o r;obtain⟨g1,g2⟩:=oZ r
  by_cases n:k∈ks
  ·obtain⟨g,t,cs,rfl⟩:=yu ht.tl n g1 g2;obtain⟨cs',h⟩:=a k g t cs n g1;exact⟨_,h,rfl,rfl⟩
  ·exact⟨o,x k n o g1,Own.aah o⟩
 have q:∀j m,aJ ko j=some m->∀o,(inp Lo).get j=some o->L'.get m=some o:=by
  intro j m hj o r;obtain⟨a1,a2⟩:=nZ hj;rw[aH,eu a1] at r;rw[<-s];exact eG f b a2 r
 refine⟨_,_,_,⟨fun k=>?_,fun j=>?_,fun k g t e=>?_,ht.glob.mono hF⟩,kM (q3.ren q),k2⟩
 ·rcases nX ko (Mo.map (TO.aad (C.ren (aJ ko)))) ((M.aae ks).kills (rowsOf M ks)) k f (by simp[k1]) with⟨a1,a2⟩ | ⟨i,a1,a2,a3⟩
  ·have ac:L'.get k=(L.aae ks).get k:=by
    rw[<-s];rcases cU ko Lo (L.aae ks) k f b with⟨l,_⟩ | ⟨i,l,_,_⟩
    ·exact l
    ·exact fL (aaW l) a2
   rw[a1,ac,yp,rm,eX];split
   ·trivial
   ·rcases d9 (ht.tl k) with⟨c1,c2⟩ | ⟨o,p,c1,c2,hr⟩
    ·rw[c1,c2];trivial
    ·rw[c1,c2];exact(hr.kills (rowsOf M ks)).ext hF w
  ·rw[a2,aa4];have d:i<Mo.length:=by simpa using a3
   have y:i<Lo.length:=by omega
   have ac:L'.get k=some (Lo[i]):=by rw[<-s];exact eG f b a1 (aaO y)
   rw[ac,aaO d];have:=q2 (1000+i);rw[cA,aH,eu (by omega),eu (by omega),show 1000+i-1000=i by omega,aaO d,aaO y] at this;exact cK.ren q this
 ·rw[yq];exact((ht.env j).kills (rowsOf M ks)).ext hF w
 ·obtain⟨cs,h⟩:=ht.kp k g t e
  by_cases n:k∈ks
  ·exact a k g t cs n h
  ·exact⟨cs,x k n _ h⟩
theorem yw {PS:nU}{Pp:Value->Prop}{f:Nat}{args:List C}{r:List Value}{ks ko:List Nat}{Lin:List TO}{R:List TO->C->Prop}{K:TL->aM->C->Prop}(a:TS G F L ρ M τ) (ha:aB F L args r)
  (h1:M.sub ks=some Lin) (h2:aS ks=true) (y:aS ko=true) (x:jI M ks ko=true) (h5:aK Lin ks ko=true) (u:jJ M ks PS.hb=true)
  (h6:CallsTX P f (args.map fun c=>c.aaj.ren (bB ks 1000)) (Lin.map (TO.aad (C.ren (bB ks 1000)))) R Pp) (p:∀v,Pp v->PS.ps v) (w:PS.st=none)
  (h7:∀v Mo,R Mo v->Wf v->(∀o∈Mo,o.Wf)->ko.length=Mo.length/\K (((M.aae ks).kills (rowsOf M ks)).puts ko (Mo.map (TO.aad (C.ren (aJ ko))))) (dF (rowsOf M ks) τ) (v.ren (aJ ko)).slt) :
  ∃Li,L.sub ks=some Li/\ks.Nodup/\ko.Nodup/\(∀k,k∈ko->k∈ks\/L.get k=none)/\oH P f r.toArray F Li (gP Li R) Pp/\(∀v F' L',xQ ks L L'->Pp v->zQ G PS F' L' v) /\
  ∀v F' Lo,F.le F'->gP Li R F' Lo v->ko.length=Lo.length/\(∀k g t cs,k∈ks->L.get k=some (.box g t cs)->∃cs',Loc.get ((L.aae ks).puts ko Lo) k=some (.box g t cs')) /\
   ∃M' d c,TS G F' ((L.aae ks).puts ko Lo) ρ M' d/\aN F' ((L.aae ks).puts ko Lo) c (.v v)/\K M' d c:=by
 obtain⟨Li,j,m,z⟩:=kE a.tl h1;have hn:=cT h2;have l:=cT y;have s:∀k,k∈ko->k∈ks\/L.get k=none:=fun k n=>(rp x k n).imp id fun e=>cj a.tl e;have an:=cE j;refine⟨Li,j,hn,l,s,h6.out F Li r (by simp[m]) (lz a.tl m j z) ?_,fun v F' L' b hv=>⟨fun k g t e=>let⟨cs,h⟩:=a.kp k g t e;let⟨cs',h',_⟩:=b k g t cs h;⟨cs',h'⟩,p v hv,NU a.tl u fun k g t cs n e=>let⟨cs',h',q⟩:=b k g t cs e;by rw[h',q n],NT.no w⟩,?_⟩
 ·exact ha.map fun c _ v hc=>(jh hc).ren (lI j)
 ·exact rz a h2 y x h5 j m z h7
theorem A7 {PS:nU}{Pp:Value->Prop}{f:Nat}{args:List C}{h:List Value}{ks ko:List Nat}{Lin:List TO}{R:List TO->C->Prop}{K:TL->aM->C->Prop}(q:TS G F L ρ M τ) (y:aB F L args h)
  (h1:M.sub ks=some Lin) (x:aS ks=true) (p:aS ko=true) (k:jI M ks ko=true) (z:aK Lin ks ko=true) (d:jJ M ks PS.hb=true)
  (w:CallsTX P f (args.map fun c=>c.aaj.ren (bB ks 1000)) (Lin.map (TO.aad (C.ren (bB ks 1000)))) R Pp) (b:∀v,Pp v->PS.ps v) (e:PS.st=none)
  (l:∀v Mo,R Mo v->Wf v->(∀o∈Mo,o.Wf)->ko.length=Mo.length/\K (((M.aae ks).kills (rowsOf M ks)).puts ko (Mo.map (TO.aad (C.ren (aJ ko))))) (dF (rowsOf M ks) τ) (v.ren (aJ ko)).slt) :
  fW P (zQ G PS) f h F L (fun F' L' v=>∃M' a c,TS G F' L' ρ M' a/\aN F' L' c (.v v)/\K M' a c):=by
 obtain⟨Li,r,s,n,u,q5,m,j⟩:=yw q y h1 x p k z d w b e l;exact⟨ks,ko,Li,gP Li R,fun _ _=>Pp,r,s,n,u,q5.toS,fun v F' Lo _ _ hb t=>m v F' _ hb t,j⟩
theorem jV:∀{Lin:List TO}{ks ko:List Nat},aK Lin ks ko=true->aK Lin ks ks=true
 | [],ks,ko,h=>by simp only[aK]
 | .box t cs::l,[],ko,h=>by simp only[aK] at h;cases h
 | .map es::l,[],ko,h=>by simp only[aK] at h;cases h
 | .row t sz els::l,[],ko,h=>by simp only[aK] at h;cases h
 | .box t cs::l,k::ks,[],h=>by simp only[aK] at h;cases h
 | .map es::l,k::ks,[],h=>by simp only[aK] at h;cases h
 | .box t cs::l,k::ks,a::ko,h=>by
  have e:Nat.beq k k=true:=by simp
  simp only[aK] at h ⊢;split at h
  ·rw[e];exact jV h
  ·cases h
 | .map es::l,k::ks,a::ko,h=>by
  have e:Nat.beq k k=true:=by simp
  simp only[aK] at h ⊢;split at h
  ·rw[e];exact jV h
  ·cases h
 | .row t sz els::l,k::ks,[],h=>by
  simp only[aK] at h ⊢;exact jV h
 | .row t sz els::l,k::ks,a::ko,h=>by
  simp only[aK] at h ⊢;exact jV h
theorem A8 {ps:Value->Prop}{hb:List (Nat×Nat)}{st:TL->Value->Prop}{PS:nU}{Pp:List TO->Value->Prop}{f:Nat}{args:List C}{vs:List Value}{ks ko:List Nat}{Lin:List TO}{R:List TO->C->Prop}{K:TL->aM->C->Prop}(j:TS G F L ρ M τ) (ha:aB F L args vs)
  (ab:PS=⟨ps,hb,some st⟩) (h1:M.sub ks=some Lin) (m:aS ks=true) (h3:aS ko=true) (h4:jI M ks ko=true) (h5:aK Lin ks ko=true) (am:jJ M ks hb=true)
  (h6:CallsTS P f (args.map fun c=>c.aaj.ren (bB ks 1000)) (Lin.map (TO.aad (C.ren (bB ks 1000)))) R Pp)
  (ac:∀v Mo,Pp Mo v->(∀o∈Mo,o.Wf)->ks.length=Mo.length->ps v/\st (((M.aae ks).kills (rowsOf M ks)).puts ks (Mo.map (TO.aad (C.ren (aJ ks))))) v)
  (h7:∀v Mo,R Mo v->Wf v->(∀o∈Mo,o.Wf)->ko.length=Mo.length/\K (((M.aae ks).kills (rowsOf M ks)).puts ko (Mo.map (TO.aad (C.ren (aJ ko))))) (dF (rowsOf M ks) τ) (v.ren (aJ ko)).slt) :
  fW P (zQ G PS) f vs F L (fun F' L' v=>∃M' d c,TS G F' L' ρ M' d/\aN F' L' c (.v v)/\K M' d c):=by
 subst ab;obtain⟨Li,l,x,e3⟩:=kE j.tl h1;have hn:=cT m;have z:=cT h3;have ae:∀k,k∈ko->k∈ks\/L.get k=none:=fun k n=>(rp h4 k n).imp id fun e=>cj j.tl e;obtain⟨aa,an⟩:=cE l;refine⟨ks,ko,Li,gP Li R,_,l,hn,z,ae,h6.out F Li vs (by simp[x]) (lz j.tl x l e3) (ha.map fun c _ v hc=>(jh hc).ren (lI l)),?_,rz j m h3 h4 h5 l x e3 h7⟩;rintro v F' Lo hF r u ⟨Mo,q1,q2,q3⟩;have y:∀o∈Mo,o.Wf:=by
  intro o ho;obtain⟨i,hi⟩:=abf.1 ho;have a:i<Lo.length:=by rw[<-q1];exact(aaR.1 hi).1
  have:=q2 (1000+i);rw[cA,aH,eu (by omega),eu (by omega),show 1000+i-1000=i by omega,hi,aaO a] at this;exact cK.wf this
 obtain⟨p1,p2⟩:=ac v Mo q3 y (by omega);have p:gP Li (fun Mo' _=>Mo'=Mo) F' Lo undef:=by
  refine⟨Mo,.any,q1,q2,by simp only[Rel],fun i g t cs e=>?_,rfl⟩;have a:i<ks.length:=by rw[<-aa];exact(aaR.1 e).1
  have w:=an i _ (aaO a);rw[e] at w;obtain⟨cs',h,_⟩:=u _ g t cs w;have m:Loc.get ((L.aae ks).puts ks Lo) ks[i]=Lo[i]?:=by
   have b:i<Lo.length:=by omega
   rw[aaO b];exact eG hn r (aaO a) (aaO b)
  exact⟨cs',by rw[<-m];exact h⟩
 have ag:aK Lin ks ks=true:=jV h5;obtain⟨_,_,M',d,c,t1,_,rfl⟩:=rz (K:=fun M' _ _=>M'=((M.aae ks).kills (rowsOf M ks)).puts ks (Mo.map (TO.aad (C.ren (aJ ks))))) j m m (ru fun k n=>n) ag l x e3
  (fun v' Mo' e _ _=>by subst e;exact⟨by omega,rfl⟩) undef F' Lo hF p
 exact⟨t1.kp,p1,NU j.tl am fun k g t cs n e=>(let⟨cs',h',q⟩:=u k g t cs e;by rw[h',q n]),fun s e=>by injection e with e;subst e;exact⟨_,AZ t1.tl,p2⟩⟩
theorem TS.same {L2:Loc}(b:TS G F L ρ M τ) (a:L.sameAs L2):TS G F L2 ρ M τ:=by
 have he:Ext L L2:=fun k o e=>⟨o,by rw[a k];exact e,Own.aah o⟩;refine⟨fun k=>?_,fun j=>(b.env j).ext (aA.le_refl F) he,fun k g t e=>?_,b.glob⟩
 ·rcases d9 (b.tl k) with⟨c,d⟩ | ⟨o,p,c,d,f⟩
  ·rw[a k,c,d];trivial
  ·rw[a k,c,d];exact f.ext (aA.le_refl F) he
 ·obtain⟨cs,h⟩:=b.kp k g t e;exact⟨cs,by rw[a k];exact h⟩
theorem yx:∀{ks a:List Nat},qu ks a=true->∀k∈ks,k∉a
 | [],a,_,k,h=>by cases h
 | j::ks,a,h,k,b=>by
  simp only[qu] at h;split at h
  ·cases h
  ·rename_i c;rcases aaT.1 b with rfl | b
   ·intro d;rw[cQ.2 d] at c;cases c
   ·exact yx h k b
theorem yA {PS:nU}{r:List Nat}{f:Nat}{args:List C}{p:List Value}{K:TL->aM->C->Prop}(ht:TS G F L ρ M τ) (ha:aB F L args p) (h:oV P PS r f args M τ K) (m:PS.st=none) :
  kS P (zQ G PS) r f p F L (fun F' L' v=>∃M' b c,TS G F' L' ρ M' b/\aN F' L' c (.v v)/\K M' b c):=by
 obtain⟨ks,Lin,R,Pp,h1,s,h0,h5,l,h6,d,x⟩:=h;have w:jI M ks ks=true:=ru (fun k hk=>hk);obtain⟨Li,q1,q,q3,q4,q5,z,y⟩:=yw ht ha h1 s s w h5 l h6 d m x;refine⟨ks,Li,gP Li R,fun _ _=>Pp,q1,q,yx h0,q5.toS,fun v F' L' Lo _ _ j hp=>z v F' L' j hp,fun v F' Lo hF n=>?_⟩;obtain⟨a1,a2,M',b,c,u,a4,a5⟩:=y v F' Lo hF n;have a:=rf (L:=L) q a1;refine⟨a1,fun i g t cs e=>?_,fun _=>⟨M',b,c,u.same a,a4.ext (aA.le_refl F') fun k o e=>⟨o,by rw[a k];exact e,Own.aah o⟩,a5⟩⟩;obtain⟨Mo,c',_,_,_,b4,_⟩:=n;exact b4 i g t cs e
theorem vU {ps:Value->Prop}{hb:List (Nat×Nat)}{st:TL->Value->Prop}{PS:nU}{fb:List Nat}{f:Nat}{args:List C}{vs:List Value}{K:TL->aM->C->Prop}(r:TS G F L ρ M τ) (ha:aB F L args vs) (al:PS=⟨ps,hb,some st⟩) (h:tL P ps hb st fb f args M τ K) :
  kS P (zQ G PS) fb f vs F L (fun F' L' v=>∃M' l c,TS G F' L' ρ M' l/\aN F' L' c (.v v)/\K M' l c):=by
 subst al;obtain⟨ks,Lin,R,Pp,h1,h2,h0,h5,an,h6,ab,h7⟩:=h;have h4:jI M ks ks=true:=ru (fun k b=>b);obtain⟨Li,x,e2,e3⟩:=kE r.tl h1;have hn:=cT h2;obtain⟨bm,ba⟩:=cE x;refine⟨ks,Li,gP Li R,_,x,hn,yx h0,h6.out F Li vs (by simp[e2]) (lz r.tl e2 x e3) (ha.map fun c _ v hc=>(jh hc).ren (lI x)),?_,fun v F' Lo hF hR=>?_⟩
 ·rintro v F' L' Lo hF ad u ⟨Mo,q1,q2,q3⟩;have ae:∀o∈Mo,o.Wf:=by
   intro o y;obtain⟨i,hi⟩:=abf.1 y;have d:i<Lo.length:=by rw[<-q1];exact(aaR.1 hi).1
   have:=q2 (1000+i);rw[cA,aH,eu (by omega),eu (by omega),show 1000+i-1000=i by omega,hi,aaO d] at this;exact cK.wf this
  obtain⟨y1,y2⟩:=cE ad;obtain⟨p1,p2⟩:=ab v Mo q3 ae (by omega);have p:∀j m,aJ ks j=some m->∀o,(inp Lo).get j=some o->L'.get m=some o:=by
   intro j m hj o y;obtain⟨a1,w⟩:=nZ hj;rw[aH,eu a1] at y;rw[y2 _ _ w];exact y
  refine⟨fun k g t e=>let⟨cs,h⟩:=r.kp k g t e;let⟨cs',h',_⟩:=u k g t cs h;⟨cs',h'⟩,p1,NU r.tl an fun k g t cs b e=>(let⟨cs',h',q⟩:=u k g t cs e;by rw[h',q b]),fun s e=>?_⟩;injection e with e
  subst e;refine⟨_,fun k o b=>?_,p2⟩;rcases nX ks (Mo.map (TO.aad (C.ren (aJ ks)))) [] k hn (by simp;omega) with⟨a1,w⟩ | ⟨i,a1,w,z⟩
  ·rw[a1] at b;cases b
  ·rw[w,aa4] at b;have d:i<Mo.length:=by simpa using z
   have n:i<Lo.length:=by omega
   rw[aaO d] at b;injection b with b
   subst b;refine⟨Lo[i],by rw[y2 _ _ a1];exact aaO n,?_⟩;have:=q2 (1000+i);rw[cA,aH,eu (by omega),eu (by omega),show 1000+i-1000=i by omega,aaO d,aaO n] at this;exact cK.ren p this
 ·obtain⟨a1,w,M',l,c,z,a4,a5⟩:=rz r h2 h2 h4 h5 x e2 e3 h7 v F' Lo hF hR;have a:=rf (L:=L) hn a1;refine⟨a1,fun i g t cs e=>?_,fun _=>⟨M',l,c,z.same a,a4.ext (aA.le_refl F') fun k o e=>⟨o,by rw[a k];exact e,Own.aah o⟩,a5⟩⟩;obtain⟨Mo,c',_,_,_,b4,_⟩:=hR;exact b4 i g t cs e
end
section
variable {P:Program}{G:Nat->Option (Nat×TypeId)}{F:aA}{L:Loc}{ρ:Env}{M:TL}{τ:aM}{a:Act}{w:World}
theorem DN {F':aA}(hF:F.le F') {k:Nat}{a:Option Addr}{c:Nat}{t sz:Nat}{els:List (List C)}{xs:List Value}(m:L.get k=some (.row (.slice a els.length c) t sz els.length xs))
  (r:Rel F' (L.del k) (.sl els) (.slice a els.length c)):(∀d v,C.leaf d=true->Rel F L d v->Rel F' (L.del k) (mW k els d) v)/\(∀d sv,C.leaf d=true->aN F L d sv->aN F' (L.del k) (mW k els d) sv):=by
 have l:∀j,j≠k->∀o,L.get j=some o->∃o',(L.del k).get j=some o'/\Own.like o o':=fun j f o u=>⟨o,by rw[Loc.aag,fo f];exact u,Own.aah o⟩;have b:∀g t cs,L.get k≠some (.box g t cs):=fun g t cs h=>by rw[m] at h;injection h with h;cases h
 constructor
 ·intro d v n h;cases d<;>simp only[C.leaf,aa2] at n
  case rw j =>
   simp only[mW];cases f:Nat.beq j k with
   | true =>
    have:=aaQ f;subst this;simp only[Rel] at h;obtain⟨a',y,s,p,x,q,rfl,h⟩:=h;rw[m] at h;injection h with h
    injection h with q1 q2 q3 q4 q5
    rw[<-q1];exact r
   | false =>
    have:=nY b l hF (.rw j) v rfl h;simpa only[gj,f] using this
  all_goals
   have:=nY b l hF _ v rfl h;simpa only[gj,mW] using this
 ·intro d sv n h;cases d<;>simp only[C.leaf,aa2] at n
  case rw j =>
   simp only[mW];cases f:Nat.beq j k with
   | true =>
    have:=aaQ f;subst this;simp only[aN,Rel] at h;obtain⟨v,e,a',y,s,p,x,q,rfl,h⟩:=h;rw[m] at h;injection h with h
    injection h with q1 q2 q3 q4 q5
    rw[<-q1] at e;exact⟨_,e,r⟩
   | false =>
    have:=oW b l hF (.rw j) sv rfl h;simpa only[gj,f] using this
  all_goals
   have:=oW b l hF _ sv rfl h;simpa only[gj,mW] using this
theorem cK.frz {F':aA}(hF:F.le F') {k:Nat}{els:List (List C)}(e:∀d v,C.leaf d=true->Rel F L d v->Rel F' (L.del k) (mW k els d) v):∀{o:TO}{p:Own},cK F L o p->cK F' (L.del k) (o.aad (C.frz k els)) p
 | .box t cs,.box g b f,r=>⟨r.1,r.2.map fun c _ v h=>Rel.mp e 3 h⟩
 | .row t sz els,.row v b j n xs,r=>⟨r.1,r.2.1,r.2.2.1,r.2.2.2.1,r.2.2.2.2.mono hF⟩
 | .box _ _,.row ..,r=>r.elim
 | .row ..,.box ..,r=>r.elim
 | .map _,.row ..,r=>r.elim
 | .map es,.box g b f,r=>⟨r.1,r.2.mono hF⟩
theorem sJ {k:Nat}{t sz:Nat}{els:List (List C)}(z:St F L w) (he:aD L ρ a) (l:TS G F L ρ M τ) (hk:M.get k=some (.row t sz els)) :
  ∃F' L',St F' L' w/\aD L' ρ a/\Step F L w F' L' w/\TS G F' L' ρ ((M.del k).aad (C.frz k els)) (fun j=>(τ j).frz k els)/\(∀{c v},Rel F L c v->Rel F' L' (c.frz k els) v):=by
 obtain⟨v,xs,s,⟨hm,n,cv,rfl,u⟩,hr⟩:=mE l.tl hk;obtain⟨F',L',g1,g2,g3,hF,d,rfl⟩:=qW (KK:=fun F' L'=>F.le F'/\Rs F' (.slice n els.length cv) sz els.length xs/\L'=L.del k) z he ⟨_,_,_,_,_,s,fun F' hF d=>⟨hF,d,rfl⟩⟩;have m:Rel F' (L.del k) (.sl els) (.slice n els.length cv):=by
  simp only[Rel];rcases d with⟨b,f,x⟩ | ⟨ad,c2,b,f,x⟩
  ·injection b with q1 q2 q3
   have:els=[]:=List.length_eq_zero_iff.1 q2;subst this;exact⟨n,cv,rfl,by simp,by simp,fun _=>⟨rfl,q3⟩,sz,by simp only[gK]⟩
  ·injection b with q1 q2 q3
   subst q1 q3;exact⟨some ad,cv,rfl,x,hm,fun e=>(by cases e),sz,(hr.mono hF).frz f⟩
 obtain⟨r,y⟩:=DN hF s m;refine⟨F',L.del k,g1,g2,g3,⟨fun j=>?_,fun j=>aN.mp r y 3 (l.env j),fun j g t e=>?_,l.glob.mono hF⟩,fun h=>Rel.mp r 3 h⟩
 ·rw[qx,TL.aag,Loc.aag];split
  ·trivial
  ·rcases d9 (l.tl j) with⟨b,f⟩ | ⟨o,p,b,f,q⟩
   ·rw[b,f];trivial
   ·rw[b,f];exact q.frz hF r
 ·obtain⟨cs,h⟩:=l.kp j g t e;exact⟨cs,by rw[Loc.aag,fo (by rintro rfl;rw[s] at h;injection h with h;cases h)];exact h⟩
def yB (k g:Nat):SV->SV
 | .own b off=>match Nat.beq b k with | true=>.v (.pointer (some ⟨g,off,none⟩)) | false=>.own b off
 | .v x=>.v x
 | .el a i=>.el a i
theorem Kw {F':aA}(hF:F.le F') {k g:Nat}{t:TypeId}{p:List Value}{es:List C}(s:L.get k=some (.box g t p)) (hg:F' g=some (.cells p.toArray t (0,0))) (h1:eT es=true) (z:aB F' [] es p) :
  (∀d v,C.leaf d=true->Rel F L d v->Rel F' (L.del k) (ri k es d) v)/\(∀d sv,C.leaf d=true->aN F L d sv->aN F' (L.del k) (ri k es d) (yB k g sv)):=by
 have r:∀j,j≠k->∀o,L.get j=some o->∃o',(L.del k).get j=some o'/\Own.like o o':=fun j f o ho=>⟨o,by rw[Loc.aag,fo f];exact ho,Own.aah o⟩;have m:∀o,NC F' g o o p:=fun o=>⟨0,_,t,(0,0),hg,by omega,fun i v hi=>by simpa using hi⟩;constructor
 ·intro d v hc h;cases d<;>simp only[C.leaf,aa2] at hc<;>simp only[ri]
  case own j off =>
   cases f:Nat.beq j k with
   | true =>
    have:=aaQ f;subst this;simp only[Rel] at h ⊢;obtain⟨g',u,cs,e,rfl⟩:=h;rw[s] at e;injection e with e
    injection e with e1 e2 e3
    subst e1;exact⟨_,_,p,rfl,m off,h1,z⟩
   | false=>exact bL hF (fun q e=>by
     rcases e with⟨off,e⟩ | e | e
     ·injection e with e;subst e;exact r j (gF f)
     ·cases e
     ·cases e) rfl h
  case rw j =>
   refine bL hF (fun q e=>?_) rfl h;rcases e with⟨off,e⟩ | e | e
   ·cases e
   ·injection e with e
    subst e;refine r j ?_;rintro rfl;simp only[Rel] at h;obtain⟨a',c',u,an,n',ao,rfl,h⟩:=h;rw[s] at h;injection h with h
    cases h
   ·cases e
  case mpr j =>
   cases f:Nat.beq j k with
   | true=>simp only[Rel]
   | false=>exact bL hF (fun q e=>by
     rcases e with⟨off,e⟩ | e | e
     ·cases e
     ·cases e
     ·injection e with e;subst e;exact r j (gF f)) rfl h
  case ownv=>exact h.elim
  case elr=>exact h.elim
  all_goals
   exact bL hF (fun q e=>by rcases e with⟨off,e⟩ | e | e<;>cases e) rfl h
 ·intro d sv hc h;have keep:∀{c:C},(∀j off,c≠.own j off)->c.leaf=true->c≠.any->aN F L c sv->yB k g sv=sv:=by
   intro c aa hl ag y;cases sv with
   | v x=>rfl
   | el a i=>rfl
   | own k' off =>
    exfalso;cases c<;>simp only[C.leaf,aa2] at hl<;>first
     | exact aa _ _ rfl
     | exact ag rfl
     | (obtain⟨v,e,_⟩:=y;cases e;done)
     | (obtain⟨b,o,j,us,e | e,_⟩:=y
        ·cases e.1
        ·cases e)
     | (obtain⟨ad,t,sz,n,c,xs,e,_⟩:=y;cases e;done)
     | (obtain⟨v,e | ⟨b,o,j,e,_⟩,_⟩:=y
        ·cases e
        ·cases e)
  cases d<;>simp only[C.leaf,aa2] at hc<;>simp only[ri]
  case any=>trivial
  case own j off =>
   obtain⟨rfl,g',u,cs,e⟩:=h;simp only[yB];cases f:Nat.beq j k with
   | true =>
    have:=aaQ f;subst this;exact⟨g,off,0,p,.inl ⟨rfl,rfl⟩,m off,h1,z⟩
   | false =>
    obtain⟨o',q1,q2⟩:=r j (gF f) _ e;cases o' with
    | row=>exact q2.elim
    | box g2 t2 ab=>exact⟨rfl,g2,t2,ab,q1⟩
  case ownv j off =>
   rw[keep (c:=.ownv j off) (fun _ _ e=>by cases e) rfl (fun e=>by cases e) h];cases f:Nat.beq j k with
   | true =>
    have:=aaQ f;subst this;obtain⟨v,ac,l⟩:=h;simp only[Rel] at l;obtain⟨g',u,cs,e,rfl⟩:=l;rw[s] at e;injection e with e
    injection e with e1 e2 e3
    subst e1;rcases ac with rfl | ⟨b,o,i,rfl,e⟩
    ·exact⟨g,off,0,p,.inl ⟨rfl,rfl⟩,m off,h1,z⟩
    ·injection e with e
     injection e with e
     injection e with q1 q2 q3
     subst q1 q2;exact⟨g,o,i,p,.inr rfl,m (o+i),h1,z⟩
   | false =>
    refine dK hF (fun q e=>?_) rfl h;rcases e with⟨off,e⟩ | ⟨off,e⟩ | e | ⟨a,b,e⟩ | e<;>first | cases e;done | skip
    injection e with e
    subst e;exact r j (gF f)
  case rw j =>
   rw[keep (c:=.rw j) (fun _ _ e=>by cases e) rfl (fun e=>by cases e) h];refine dK hF (fun q e=>?_) rfl h;rcases e with⟨off,e⟩ | ⟨off,e⟩ | e | ⟨a,b,e⟩ | e<;>first | cases e;done | skip
   injection e with e
   subst e;refine r j ?_;rintro rfl;obtain⟨v,_,l⟩:=h;simp only[Rel] at l;obtain⟨a',c',u,an,n',ao,rfl,h⟩:=l;rw[s] at h;injection h with h
   cases h
  case elr j a b =>
   rw[keep (c:=.elr j a b) (fun _ _ e=>by cases e) rfl (fun e=>by cases e) h];refine dK hF (fun q e=>?_) rfl h;rcases e with⟨off,e⟩ | ⟨off,e⟩ | e | ⟨a,b,e⟩ | e<;>first | cases e;done | skip
   injection e with e
   subst e;refine r j ?_;rintro rfl;obtain⟨ad,t,sz,n,c,xs,_,h⟩:=h;rw[s] at h;injection h with h
   cases h
  case mpr j =>
   rw[keep (c:=.mpr j) (fun _ _ e=>by cases e) rfl (fun e=>by cases e) h];cases f:Nat.beq j k with
   | true=>trivial
   | false =>
    refine dK hF (fun q e=>?_) rfl h;rcases e with⟨off,e⟩ | ⟨off,e⟩ | e | ⟨a,b,e⟩ | e<;>first | cases e;done | skip
    injection e with e
    subst e;exact r j (gF f)
  all_goals
   rw[keep (fun _ _ e=>by cases e) rfl (fun e=>by cases e) h];exact dK hF (fun q e=>by rcases e with⟨off,e⟩ | ⟨off,e⟩ | e | ⟨a,b,e⟩ | e<;>cases e) rfl h
theorem Kx (k g:Nat) (ρ:Env) (j:Nat):xu k g ρ j=yB k g (ρ j):=by
 simp only[xu,yB];cases ρ j<;>rfl
theorem Fx {k:Nat}{t:TypeId}{cs:List C}(hs:St F L w) (he:aD L ρ a) (d:TS G F L ρ M τ) (hk:M.get k=some (.box t cs)) (h1:eT cs=true) (h2:iX cs=true) (hG:G k=none) :
  ∃F' L' ρ',St F' L' w/\aD L' ρ' a/\Step F L w F' L' w/\TS G F' L' ρ' ((M.del k).aad (C.frb k cs)) (fun j=>(τ j).frb k cs):=by
 obtain⟨g,ty,vs,z,hr,s⟩:=lu d.tl hk;obtain⟨F',hF,y,g1,g2,g3⟩:=sn hs he z;rw[jy s.2.2] at y;obtain⟨x,l2⟩:=Kw (F:=F) hF z y h1 ((jA h2 hr).mono hF);refine⟨F',L.del k,_,g1,g2,g3,⟨fun j=>?_,fun j=>?_,fun j g t e=>?_,d.glob.mono hF⟩⟩
 ·rw[qx,TL.aag,Loc.aag];split
  ·trivial
  ·rcases d9 (d.tl j) with⟨r,m⟩ | ⟨o,p,r,m,b⟩
   ·rw[r,m];trivial
   ·rw[r,m];cases o with
    | row t sz els =>
     cases p with
     | box=>exact b.elim
     | row v u an n xs=>exact⟨b.1,b.2.1,b.2.2.1,b.2.2.2.1,b.2.2.2.2.mono hF⟩
    | box t cs =>
     cases p with
     | row=>exact b.elim
     | box g u us=>exact⟨b.1,b.2.map fun c _ v h=>Rel.mp x 3 h⟩
    | map es =>
     cases p with
     | row=>exact b.elim
     | box g u us=>exact⟨b.1,b.2.mono hF⟩
 ·rw[Kx];have l:=d.env j;cases f:(τ j).leaf with
  | true =>
   have e:(τ j).frb k cs=ri k cs (τ j):=wS f;simp only[e];exact l2 _ _ f l
  | false =>
   generalize ρ j=sv at l;generalize τ j=c at f l;have h':∃v,sv=.v v/\Rel F L c v:=by
    cases c<;>first | exact l | cases f
   obtain⟨v,rfl,hv⟩:=h';have q:Rel F' (L.del k) (c.frb k cs) v:=Rel.mp x 3 hv;cases c<;>first | exact⟨v,rfl,q⟩ | cases f
 ·obtain⟨cs,h⟩:=d.kp j g t e;exact⟨cs,by rw[Loc.aag,fo (by rintro rfl;rw[hG] at e;cases e)];exact h⟩
theorem o4:∀{o:List Nat}{F:aA}{L:Loc}{M:TL}{τ:aM}{args:List C}{f:List Value}{K:TL->aM->List C->Prop},St F L w->aD L ρ a->TS G F L ρ M τ->aB F L args f->x5 o M τ args K ->
  ∃F' L' M' e b,St F' L' w/\aD L' ρ a/\Step F L w F' L' w/\TS G F' L' ρ M' e/\aB F' L' b f/\K M' e b
 | [],F,L,M,τ,args,f,K,j,he,l,n,h=>⟨F,L,M,τ,args,j,he,Step.refl _ _ _,l,n,h⟩
 | k::o,F,L,M,τ,args,f,K,j,he,l,n,h=>by
  simp only[x5] at h;split at h
  case h_2=>exact h.elim
  rename_i t sz els q;obtain⟨F1,L1,z,g2,r,s,y⟩:=sJ j he l q;obtain⟨F2,L2,M2,m,d,k1,x,u,k4,k5,p⟩:=o4 z g2 s (n.map fun c _ v hc=>y hc) h;exact⟨F2,L2,M2,m,d,k1,x,r.trans u,k4,k5,p⟩
def tU (L:Loc):TL->Loc
 | []=>[]
 | (k,o)::l=>(k,match L.get k with
  | some p=>p
  | none=>match o with
   | .row t sz _=>.row (.slice none 0 0) t sz 0 []
   | .box _ _=>.row (.slice none 0 0) 0 0 0 []
   | .map _=>.row (.slice none 0 0) 0 0 0 [])::tU L l
theorem lK:∀(M1:TL) (k:Nat),(tU L M1).get k=match M1.get k with
  | some o=>some (match L.get k with | some p=>p | none=>match o with | .row t sz _=>.row (.slice none 0 0) t sz 0 [] | .box _ _=>.row (.slice none 0 0) 0 0 0 [] | .map _=>.row (.slice none 0 0) 0 0 0 [])
  | none=>none
 | [],k=>rfl
 | (j,o)::l,k=>by
  simp only[tU,Loc.get,TL.get];cases h:Nat.beq j k with
  | true=>have:=aaQ h;subst this;rfl
  | false=>exact lK l k
theorem DP:∀{l:TL}{M1:TL},gives M M1 l->∀{k o},l.get k=some o->(∃p,M.get k=some p/\V3 M M1 p o)\/(M.get k=none/\∃t sz,o=.row t sz [])
 | [],M1,h,k,o,e=>by cases e
 | (j,p)::l,M1,h,k,o,e=>by
  simp only[gives] at h;simp only[TL.get] at e;split at e
  ·rename_i b;have:=aaQ b;subst this;injection e with e
   subst e;exact h.1
  ·exact DP h.2 e
theorem vh (c:bS F L M) {M1:TL}:∀{l:TL},gives M M1 l->L.gives (tU L l)
 | [],h=>trivial
 | (j,p)::l,h=>by
  simp only[gives] at h;refine⟨?_,vh c h.2⟩;rcases h.1 with⟨q,b,f⟩ | ⟨b,t,sz,rfl⟩
  ·rcases d9 (c j) with⟨d,e⟩ | ⟨o,k,d,e,m⟩
   ·rw[d] at b;cases b
   ·simp only[e];exact .inl trivial
  ·have:=cj c b;simp only[this];exact .inr ⟨trivial,t,sz,rfl⟩
theorem vV {L':Loc}{M1:TL}(q:∀k o,M1.get k≠none->L.get k=some o->L'.get k=some o):∀(n:Nat) {c:C}{v:Value},fF M1 n c=true->Rel F L c v->Rel F L' c v:=by
 have d:∀{c:C}{v:Value},c.leaf=true->rj M1 c=true->Rel F L c v->Rel F L' c v:=by
  intro c v f b h;refine bL (aA.le_refl F) (fun k e o s=>⟨o,q k o ?_ s,Own.aah o⟩) f h;rcases e with⟨off,rfl⟩ | rfl | rfl
  ·simp only[rj] at b;intro e;rw[e] at b;cases b
  ·simp only[rj] at b;intro e;rw[e] at b;cases b
  ·simp only[rj] at b;intro e;rw[e] at b;cases b
 intro n
 induction n with
 | zero =>
  intro c v b h;cases f:c.leaf
  ·cases c<;>simp only[C.leaf,Bool.true_eq_false] at f<;>simp only[fF,aa2] at b
  ·refine d f ?_ h;cases c<;>simp only[C.leaf,aa2] at f<;>simpa only[fF] using b
 | succ n u =>
  intro c v b h;have all:∀{cs:List C}{j:List Value},cs.all (fF M1 n)=true->aB F L cs j->aB F L' cs j:=by
   intro cs j h1 l;have:=l.map (g:=id) (F':=F) (L':=L') (fun c f v t=>u (aaY.1 h1 c f) t);simpa using this
  cases f:c.leaf
  ·cases c<;>simp only[C.leaf,Bool.true_eq_false] at f<;>simp only[fF,v5] at b<;>simp only[Rel] at h ⊢
   ·obtain⟨p,m,h1,l,r⟩:=h;exact⟨p,m,h1,all b.1 l,all b.2 r⟩
   ·obtain⟨j,h1,l⟩:=h;exact⟨j,h1,all b l⟩
   ·obtain⟨j,h1,l⟩:=h;exact⟨j,h1,all b l⟩
  ·refine d f ?_ h;cases c<;>simp only[C.leaf,aa2] at f<;>simpa only[fF] using b
theorem rA (l:bS F L M) {M1:TL}{c f:C}{v:Value}(h:NA M M1 c f) (b:Rel F L c v):Rel F (tU L M1) f v:=by
 rcases h with rfl | ⟨rfl,j⟩ | ⟨rfl,rfl⟩ | ⟨rfl,k,t,sz,rfl,h1,d⟩ | ⟨els,rfl,rfl⟩
 ·simp only[Rel]
 ·refine vV (fun k o h1 d=>?_) 3 j b;rw[lK];cases e:M1.get k with
  | none=>exact fL e h1
  | some q=>simp only[d]
 ·exact tP (c:=.nils) (by simpa only[Rel] using b)
 ·simp only[Rel] at b ⊢;subst b;refine⟨none,0,t,sz,0,[],rfl,?_⟩;rw[lK,d];simp only[cj l h1]
 ·simpa only[Rel] using u9 b
theorem DQ (k:bS F L M) {M1:TL}:∀{cs cs':List C}{b:List Value},Ki M M1 cs cs'->aB F L cs b->aB F (tU L M1) cs' b
 | [],cs',b,h,d=>by simp only[Ki] at h;subst h;simpa only[aB] using d
 | c::cs,cs',b,h,d=>by
  simp only[Ki] at h;obtain⟨n,m,rfl,h1,l⟩:=h;simp only[aB] at d ⊢;obtain⟨v,e,rfl,f,j⟩:=d;exact⟨v,e,rfl,rA k h1 f,DQ k l j⟩
theorem NV (j:bS F L M) {M1:TL}{o o':TO}{p:Own}(h:V3 M M1 o o') (b:cK F L o p):cK F (tU L M1) o' p:=by
 rcases h with⟨rfl,d⟩ | ⟨t,cs,cs',rfl,rfl,h⟩
 ·cases o with
  | row t sz els=>cases p with
   | row=>exact b
   | box=>exact b.elim
  | map es=>cases p with
   | row=>exact b.elim
   | box=>exact b
  | box t cs=>cases p with
   | row=>exact b.elim
   | box g f l =>
    simp only[QE] at d;refine⟨b.1,?_⟩;have:=b.2.map (g:=id) (F':=F) (L':=tU L M1) (fun c m v n=>vV (fun k o h1 r=>by
     rw[lK];cases e:M1.get k with
     | none=>exact fL e h1
     | some q=>simp only[r]) 3 (aaY.1 d c m) n)
    simpa using this
 ·cases p with
  | row=>exact b.elim
  | box g f l=>exact⟨b.1,DQ j h b.2⟩
theorem yC (d:bS F L M) {M1:TL}(h:gives M M1 M1):bS F (tU L M1) M1:=by
 intro k;rw[lK];cases e:M1.get k with
 | none=>trivial
 | some o =>
  rcases DP h e with⟨q,b,j⟩ | ⟨b,t,sz,rfl⟩
  ·rcases d9 (d k) with⟨c,f⟩ | ⟨q',p,c,f,l⟩
   ·rw[c] at b;cases b
   ·rw[c] at b;injection b with b
    subst b;simp only[f];exact NV d j l
  ·simp only[cj d b];exact⟨rfl,rfl,rfl,⟨by simp,none,0,rfl,fun _=>rfl⟩,by simp only[aP]⟩
theorem yD (c:St F L w) (b:bS F L M) {M1:TL}(h:gives M M1 M1):St F (tU L M1) w/\Step F L w F (tU L M1) w:=⟨c.gives (vh b h),su (vh b h)⟩
theorem mJ:∀{l M1:TL},oU l M1=true->∀{k o},l.get k=some o->Cm o=false->∃o',M1.get k=some o'
 | [],M1,h,k,o,e,_=>by cases e
 | (j,.box m c0)::l,M1,h,k,o,e,b=>by
  simp only[oU] at h;split at h
  case h_2=>cases h
  rename_i n f h1;simp only[TL.get] at e;split at e
  ·rename_i c;have:=aaQ c;subst this;exact⟨_,h1⟩
  ·exact mJ h e b
 | (j,.map es)::l,M1,h,k,o,e,b=>by
  simp only[oU] at h;split at h
  case h_2=>cases h
  rename_i d h1;simp only[TL.get] at e;split at e
  ·rename_i c;have:=aaQ c;subst this;exact⟨_,h1⟩
  ·exact mJ h e b
 | (j,.row ..)::l,M1,h,k,o,e,b=>by
  simp only[oU] at h;simp only[TL.get] at e;split at e
  ·injection e with e;subst e;cases b
  ·exact mJ h e b
theorem yE:∀{l M1:TL},covers l M1=true->∀{k o},l.get k=some o->∃o',M1.get k=some o'
 | [],M1,h,k,o,e=>by cases e
 | (j,p)::l,M1,h,k,o,e=>by
  simp only[covers] at h;split at h
  case h_2=>cases h
  rename_i q h1;simp only[TL.get] at e;split at e
  ·rename_i b;have:=aaQ b;subst this;exact⟨_,h1⟩
  ·exact yE h e
theorem Ky {L':Loc}(he:aD L ρ a) (h:∀k g t cs,L.get k=some (.box g t cs)->∃cs',L'.get k=some (.box g t cs')):aD L' ρ a:=by
 refine⟨fun t=>?_,fun t k off e=>?_,he.el⟩
 ·rw[he.eq t];cases e:ρ t with
  | v x=>rfl
  | el a j=>rfl
  | own k off =>
   obtain⟨g,ty,cs,c⟩:=he.own t k off e;obtain⟨cs',b⟩:=h _ _ _ _ c;simp only[conc,c,b]
 ·obtain⟨g,ty,cs,c⟩:=he.own t k off e;obtain⟨cs',b⟩:=h _ _ _ _ c;exact⟨g,ty,cs',b⟩
theorem qz (l:St F L w) (he:aD L ρ a) (c:TS G F L ρ M τ) {M1:TL}(h:gives M M1 M1) (m:covers M M1=true) :
  St F (tU L M1) w/\aD (tU L M1) ρ a/\Step F L w F (tU L M1) w/\TS G F (tU L M1) ρ M1 τ/\Ext L (tU L M1):=by
 obtain⟨h1,r⟩:=yD l c.tl h;have b:∀k o,L.get k=some o->(tU L M1).get k=some o:=by
  intro k o e;rcases d9 (c.tl k) with⟨d,f⟩ | ⟨q,p,d,f,s⟩
  ·rw[f] at e;cases e
  ·obtain⟨o',n⟩:=yE m d;rw[lK,n];simp only[e]
 refine⟨h1,Ky he fun k g t cs e=>⟨cs,b _ _ e⟩,r,⟨yC c.tl h,fun j=>(c.env j).ext (aA.le_refl F) fun k o e=>⟨o,b k o e,Own.aah o⟩,fun k g t e=>?_,c.glob⟩,fun k o e=>⟨o,b k o e,Own.aah o⟩⟩;obtain⟨cs,h⟩:=c.kp k g t e;exact⟨cs,b _ _ h⟩
theorem R2 {F:aA}{args:List C}{b:List Value}(ha:aB F L args b):aB F (inp []) (args.map fun c=>c.aaj.ren (bB [] 1000)) b :=
 ha.map fun c _ v d=>(jh d).ren (fun j m e=>by cases e)
theorem V7 {F:aA}{L:Loc}{args:List C}{d:List Value}{f:Nat}{o:Own}(k:L.get f=some o) (ha:aB F L args d):aB F (inp [o]) (args.map fun c=>c.aaj.ren (bB [f] 1000)) d :=
 ha.map fun c _ v h=>(jh h).ren (fun j m e o' b=>by
  obtain⟨n,h1,rfl⟩:=Cl e;cases n with
  | zero =>
   simp only[aa3,xo] at h1;subst h1;rw[k] at b;injection b with b
   subst b;rfl
  | succ n=>simp at h1)
theorem Fy:bS F (inp []) (cJ []):=fun k=>by rw[cA,aH];split<;>simp[x7]
theorem gP.aao {Li:List Own}{R:List TO->C->Prop}:∀F G L v,aA.le F G->gP Li R F L v->gP Li R G L v:=by
 rintro F G L v hF ⟨Mo,c,h,d,f,b,e⟩;exact⟨Mo,c,h,d.mono hF,f.mono hF,b,e⟩
theorem vk {f:Nat}{args:List C}{vs:List Value}{d:Option Nat}{K:TL->aM->C->Prop}(r:TS G F L ρ M τ) (ha:aB F L args vs) (h:uZ P f args M τ d K) :
  dO P f vs F L d (fun F' L' v=>∃M' ar c,TS G F' L' ρ M' ar/\aN F' L' c (.v v)/\K M' ar c):=by
 cases h with
 | frz R h k =>
  refine .frz (gP [] R) (h.out F [] vs rfl Fy (R2 ha)) ?_;rintro v F' Lo hF ⟨Mo,c,n,q,b,q4,q5⟩;obtain⟨rfl,k2⟩:=k c Mo q5 b.wf;have:Lo=[]:=List.length_eq_zero_iff.1 (by rw[<-n];rfl);subst this;exact⟨rfl,fun _=>⟨M,τ,_,r.mono hF,kM (b.ext (aA.le_refl F') (fun k o e=>by rw[aH] at e;split at e<;>simp at e)),k2⟩⟩
 | own R k h hd hk kk =>
  refine .own (gP [] R) k (h.out F [] vs rfl Fy (R2 ha)) hd (cj r.tl hk) ?_;rintro v F' Lo hF ⟨Mo,c,n,q,b,q4,q5⟩;have bk:∀o∈Mo,o.Wf:=by
   intro o ho;obtain⟨i,hi⟩:=abf.1 ho;have bi:i<Lo.length:=by rw[<-n];exact(aaR.1 hi).1
   have:=q (1000+i);rw[cA,aH,eu (by omega),eu (by omega),show 1000+i-1000=i by omega,hi,aaO bi] at this;exact cK.wf this
  obtain⟨o,rfl,k2⟩:=kk c Mo q5 b.wf bk
  match Lo,n with
  | [p],_ =>
   have l:∀j m,aJ [k] j=some m->∀o,(inp [p]).get j=some o->(L.set k p).get m=some o:=by
    intro j m hj o ho;obtain⟨a1,a2⟩:=nZ hj;rw[aH,eu a1] at ho;have:j-1000=0:=by have:=(aaR.1 a2).1;simp at this;omega
    rw[this] at ho a2;simp at ho a2;subst ho a2;rw[Loc.aac,eu rfl]
   have an:=q 1000;rw[cA,aH,eu (by omega),eu (by omega)] at an;refine⟨p,rfl,fun _=>⟨_,τ,_,r.new hF (cj r.tl hk) (cK.ren l an),kM (b.ren l),k2⟩⟩
 | row R u t sz els aw hk h kk =>
  obtain⟨rv,xs,hL,⟨hm,av,cv,rfl,bu⟩,hr⟩:=mE r.tl hk;refine .row (fun F' Lo v=>Lo=[]/\gP [] R F' [] v) u _ t sz els.length xs ⟨aw,fun F1 F2 L v bd s=>⟨s.1,gP.aao _ _ _ _ bd s.2⟩,fun w hs=>?_⟩ hL ?_
  ·have ba:aD (inp [.row (.slice av els.length cv) t sz els.length xs]) (fun _=>.v undef) (⟨#[],[]⟩:Act):=by
    refine⟨fun j=>?_,fun j k off e=>(by cases e),fun j a i e=>(by cases e)⟩;simp[conc]
   obtain⟨F2,L2,g1,_,g3,hF,y,rfl⟩:=qW (k:=1000) (KK:=fun F' L'=>F.le F'/\Rs F' (.slice av els.length cv) sz els.length xs/\L'=(inp [.row (.slice av els.length cv) t sz els.length xs]).del 1000) hs ba ⟨_,_,_,_,_,rfl,fun F' hF y=>⟨hF,y,rfl⟩⟩;have ax:Rel F2 (L.del u) (.sl els) (.slice av els.length cv):=by
    simp only[Rel];rcases y with⟨e1,e2,e3⟩ | ⟨ad,c2,e1,e2,e3⟩
    ·injection e1 with n q b
     have:els=[]:=List.length_eq_zero_iff.1 q;subst this;exact⟨av,cv,rfl,by simp,by simp,fun _=>⟨rfl,b⟩,sz,by simp only[gK]⟩
    ·injection e1 with n q b
     subst n b;exact⟨some ad,cv,rfl,e3,hm,fun e=>(by cases e),sz,(hr.mono hF).frz e2⟩
   obtain⟨l1,_⟩:=DN hF hL ax;have bb:aB F2 (L.del u) (args.map (C.frz u els)) vs:=ha.map fun c _ v hc=>Rel.mp l1 3 hc;have ao:=R2 bb;rw[abR] at ao;refine((h.out F2 [] vs rfl Fy ao).run w g1).mono ?_;rintro e w' ⟨v,F',Lo,rfl,bl,bj,s⟩;have be:Lo=[]:=by
    obtain⟨Mo,c,n,q,b,q4,q5⟩:=s;obtain⟨rfl,_⟩:=kk c Mo q5 b.wf;exact List.length_eq_zero_iff.1 (by rw[<-n];rfl)
   subst be;exact⟨v,F',[],rfl,bl,g3.trans bj,rfl,s⟩
  ·rintro v F' Lo hF ⟨rfl,Mo,c,n,q,b,q4,q5⟩;obtain⟨rfl,k2⟩:=kk c Mo q5 b.wf;refine⟨rfl,fun _=>⟨_,_,_,(r.mono hF).aay (k:=u) (o':=.row (.slice none 0 0) t sz 0 []) (to:=.row t sz []) (fun g t' cs e=>by rw[hL] at e;injection e with e;cases e) ⟨rfl,rfl,rfl,⟨aa8 _,none,0,rfl,fun _=>rfl⟩,by simp only[aP]⟩,kM (b.ext (aA.le_refl F') (fun k o e=>by rw[aH] at e;split at e<;>simp at e)),k2⟩⟩
 | lent u t sz els x hk h k =>
  obtain⟨rv,xs,hL,z,hr⟩:=mE r.tl hk;refine .lent (fun F' v=>Rel F' (inp []) x v) u rv t sz els.length xs (h.out F rv xs vs ⟨rfl,rfl,rfl,z,hr⟩ (V7 hL ha)) hL fun v F' hF s _=>?_;exact⟨M,τ,_,r.mono hF,kM (s.ext (aA.le_refl F') (fun k o e=>by rw[aH] at e;split at e<;>simp at e)),k s.wf⟩
def kF:dX->Bool
 | .call _ _=>true
 | .callV _ _=>true
 | _=>false
theorem TS.aap {F:aA}{L:Loc}{ρ:Env}{M:TL}{τ:aM}{K:TK}{d:Option Nat}(b:TS G F L ρ M τ) {c:C}{sv:SV}(e:aN F L c sv) (h:K M (bA d c τ)):Both G K F L (Fr.put d sv ρ):=⟨_,_,b.put e d,h⟩
theorem jG (h:∀j,aN F L (τ j) (ρ j)) {d e:List C}{b c:List Value}(h1:aB F L d b) (f:aB F L e c) (args:List X):aB F L (d++fA τ args++e) (b.toArray.toList++bw L ρ args++c.toArray.toList):=by
 simpa using(h1.append (dS h args)).append f
theorem dY.imp {f:Nat}{args:List Value}{F:aA}{L:Loc}{K K':aA->Loc->Value->Prop}(h:dY P f args F L K) (j:∀F' L' v,K F' L' v->K' F' L' v):dY P f args F L K':=by
 obtain⟨ks,ko,Lin,R,h1,m,e,d,n,l⟩:=h;exact⟨ks,ko,Lin,R,h1,m,e,d,n,fun v F' Lo hF k=>let⟨a,b,c⟩:=l v F' Lo hF k;⟨a,b,j _ _ _ c⟩⟩
theorem dO.imp' {f:Nat}{args:List Value}{F:aA}{L:Loc}{d:Option Nat}{K K':aA->Loc->Value->Prop}(h:dO P f args F L d K) (m:∀F' L' v,K F' L' v->K' F' L' v):dO P f args F L d K':=by
 cases h with
 | frz R h k=>exact .frz R h fun v F' Lo hF e=>let⟨a,b⟩:=k v F' Lo hF e;⟨a,fun j=>m _ _ _ (b j)⟩
 | own R k h r c l=>exact .own R k h r c fun v F' Lo hF e=>let⟨o,a,b⟩:=l v F' Lo hF e;⟨o,a,fun j=>m _ _ _ (b j)⟩
 | row R q p t sz n xs h c l=>exact .row R q p t sz n xs h c fun v F' Lo hF e=>let⟨a,b⟩:=l v F' Lo hF e;⟨a,fun j=>m _ _ _ (b j)⟩
 | lent R q p t sz n xs h c l=>exact .lent R q p t sz n xs h c fun v F' hF e j=>m _ _ _ (l v F' hF e j)
theorem Kz {op:BinOp}{k:IntKind}{a b:Int}{K K':Value->Prop}(h:binI op k a b K) (c:∀v,K v->K' v):binI op k a b K':=by
 cases op<;>simp only[binI] at h ⊢<;>first
  | exact h.elim
  | exact⟨c _ h.out⟩
  | exact⟨h.ne,⟨c _ h.out.out⟩⟩
  | exact⟨h.ne,c _ h.out⟩
  | exact c _ h
theorem NW {op:BinOp}{k:IntKind}{a b:Int}{K K':Value->Prop}(h:shI op k a b K) (c:∀v,K v->K' v):shI op k a b K':=by
 cases op<;>simp only[shI] at h ⊢<;>first
  | exact h.elim
  | exact⟨h.1,⟨c _ h.2.out⟩⟩
  | exact⟨h.1,c _ h.2⟩
theorem KA {op:BinOp}{a b:ByteArray}{K K':Value->Prop}(h:binS op a b K) (c:∀v,K v->K' v):binS op a b K':=by
 cases op<;>simp only[binS] at h ⊢<;>first
  | exact h.elim
  | exact c _ h
  | exact⟨h.1,c _ h.2⟩
theorem DR {o:dX}{V V':SV->Prop}{F:aA}{L:Loc}{ρ:Env}(h:aL o F L ρ V) (d:∀v,V v->V' v):aL o F L ρ V':=by
 have load:∀{a:Option Addr}{j n:Nat}{g:List Value->SV},ku F L a j n (fun cs=>V (g cs))->ku F L a j n (fun cs=>V' (g cs)):=fun h=>⟨let⟨cs,h1,e,f⟩:=h.out;⟨cs,h1,e,d _ f⟩⟩;have loadD:∀{a:Option Addr}{j n:Nat}{g:List Value->SV},jm F a j n (fun cs=>V (g cs))->jm F a j n (fun cs=>V' (g cs)):=fun h=>⟨let⟨cs,h1,e,f⟩:=h.out;⟨cs,h1,e,d _ f⟩⟩;cases o<;>simp only[aL] at h ⊢<;>first
  | exact h.elim
  | exact d _ h
  | skip
 case pick c a b =>
  generalize ev ρ c=z at h ⊢;split at h<;>first | exact h.elim | exact d _ h
 case build zs ps =>
  generalize built L ρ zs ps=z at h ⊢;split at h<;>first | exact h.elim | exact d _ h
 case load agg n x =>
  generalize ev ρ x=z at h ⊢;split at h
  ·rename_i k off;generalize L.get k=y at h ⊢;split at h
   ·rename_i t cs;generalize jt t ((cs.drop off).take n) n=b at h ⊢;cases b
    ·exact h.elim
    ·exact d _ h
   ·exact h.elim
  ·exact load h
  ·exact load h
  ·exact h.elim
 case loadR agg n x =>
  generalize ev ρ x=z at h ⊢;split at h
  ·rename_i k off;generalize L.get k=y at h ⊢;split at h
   ·rename_i t cs;generalize jt t ((cs.drop off).take n) n=b at h ⊢;cases b
    ·exact h.elim
    ·exact d _ h
   ·exact h.elim
  ·exact load h
  ·exact load h
  ·exact h.elim
 case loadD agg n x =>
  generalize ev ρ x=z at h ⊢;split at h
  ·rename_i k off;generalize L.get k=y at h ⊢;split at h
   ·rename_i t cs;generalize jt t ((cs.drop off).take n) n=b at h ⊢;cases b
    ·exact h.elim
    ·exact d _ h
   ·exact h.elim
  ·exact loadD h
  ·exact loadD h
  ·exact h.elim
 case gload g =>
  obtain⟨v,t,fr,h1,e⟩:=h;exact⟨v,t,fr,h1,d _ e⟩
 case loadF agg n x =>
  generalize ev ρ x=z at h ⊢;split at h
  ·exact loadD h
  ·exact loadD h
  ·exact h.elim
 case loadK key agg n x =>
  generalize ev ρ x=z at h ⊢;split at h
  ·rename_i k off;generalize Nat.beq k key=q at h ⊢;cases q
   ·exact h.elim
   ·simp only[] at h ⊢;generalize L.get k=y at h ⊢;split at h
    ·rename_i t cs;generalize jt t ((cs.drop off).take n) n=b at h ⊢;cases b
     ·exact h.elim
     ·exact d _ h
    ·exact h.elim
  ·exact h.elim
 case mlook str ok z0 x i =>
  generalize ev ρ x=z at h ⊢;split at h
  ·obtain⟨k,cs,h1,e,⟨f⟩⟩:=h;exact⟨k,cs,h1,e,⟨f.imp (fun⟨i,v,m,p⟩=>⟨i,v,m,d _ p⟩) fun⟨m,p⟩=>⟨m,d _ p⟩⟩⟩
  ·exact h.elim
 case mkif t x =>
  generalize ev ρ x=z at h ⊢;split at h<;>first | exact h.elim | exact d _ h
 case nilck x =>
  generalize ev ρ x=z at h ⊢;split at h<;>first
   | exact h.elim
   | exact d _ h
   | exact⟨h.1,d _ h.2⟩
   | (split at h
      ·exact⟨h.1,d _ h.2⟩
      ·exact h.elim)
 case bin op x y =>
  generalize ev ρ x=z at h ⊢;generalize ev ρ y=z' at h ⊢;split at h
  ·rename_i k a u b;generalize JE op=q at h ⊢;cases q
   ·generalize pY k u=r at h ⊢;cases r
    ·exact h.elim
    ·exact Kz h fun v=>d _
   ·exact NW h fun v=>d _
  ·exact KA h fun v=>d _
  ·exact h.elim
 case eqB neg x y =>
  generalize ev ρ x=z at h ⊢;generalize ev ρ y=z' at h ⊢;split at h<;>first | exact h.elim | exact d _ h
 case eqS neg x y =>
  generalize ev ρ x=z at h ⊢;generalize ev ρ y=z' at h ⊢;split at h<;>first | exact h.elim | exact d _ h
 case tas t z x =>
  generalize ev ρ x=y at h ⊢;split at h<;>first
   | exact d _ h
   | (split at h<;>exact d _ h)
   | exact h.elim
 case eqN neg x =>
  generalize ev ρ x=z at h ⊢;split at h<;>first | exact h.elim | exact d _ h
 case eqA neg ks x y =>
  generalize ev ρ x=z at h ⊢;generalize ev ρ y=z' at h ⊢;split at h
  case h_2=>exact h.elim
  rename_i cs ds;generalize je ks cs.toList ds.toList true=q at h ⊢;cases q with
  | none=>exact h.elim
  | some b=>exact d _ h
 case un op x =>
  generalize ev ρ x=z at h ⊢;split at h<;>first | exact h.elim | exact d _ h | exact⟨d _ h.out⟩
 case conv k x =>
  generalize ev ρ x=z at h ⊢;split at h<;>first | exact h.elim | exact⟨d _ h.out⟩
 case slc sz x lo hi =>
  generalize ev ρ x=z at h ⊢;split at h
  ·rename_i a n c;generalize nG ρ 0 lo=y at h ⊢;generalize nG ρ n hi=y' at h ⊢;split at h
   ·exact⟨h.lo,h.le,h.hi,d _ h.out⟩
   ·exact h.elim
  ·exact h.elim
 case fieldA off x =>
  generalize ev ρ x=z at h ⊢;split at h<;>first | exact h.elim | exact d _ h
 case idxA sz x i =>
  generalize ev ρ x=z at h ⊢;generalize ev ρ i=z' at h ⊢;split at h
  ·exact⟨h.ne,h.lo,h.hi,d _ h.out⟩
  ·exact h.elim
 case extr x i =>
  generalize ev ρ x=z at h ⊢;split at h
  ·rename_i s;generalize s.toList[i]?=y at h ⊢;cases y
   ·exact h.elim
   ·exact d _ h
  ·exact h.elim
 case len x =>
  generalize ev ρ x=z at h ⊢;split at h<;>first | exact h.elim | exact d _ h
 case mm mx args =>
  generalize args.map (ev ρ)=z at h ⊢;split at h
  ·rename_i k a l;generalize Qv mx a l=y at h ⊢;cases y
   ·exact h.elim
   ·exact d _ h
  ·exact h.elim
theorem R3 {o:dX}{d:Option Nat}{K:TK}{F:aA}{L:Loc}{ρ:Env}{M:TL}{τ:aM}(b:TS G F L ρ M τ) (h:outT o M τ fun v=>K M (bA d v τ)):aL o F L ρ (fun v=>Both G K F L (Fr.put d v ρ)) :=
 DR (V5 b h) fun sv ⟨c,f,e⟩=>b.aap f e
set_option maxHeartbeats 1000000 in
theorem NX {F:aA}{L:Loc}{ρ:Env}{K:dG}{n:Nat}{a x:X}{d:Option Nat}(h:evalOp P (.store n a x) d F L ρ K):evalOp P (.storeX n a x) d F L ρ K:=by
 simp only[evalOp] at h ⊢;split at h
 ·split at h
  ·split at h
   ·exact fun _=>h
   ·exact h.elim
  ·exact h.elim
 ·exact⟨let⟨k,v,t,sz,m,xs,ad,c,h1,h2,h3,h4,h5,h6⟩:=h.out;⟨k,v,t,sz,m,xs,ad,c,h1,h2,h3,h4,h5,fun _=>h6⟩⟩
 ·exact⟨let⟨k,v,t,sz,m,xs,ad,c,h1,h2,h3,h4,h5,h6⟩:=h.out;⟨k,v,t,sz,m,xs,ad,c,h1,h2,h3,h4,h5,fun _=>h6⟩⟩
 ·exact h.elim
theorem NY {str:Bool}{c:C}(h:Kh str c=true):(∃n,str=false/\c=.int .i64 n)\/∃s,str=true/\c=.str s:=by
 unfold Kh at h;split at h
 ·exact .inl ⟨_,rfl,rfl⟩
 ·exact .inr ⟨_,rfl,rfl⟩
 ·cases h
theorem GF {F:aA}{str:Bool}{key c:C}{kv v:Value}(j:Rel F [] key kv) (o:Rel F [] c v):∀{es f:List (C×C)}{m:List Value},fM F es m->Fp str key c es=some f->∃b,xq str kv v m=some b/\fM F f b
 | [],f,m,h,e=>by
  simp only[fM] at h;subst h;simp only[Fp,xo] at e;subst e;exact⟨_,rfl,by simp only[fM];exact⟨kv,v,[],rfl,j,o,rfl⟩⟩
 | (k,d)::l,f,m,h,e=>by
  simp only[fM] at h;obtain⟨u,x,b,rfl,h1,s,p⟩:=h;simp only[Fp] at e;split at e
  ·rename_i n;injection e with e
   subst e;exact⟨_,by simp only[xq,qw n j h1];rfl,by simp only[fM];exact⟨kv,v,b,rfl,j,o,p⟩⟩
  ·rename_i n;split at e
   case h_2=>cases e
   rename_i z q;injection e with e
   subst e;obtain⟨t,r,y⟩:=GF j o p q;exact⟨_,by simp only[xq,qw n j h1,r];rfl,by simp only[fM];exact⟨u,x,t,rfl,h1,s,y⟩⟩
  ·cases e
theorem Iv {F:aA}{L:Loc}{c:C}{v:Value}(h:Rel F L c.cel v) (b:iX (cO c)=true):Rel F [] c.cel.aaj v:=by
 have leaf:iX [c]=true->Rel F L c v->Rel F [] c v:=fun b h=>by
  have:=jA (L':=[]) b (show aB F L [c] [v] by simp only[aB];exact⟨v,[],rfl,h,rfl⟩);simp only[aB] at this;obtain⟨u,us,e,h1,_⟩:=this;injection e with e1 e2
  rw[e1];exact h1
 cases c
 case agg cs =>
  simp only[C.cel,cO] at h b ⊢;refine jh ?_;simp only[Rel] at h ⊢;obtain⟨d,h1,f⟩:=h;exact⟨d,h1,jA b f⟩
 case ownv k o=>simp[cO,iX,C.pure,C.aal] at b
 case elr k j o=>simp[cO,iX,C.pure,C.aal] at b
 all_goals
  simp only[C.cel,cO] at h b ⊢;exact jh (leaf b h)
theorem KC {o:dX}{d:Option Nat}{K:TK}{F:aA}{L:Loc}{ρ:Env}{M:TL}{τ:aM}(ho:kF o=false) (l:TS G F L ρ M τ) (h:bT P o d M τ K):evalOp P o d F L ρ (Both G K):=by
 have he:=l.env;cases o
 case call=>cases ho
 case callV=>cases ho
 case box t x =>
  simp only[bT,gk,fu,eZ] at h;simp only[evalOp];split at h
  case h_2=>exact h.elim
  rename_i k;split at h
  case h_2=>exact h.elim
  rename_i q hc hb;simp only[cj l.tl q];exact fun g=>GA l q hc (gu hb) h g
 case boxD t x =>
  simp only[bT,gk,fu,eZ] at h;simp only[evalOp];split at h
  case h_2=>exact h.elim
  rename_i k;split at h
  case h_2=>exact h.elim
  rename_i q hc hb;simp only[cj l.tl q];exact fun g _=>GA l q hc (gu hb) h g
 case boxF t x =>
  simp only[bT,gk,fu,eZ] at h;simp only[evalOp];split at h
  case h_2=>exact h.elim
  rename_i h1 j m;intro g F' hF hg;exact(l.mono hF).aap (R0 hg (nV j) (ld ((jA m (iF he h1)).mono hF))) h
 case alloc t zs =>
  simp only[bT,gk,fu,eZ] at h;simp only[evalOp];split at h
  case h_2=>exact h.elim
  rename_i k;split at h
  case h_2=>exact h.elim
  rename_i q hb;simp only[cj l.tl q];exact fun g=>AX l q (gu hb) h g
 case allocD t zs =>
  simp only[bT,gk,fu,eZ] at h;simp only[evalOp];split at h
  case h_2=>exact h.elim
  rename_i k;split at h
  case h_2=>exact h.elim
  rename_i q hb;simp only[cj l.tl q];exact fun g _=>AX l q (gu hb) h g
 case mkF e n sz xs =>
  simp only[bT,gk,fu,eZ] at h;simp only[evalOp];split at h
  case h_2=>exact h.elim
  rename_i h1 j m;rw[(jF he h1).1];exact fun g F' hF hg=>GD l h1 (aaQ j) (aa9 m) h hF hg
 case mkFD e n sz xs =>
  simp only[bT,gk,fu,eZ] at h;simp only[evalOp];split at h
  case h_2=>exact h.elim
  rename_i h1 j m;rw[(jF he h1).1];exact fun g F' hF hg _=>GD l h1 (aaQ j) (aa9 m) h hF hg
 case mkR e n sz xs =>
  simp only[bT,gk,fu,eZ] at h;simp only[evalOp];split at h
  case h_2=>exact h.elim
  rename_i k h1 j m;split at h
  case h_2=>exact h.elim
  rename_i q;rw[(jF he h1).1];simp only[cj l.tl q];exact fun g=>NR l h1 (aaQ j) (aa9 m) q h g
 case makeS=>exact Iu l h
 case store n y x=>exact AY l h
 case storeD n y x=>exact yj l h
 case storeK key n y x =>
  simp only[bT] at h;split at h
  case h_2=>exact h.elim
  rename_i k off hy;split at h
  case h_2=>exact h.elim
  rename_i hb;obtain⟨n',a',x',k',bm,g,t,cs,ho,e1,z,e3,e4,e5,hK⟩:=iQ (P:=P) rfl (yj l h);rcases ho with ho | ho
  ·injection ho with q1 q2 q3
   subst q1 q2 q3;rw[(jq he hy).1] at e3;injection e3 with q1 q2
   subst q1 q2;have hb:=aaQ hb;subst hb;exact iC (.inr rfl) e1 z (jq he hy).1 e4 e5 hK
  ·cases ho
 case makeSD e sz n zs =>
  simp only[bT] at h;split at h
  case h_2=>exact h.elim
  rename_i k;split at h
  case h_2=>exact h.elim
  rename_i q h1 j m;have r:=cj l.tl q;have s:zs.length=sz:=by have:=cg h1;simpa using this
  simp only[evalOp,r,jv s,m];intro g _;have hz:aB F [] ((zs.map rT).map C.can) zs:=ld (kY zs);have ao:eT (zs.map rT)=true->∀i:Nat,aP F sz (List.replicate i ((zs.map rT).map C.can)) (List.replicate i zs).flatten:=by
   intro j i
   induction i with
   | zero=>simp only[List.replicate_zero,List.flatten_nil,aP]
   | succ i ih =>
    simp only[ab2,List.flatten_cons,aP];exact⟨zs,_,rfl,s,nV j,hz,ih⟩
  have aa:∀i:Nat,i=n->aP F sz (List.replicate i ((zs.map rT).map C.can)) (List.replicate i zs).flatten:=by
   intro i hi;rw[abn] at j;rcases j with j | j
   ·have j:=aaQ j;rw[hi,j];simp only[List.replicate_zero,List.flatten_nil,aP]
   ·exact ao j i
  have m:=l.new (aA.le_refl F) r (o:=.row (.slice (some ⟨g,0,none⟩) n n) e sz n (List.replicate n zs).flatten) (to:=.row e sz (List.replicate n ((zs.map rT).map C.can)))
   ⟨rfl,rfl,by simp,⟨aa9 m,_,_,rfl,fun e=>(by cases e)⟩,aa _ rfl⟩
  exact⟨_,_,m.put (c:=.rw k) (lH (by rw[Loc.aac,eu rfl])) (some k),h⟩
 case makeSV e sz b zs x =>
  simp only[bT] at h;split at h
  case h_2=>exact h.elim
  rename_i ki n k hx;split at h
  case h_2=>exact h.elim
  rename_i q h1 j;have r:=cj l.tl q;have s:zs.length=sz:=by have:=cg h1;simpa using this
  obtain⟨m1,_,m3,m4,h⟩:=h;have hv:val L ρ x=.int ki n:=by rw[val,(gL he hx).1];rfl
  have al:tu b (val L ρ x)=true:=by
   rw[hv,tu,v5,v5];exact⟨⟨Nat.ble_eq_true_of_le m3,Nat.ble_eq_true_of_le m4⟩,aaN m1⟩
  have hc:lX (val L ρ x)=n.toNat:=by rw[hv];rfl
  simp only[evalOp,r,jv s,al];rw[hc];intro g _;have hz:aB F [] ((zs.map rT).map C.can) zs:=ld (kY zs);have aa:∀i:Nat,aP F sz (List.replicate i ((zs.map rT).map C.can)) (List.replicate i zs).flatten:=by
   intro i
   induction i with
   | zero=>simp only[List.replicate_zero,List.flatten_nil,aP]
   | succ i ih =>
    simp only[ab2,List.flatten_cons,aP];exact⟨zs,_,rfl,s,nV j,hz,ih⟩
  have m:=l.new (aA.le_refl F) r (o:=.row (.slice (some ⟨g,0,none⟩) n.toNat n.toNat) e sz n.toNat (List.replicate n.toNat zs).flatten) (to:=.row e sz (List.replicate n.toNat ((zs.map rT).map C.can)))
   ⟨rfl,rfl,by simp,⟨m4,_,_,rfl,fun e=>(by cases e)⟩,aa _⟩
  exact⟨_,_,m.put (c:=.rw k) (lH (by rw[Loc.aac,eu rfl])) (some k),h⟩
 case callD f args =>
  simp only[bT,gk,fu,eZ] at h;simp only[evalOp];refine dO.imp' (vk l (dS he args) h) ?_;rintro F' L' v ⟨M',p,c,h1,j,m⟩;exact h1.aap j m
 case callVD f args =>
  simp only[bT,gk,fu,eZ] at h;simp only[evalOp];split at h
  ·rename_i f' fi ca hx;obtain⟨aE,ba,e1,h1,j⟩:=u7 he hx;rw[e1];refine dO.imp' (vk l (jG he h1 j args) h) ?_;rintro F' L' v ⟨M',p,c,h1,j,m⟩;exact h1.aap j m
  ·rename_i nm c hx;split at h
   case h_2=>exact h.elim
   rename_i t c;obtain⟨u,e1,hr⟩:=ye he hx;simp only[Rel] at hr;obtain⟨u',rfl,hu⟩:=hr;obtain⟨f',hm,h⟩:=h;have z:rZ P (ev ρ f)=some (f',[u'],[]):=by rw[e1];simp only[rZ,hm]
   rw[z];have ag:aB F L (c::fA τ args) ([u']++bw L ρ args++[]):=by
    rw[abm];simp only[aa1,abp,aB];exact⟨_,_,rfl,hu.lift,dS he args⟩
   refine dO.imp' (vk l ag h) ?_;rintro F' L' v ⟨M',p,c,h1,j,m⟩;exact h1.aap j m
  ·exact h.elim
 case callO f args =>
  simp only[bT,gk,fu,eZ] at h;simp only[evalOp];cases h with
  | mk h =>
   obtain⟨ks,ko,Lin,R,h1,j,m,h4,h5,h6,h7⟩:=h;refine dY.imp (rq (K:=fun M' p v=>K M' (bA d v p)) l (dS he args) h1 j m h4 h5 h6 h7) ?_;rintro F' L' v ⟨M',p,c,h1,j,m⟩ _;exact h1.aap j m
  | inpl ks Lin R h1 j m h4 =>
   refine dY.imp (vg (K:=fun M' p v=>K M' (bA d v p)) l (dS he args) h1 j m h4) ?_;rintro F' L' v ⟨M',p,c,h1,j,m⟩ _;exact h1.aap j m
 case callVO f args =>
  simp only[bT,gk,fu,eZ] at h;simp only[evalOp];split at h
  case h_2=>exact h.elim
  rename_i f' fi ca hx;obtain⟨aE,ba,e1,g1,g2⟩:=u7 he hx;rw[e1];cases h with
  | mk h =>
   obtain⟨ks,ko,Lin,R,h1,j,m,h4,h5,h6,h7⟩:=h;refine dY.imp (rq (K:=fun M' p v=>K M' (bA d v p)) l (jG he g1 g2 args) h1 j m h4 h5 h6 h7) ?_;rintro F' L' v ⟨M',p,c,h1,j,m⟩ _;exact h1.aap j m
  | inpl ks Lin R h1 j m h4 =>
   refine dY.imp (vg (K:=fun M' p v=>K M' (bA d v p)) l (jG he g1 g2 args) h1 j m h4) ?_;rintro F' L' v ⟨M',p,c,h1,j,m⟩ _;exact h1.aap j m
 case app=>exact NS l h
 case appX=>exact Kt l h
 case appD=>exact Ku l h
 case mkmap =>
  simp only[bT] at h;simp only[evalOp];split at h
  case h_2=>exact h.elim
  rename_i k;split at h
  case h_2=>exact h.elim
  rename_i q;have r:=cj l.tl q;simp only[r];intro g;have h1:=l.new (aA.le_refl F) r (o:=.box g 0 []) (to:=.map []) ⟨rfl,rfl⟩;exact⟨_,_,h1.put (c:=.mpr k) (sv:=.v (.map (some g))) ⟨_,rfl,by simp only[Rel];exact⟨g,[],by rw[Loc.aac,eu rfl],rfl⟩⟩ (some k),h⟩
 case mrange=>exact h.elim
 case mnext=>exact h.elim
 case mentry=>exact h.elim
 case mupd str x i v =>
  simp only[bT] at h;simp only[evalOp];split at h
  case h_2=>exact h.elim
  rename_i k hx;split at h
  case h_2=>exact h.elim
  rename_i es q ax al hp;obtain⟨be,ay,h⟩:=h;obtain⟨g,cs,e1,z⟩:=Gy he hx;obtain⟨g',vs,e3,hE⟩:=Ks l.tl q;rw[z] at e3;injection e3 with e3
  injection e3 with q1 q2 q3
  subst q1 q3;rw[e1];have aw:Rel F [] (cZ τ i) (val L ρ i)/\fj str (val L ρ i) (val L ρ i)=some true:=by
   rcases NY ax with⟨n,rfl,e⟩ | ⟨t,rfl,e⟩
   ·obtain⟨z,w⟩:=gL he e;simp only[e,val,z,conc,Rel,fj,decide_true];exact⟨⟨trivial,w⟩,trivial⟩
   ·obtain⟨z,w⟩:=wT he e;simp only[e,val,z,conc,Rel,fj,decide_true];exact⟨⟨trivial,w⟩,trivial⟩
  have bb:Rel F [] ((cZ τ v).cel.aaj) (val L ρ v):=by
   have bl:=iF he al;have ch:=jA (L':=[]) hp bl;exact Iv (Ch he v) hp
  obtain⟨cs',an,bd⟩:=GF aw.1 bb hE ay;refine⟨k,cs,z,hE.isMap,aw.2,cs',an,?_⟩;have h4:=l.turn (o':=.box g 0 cs') (to:=.map be) z ⟨rfl,rfl⟩ (fun g' t' cc e=>by injection e with a b c;subst a b;exact⟨_,rfl⟩) (fun _ _=>⟨rfl,bd⟩);exact h4.aap (c:=.und) (sv:=.v undef) ⟨_,rfl,by simp only[Rel]⟩ h
 case storeX n a x=>exact NX (AY l h)
 all_goals
  simp only[bT,gk,fu,eZ] at h;simp only[evalOp];exact R3 (d:=d) (K:=K) l h
end
section
variable {P:Program}{PS:nU}{G:Nat->Option (Nat×TypeId)}{F:aA}{L:Loc}{ρ:Env}{M:TL}{τ:aM}{a:Act}{w:World}{Q:Exit->Act->World->Prop}{o:Oper}
theorem kG {L2:Loc}(he:aD L ρ a) (b:aD L2 ρ a):∀xs:List X,bw L2 ρ xs=bw L ρ xs
 | []=>rfl
 | x::xs=>by
  have:val L2 ρ x=val L ρ x:=by
   cases x with
   | t n=>exact(b.eq n).symm.trans (he.eq n)
   | c v=>rfl
   | fn f=>rfl
   | mt d n =>
    simp only[val,ev];cases ρ n<;>rfl
  simp only[bw,this,kG he b xs]
theorem mY {f:Nat}{args:List C}{q:List Value}{K:TL->aM->C->Prop}(j:St F L w) (he:aD L ρ a) (k:TS G F L ρ M τ) (t:aB F L args q) (h:qt P f args M τ K) :
  ∃F' L',St F' L' w/\aD L' ρ a/\Step F L w F' L' w/\dY P f q F' L' (fun F' L' v=>∃M' b c,TS G F' L' ρ M' b/\aN F' L' c (.v v)/\K M' b c):=by
 cases h with
 | inpl ks Lin R h1 h2 h3 h4=>exact⟨F,L,j,he,Step.refl _ _ _,vg k t h1 h2 h3 h4⟩
 | mk h =>
 obtain⟨fz,ks,ko,h⟩:=h;obtain⟨F1,L1,M1,al,d,r,y,l,m,p,M2,Lin,R,k1,n,u,x,e,s,k8,k9⟩:=o4 j he k t h;rcases k1 with rfl | ⟨k1,k2⟩
 ·exact⟨F1,_,r,y,l,rq m p n u x e s k8 k9⟩
 ·obtain⟨e1,e2,e3,z,e5⟩:=qz r y m k1 k2;exact⟨F1,_,e1,e2,l.trans e3,rq z (p.ext (aA.le_refl F1) e5) n u x e s k8 k9⟩
theorem tV {f:Nat}{args:List C}{r:List Value}{K:TL->aM->C->Prop}(hs:St F L w) (he:aD L ρ a) (ht:TS G F L ρ M τ) (ha:aB F L args r) (h:lq P PS f args M τ K) (j:PS.st=none) :
  ∃F' L',St F' L' w/\aD L' ρ a/\Step F L w F' L' w/\fW P (zQ G PS) f r F' L' (fun F' L' v=>∃M' e c,TS G F' L' ρ M' e/\aN F' L' c (.v v)/\K M' e c):=by
 obtain⟨fz,ks,ko,h⟩:=h;obtain⟨F1,L1,M1,al,k,s,y,m,n,q,M2,Lin,R,Pp,k1,p,u,x,l,t,b,k8,d,k9⟩:=o4 hs he ht ha h;rcases k1 with rfl | ⟨k1,k2⟩
 ·exact⟨F1,_,s,y,m,A7 n q p u x l t b k8 d j k9⟩
 ·obtain⟨e1,e2,e3,z,e5⟩:=qz s y n k1 k2;exact⟨F1,_,e1,e2,m.trans e3,A7 z (q.ext (aA.le_refl F1) e5) p u x l t b k8 d j k9⟩
theorem tW {f:Nat}{args:List C}{q:List Value}{K:TL->aM->C->Prop}{st:TL->Value->Prop}(m:St F L w) (he:aD L ρ a) (n:TS G F L ρ M τ) (s:aB F L args q) (h:Fq P PS.ps PS.hb st f args M τ K) (k:PS.st=some st) :
  ∃F' L',St F' L' w/\aD L' ρ a/\Step F L w F' L' w/\fW P (zQ G PS) f q F' L' (fun F' L' v=>∃M' j c,TS G F' L' ρ M' j/\aN F' L' c (.v v)/\K M' j c):=by
 obtain⟨ks,ko,M2,Lin,R,Pp,k1,p,t,u,l,r,b,k8,e,k9⟩:=h;have d:PS=⟨PS.ps,PS.hb,some st⟩:=by rw[<-k]
 rcases k1 with rfl | ⟨k1,z⟩
 ·exact⟨F,_,m,he,Step.refl _ _ _,A8 n s d p t u l r b k8 e k9⟩
 ·obtain⟨e1,y,e3,x,e5⟩:=qz m he n k1 z;exact⟨F,_,e1,y,e3,A8 x (s.ext (aA.le_refl F) e5) d p t u l r b k8 e k9⟩
theorem A9:∀{cs:List C}{b us:List Value},yc cs=some us->aB F L cs b->b=us
 | [],b,us,h,r=>by simp only[yc,xo] at h;simp only[aB] at r;rw[r,<-h]
 | c::cs,b,us,h,r=>by
  simp only[aB] at r;obtain⟨v,f,rfl,d,e⟩:=r;cases c<;>simp only[yc,reduceCtorEq] at h
  all_goals
   split at h
   case h_2=>cases h
   rename_i j k;injection h with h
   subst h;rw[A9 k e];simp only[Rel] at d
   first
    | rw[d.1]
    | rw[d]
theorem KD {c:C}{u v:Value}(h:DG c=some u) (r:Rel F L c v):v=u/\∃t x,u=.iface t x:=by
 cases c<;>simp only[DG,reduceCtorEq] at h
 case ifc t c =>
  simp only[Rel] at r;obtain⟨x,rfl,r⟩:=r;cases c<;>simp only[DG,reduceCtorEq] at h
  case agg cs =>
   split at h
   case h_2=>cases h
   rename_i us b;injection h with h
   subst h;simp only[Rel] at r;obtain⟨d,rfl,r⟩:=r;rw[A9 b r];exact⟨rfl,_,_,rfl⟩
  all_goals
   injection h with h
   subst h;simp only[Rel] at r
   first
    | (obtain⟨rfl,_⟩:=r;exact⟨rfl,_,_,rfl⟩)
    | (subst r;exact⟨rfl,_,_,rfl⟩)
theorem bG.from {F1:aA}{L1:Loc}{K:dG}{a':Act}{w':World}(b:Step F L w F1 L1 w) (h:bG F1 L1 w a K a' w'):bG F L w a K a' w':=by
 obtain⟨F',L',ρ',h1,e,d,f,j,c⟩:=h;exact⟨F',L',ρ',h1,e,d,f,b.trans j,c⟩
theorem Iw {own:Bool}{s:dX}{K:TK}(hs:St F L w) (he:aD L ρ a) (e:TS G F L ρ M τ) (hd:∀k,o.dst=some k->k<a.tmps.size) (hl:iz P own o.op=some s)
  (b:bT P s o.dst M τ K):o.wp P a w (bG F L w a (Both G K)) Q:=by
 by_cases hc:kF s=true
 ·cases s<;>simp only[kF,aa2] at hc
  ·rename_i f args;simp only[bT,gk,fu,eZ] at b;obtain⟨F1,L1,y,j,q,r⟩:=mY hs he e (dS e.env args) b;refine Oper.wp_mono (fun a' w'=>bG.from q) (fD y j hd hl ?_);simp only[evalOp];rw[kG he j];exact dY.imp r fun F' L' v ⟨M',z,c,h1,m,p⟩=>h1.aap m p
  ·rename_i fx args;simp only[bT,gk,fu,eZ] at b;split at b
   ·rename_i f fi ca hx;obtain⟨bb,aE,e1,h1,m⟩:=u7 e.env hx;obtain⟨F1,L1,y,j,q,r⟩:=mY hs he e (jG e.env h1 m args) b;refine Oper.wp_mono (fun a' w'=>bG.from q) (fD y j hd hl ?_);simp only[evalOp,e1,rZ];rw[kG he j];exact dY.imp r fun F' L' v ⟨M',z,c,h1,m,p⟩=>h1.aap m p
   ·rename_i nm c hx;split at b
    case h_2=>exact b.elim
    rename_i t c;obtain⟨u,e1,hr⟩:=ye e.env hx;simp only[Rel] at hr;obtain⟨u',rfl,hu⟩:=hr;obtain⟨f',hm,b⟩:=b;have d:aB F L (c::fA τ args) ([u']++bw L ρ args++[]):=by
     rw[abm];simp only[aa1,abp,aB];exact⟨_,_,rfl,hu.lift,dS e.env args⟩
    obtain⟨F1,L1,y,j,q,r⟩:=mY hs he e d b;refine Oper.wp_mono (fun a' w'=>bG.from q) (fD y j hd hl ?_);have e2:rZ P (ev ρ fx)=some (f',[u'],[]):=by rw[e1];simp only[rZ,hm]
    simp only[evalOp,e2];rw[kG he j];exact dY.imp r fun F' L' v ⟨M',z,c,h1,m,p⟩=>h1.aap m p
   ·rename_i t nm hx;split at b
    case h_2=>exact b.elim
    rename_i t' c ae x l;have e1:=NI e.env hx;obtain⟨f',hm,b⟩:=b;have aa:=dS e.env args;rw[l] at aa;simp only[aB,Rel] at aa;obtain⟨v0,h,ar,⟨u,rfl,hu⟩,n⟩:=aa;have d:aB F L (c::ae) (u::h):=by
     simp only[aB];exact⟨_,_,rfl,hu.lift,n⟩
    obtain⟨F1,L1,y,j,q,r⟩:=mY hs he e d b;refine Oper.wp_mono (fun a' w'=>bG.from q) (fD y j hd hl ?_);have hi:∃ms,P.underlying t=some (.interface ms):=by
     unfold QF at x;split at x
     ·exact⟨_,by assumption⟩
     ·cases x
    obtain⟨ms,hi⟩:=hi;have e2:rZ P (ev ρ fx)=none:=by rw[e1];rfl
    have e3:Ao P (ev ρ fx) (bw L1 ρ args)=some (f',u::h):=by
     rw[kG he j,ar,e1];simp only[Ao,hi,hm]
    simp only[evalOp,e2,e3];exact dY.imp r fun F' L' v ⟨M',z,c,h1,m,p⟩=>h1.aap m p
   ·exact b.elim
 ·exact fD hs he hd hl (KC (by simpa using hc) e b)
theorem Iy {own:Bool}{s:dX}{K:TK}(q:St F L w) (he:aD L ρ a) (j:TS G F L ρ M τ) (hd:∀k,o.dst=some k->k<a.tmps.size) (hl:iz P own o.op=some s)
  (d:u6 P PS s o.dst M τ K) (hQ:∀v p w' F' L',rY v p->St F' L' w'->Step F L w F' L' w'->zQ G PS F' L' v->Q (.panic p) a w'):o.wp P a w (bG F L w a (Both G K)) Q:=by
 cases s<;>simp only[u6] at d<;>try (exact d.elim)
 ·rename_i f args;simp only[gk,fu,eZ] at d;have key:∃F' L',St F' L' w/\aD L' ρ a/\Step F L w F' L' w/\fW P (zQ G PS) f (bw L ρ args) F' L' (fun F' L' v=>∃M' h c,TS G F' L' ρ M' h/\aN F' L' c (.v v)/\K M' (bA o.dst c h)):=by
   split at d
   ·rename_i b;exact tV q he j (dS j.env args) d b
   ·rename_i st b;exact tW q he j (dS j.env args) d b
  obtain⟨F1,L1,g1,z,r,g4⟩:=key;refine Oper.wp_mono (fun a' w'=>bG.from r) (vS (PX:=zQ G PS) g1 z hd hl ?_ fun v p w' F' L' qc q1 q2 q3=>hQ v p w' F' L' qc q1 (r.trans q2) q3);rw[kG he z];exact fW.imp g4 fun F' L' v ⟨M',h,c,h1,l,n⟩=>h1.aap l n
 ·rename_i fx args;split at d
  case h_2=>exact d.elim
  rename_i f fi ca hx;simp only[gk,fu,eZ] at d;obtain⟨al,ab,e1,h1,l⟩:=u7 j.env hx;have key:∃F' L',St F' L' w/\aD L' ρ a/\Step F L w F' L' w/\fW P (zQ G PS) f (al++bw L ρ args++ab) F' L' (fun F' L' v=>∃M' h c,TS G F' L' ρ M' h/\aN F' L' c (.v v)/\K M' (bA o.dst c h)):=by
   split at d
   ·rename_i b;exact tV q he j (jG j.env h1 l args) d b
   ·rename_i st b;exact tW q he j (jG j.env h1 l args) d b
  obtain⟨F1,L1,g1,z,r,g4⟩:=key;refine Oper.wp_mono (fun a' w'=>bG.from r) (tI (PX:=zQ G PS) g1 z hd hl e1 ?_ fun v p w' F' L' qc q1 q2 q3=>hQ v p w' F' L' qc q1 (r.trans q2) q3);rw[kG he z];exact fW.imp g4 fun F' L' v ⟨M',h,c,h1,l,n⟩=>h1.aap l n
 ·rename_i x;have d:∃u,DG (cZ τ x)=some u/\jJ M [] PS.hb=true/\PS.ps u/\∀s,PS.st=some s->s M u:=by
   split at d
   ·rename_i b;obtain⟨u,h1,m,l⟩:=d;exact⟨u,h1,m,l,fun s e=>by rw[b] at e;cases e⟩
   ·rename_i st b;obtain⟨u,h1,m,l,n⟩:=d;exact⟨u,h1,m,l,fun s e=>by rw[b] at e;injection e with e;subst e;exact n⟩
  obtain⟨u,h1,m,l,n⟩:=d;have hr:=mF (dZ j.env x);have hc:(cZ τ x).cel=cZ τ x:=by
   cases e:cZ τ x<;>rw[e] at h1<;>first | rfl | (simp only[DG,reduceCtorEq] at h1;done)
  rw[hc] at hr;obtain⟨e1,t,y,e2⟩:=KD h1 hr;refine Ik (PX:=zQ G PS) q he hl (t:=t) (u:=y) (e1.trans e2) ⟨j.kp,by rw[<-e2];exact l,NU j.tl m fun k g t cs _ e=>e,fun s e=>⟨M,AZ j.tl,by rw[<-e2];exact n s e⟩⟩ hQ
theorem Fz (he:aD L ρ a) (b:TS G F L ρ M τ) (d:Option Nat):∃ρ',aD L ρ' a/\TS G F L ρ' M (rU d τ):=by
 cases d with
 | none=>exact⟨ρ,he,b⟩
 | some k =>
  have q:∀j,rU (some k) τ j=if j=k then(τ k).aaC else τ j:=by
   intro j;simp only[rU];cases h:Nat.beq j k with
   | true=>have:=aaQ h;simp[this]
   | false=>have:=gF h;simp[this]
  by_cases c:∃n off,τ k=.ownv n off
  ·obtain⟨n,off,c⟩:=c;have p:=b.env k;rw[c] at p;simp only[aN,Rel] at p;obtain⟨v,m,g,t,cs,f,rfl⟩:=p;have r:conc L (ρ k)=.pointer (some ⟨g,off,none⟩):=m.conc;refine⟨Fr.put (some k) (.own n off) ρ,⟨fun l=>?_,fun l j o e=>?_,fun l s j e=>?_⟩,b.tl,fun j=>?_,b.kp,b.glob⟩
   ·rw[he.eq l,put_eq];simp only[];split
    ·rename_i h;subst h;rw[r];simp only[conc,f]
    ·rfl
   ·rw[put_eq] at e;simp only[] at e;split at e
    ·injection e with q1 q2;subst q1;exact⟨g,t,cs,f⟩
    ·exact he.own _ _ _ e
   ·rw[put_eq] at e;simp only[] at e;split at e
    ·cases e
    ·exact he.el _ _ _ e
   ·rw[q,put_eq];simp only[];split
    ·rw[c];exact⟨rfl,g,t,cs,f⟩
    ·exact b.env j
  ·refine⟨ρ,he,b.tl,fun j=>?_,b.kp,b.glob⟩;rw[q];split
   ·rename_i h;subst h;have:(τ j).aaC=τ j:=by
     cases e:τ j<;>first | rfl | exact fL ⟨_,_,e⟩ c
    rw[this];exact b.env j
   ·exact b.env j
def tX (G:Nat->Option (Nat×TypeId)) (PS:nU) (ks:List Nat):Prop:=∀k∈ks,G k≠none->1000<=k\/fC (PS.hb.map (·.1)) k=true
theorem tX.left {ks b:List Nat}(h:tX G PS (ks++b)):tX G PS ks:=fun k c=>h k (aaU.2 (.inl c))
theorem tX.right {ks b:List Nat}(h:tX G PS (ks++b)):tX G PS b:=fun k c=>h k (aaU.2 (.inr c))
theorem lM:∀(a b:List ak),dD (a++b)=dD a++dD b
 | [],b=>rfl
 | .frz k::a,b=>by simp only[aa1,dD,lM a b]
 | .op _ _ _::a,b=>by simp only[aa1,dD,lM a b]
 | .pc _ _ _::a,b=>by simp only[aa1,dD,lM a b]
theorem DS {k:Nat}{K:TK}{r:TL->aM->TK->Prop}(p:St F L w) (he:aD L ρ a) (q:TS G F L ρ M τ) (v:G k≠none->1000<=k\/fC (PS.hb.map (·.1)) k=true) (h:stepT P PS false (.frz k) r M τ K) :
  ∃F' L' ρ' M' b,St F' L' w/\aD L' ρ' a/\Step F L w F' L' w/\TS G F' L' ρ' M' b/\r M' b K:=by
 simp only[stepT,gk] at h;split at h
 ·rename_i t sz els f;obtain⟨F1,L1,m,n,j,l,_⟩:=sJ p he q f;exact⟨F1,L1,ρ,_,_,m,n,j,l,h⟩
 ·rename_i t cs f;split at h
  case h_2=>exact h.elim
  rename_i y u z s;have c:G k=none:=by
   cases e:G k with
   | none=>rfl
   | some x =>
    rcases v (by rw[e];simp) with h1 | h1
    ·rw[Nat.blt_eq] at z;omega
    ·rw[s] at h1;cases h1
  obtain⟨F1,L1,d,m,n,j,l⟩:=Fx p he q f y u c;exact⟨F1,L1,d,_,_,m,n,j,l,h⟩
 ·exact h.elim
theorem yF {A:cW}{r:Nat}{l:Array Oper}{K:TK}:∀(is:List Nat) {ss:List ak}{F:aA}{L:Loc}{ρ:Env}{M:TL}{τ:aM}{a:Act}{w:World},qh P A r l is=some ss->tX G PS (dD ss)->St F L w->aD L ρ a->TS G F L ρ M τ->a.tmps.size=A.n ->
  dB P PS false ss M τ K->(∀a' w',eJ A.n F L w a (dstsOf l is) (Both G K) a' w'->Q .normal a' w') ->
  (∀v ch a' w',rY v ch->rS A.n F L w a (dstsOf l is) (zQ G PS) v a' w'->Q (.panic ch) a' w')->wpOps P l Q is a w:=by
 intro is
 induction is with
 | nil =>
  intro ss F L ρ M τ a w hl bu hs he ht hn q hQ bb;simp only[qh,xo] at hl;subst hl;exact hQ a w ⟨F,L,ρ,hs,he,hn,rfl,Step.refl _ _ _,fun _ _=>rfl,M,τ,ht,q⟩
 | cons i is ih =>
  intro ss F L ρ M τ a w hl bu hs he ht hn q hQ bb;simp only[qh] at hl;split at hl
  case h_1=>cases hl
  rename_i o hi;split at hl
  case h_2=>cases hl
  rename_i g s z hg cf bl ay;injection hl with hl
  subst hl;have aw:∀(ks:List Nat) {x:ak}{F:aA}{L:Loc}{ρ:Env}{M:TL}{τ:aM},tX G PS (dD (ks.map ak.frz++x::z))->St F L w->aD L ρ a->TS G F L ρ M τ->dB P PS false (ks.map ak.frz++x::z) M τ K ->
    ∃F' L' ρ' M' al,St F' L' w/\aD L' ρ' a/\Step F L w F' L' w/\TS G F' L' ρ' M' al/\dB P PS false (x::z) M' al K:=by
   intro ks
   induction ks with
   | nil=>intro x F L ρ M τ _ hs he ht h;exact⟨F,L,ρ,M,τ,hs,he,Step.refl _ _ _,ht,h⟩
   | cons k ks cs =>
    intro x F L ρ M τ hz hs he ht h;simp only[aaX,aa1,eU] at h;obtain⟨F1,L1,ce,M1,u,g1,g2,g3,g4,h⟩:=DS hs he ht (hz k (by simp[dD])) h;obtain⟨F2,L2,cl,M2,cy,k1,k2,k3,k4,k5⟩:=cs (fun j hj=>hz j (by simp only[aaX,aa1,dD];exact abg _ hj)) g1 g2 g4 h;exact⟨F2,L2,cl,M2,cy,k1,k2,g3.trans k3,k4,k5⟩
  have bm:tX G PS (dD z):=fun j hj=>bu j (by
   rw[lM];refine aaU.2 (.inr ?_);cases hp:vO A.pan r i<;>simp only[nu,dD]<;>exact hj)
  obtain⟨F1,L1,ce,M1,u,bs,ae,an,m,q⟩:=aw _ bu hs he ht q
  clear aw he ht
  revert ae m
  generalize ce=ρ;intro ae m;have hd:∀k,o.dst=some k->k<a.tmps.size:=by
   intro k hk;rw[hk] at bl;rw[hn];have h2:Nat.blt k A.n=true:=bl;simpa using h2
  have bz:dstsOf l (i::is)=match o.dst with | some d=>d::dstsOf l is | none=>dstsOf l is:=by
   simp only[dstsOf,hi,Option.bind_some];rfl
  have ac:∀j,j∉dstsOf l (i::is)->o.dst≠some j/\j∉dstsOf l is:=by
   intro j hj;rw[bz] at hj;cases ho:o.dst with
   | none=>rw[ho] at hj;exact⟨by simp,hj⟩
   | some d =>
    rw[ho] at hj;simp only[aaT,not_or] at hj;exact⟨by simp;exact fun e=>hj.1 e.symm,hj.2⟩
  have after:∀{KK:Prop},o.wp P a w (fun a' w'=>bG F1 L1 w a (Both G fun M' al=>dB P PS false z M' (rU o.dst al) K) a' w') Q->o.wp P a w (wpOps P l Q is) Q:=by
   intro _ this;refine Oper.wp_mono ?_ (qi (asg:=[]) this);rintro a' w' ⟨⟨F',L',ρ',g1,g2,g3,g4,g5,M',al,g6,g7⟩,ci⟩;obtain⟨cl,n1,n2⟩:=Fz g2 g6 o.dst;refine ih ay bm g1 n1 n2 (by rw[g3,hn]) g7 ?_ ?_
   ·rintro av ao ⟨F'',L'',aE,k1,k2,k3,k4,k5,k6,k7⟩;refine hQ av ao ⟨F'',L'',aE,k1,k2,k3,k4.trans g4,(an.trans g5).trans k5,fun j hj=>?_,k7⟩;obtain⟨n1,n2⟩:=ac j hj;rw[k6 j n2,ci j n1]
   ·rintro v ch av ao kc ⟨F'',L'',k1,k2,k3,k4,k5,k6⟩;refine bb v ch av ao kc ⟨F'',L'',k1,(an.trans g5).trans k2,k3,k4.trans g4,fun j hj=>?_,k6⟩;obtain⟨n1,n2⟩:=ac j hj;rw[k5 j n2,ci j n1]
  have ax:∀{u:aM},TS G F1 L1 ρ M1 u->bT P s o.dst M1 u (fun M' al=>dB P PS false z M' (rU o.dst al) K)->o.wp P a w (wpOps P l Q is) Q:=by
   intro u m q;exact after (KK:=True) (Iw (Q:=Q) bs ae m hd cf q)
  have ar:∀{u:aM},TS G F1 L1 ρ M1 u->u6 P PS s o.dst M1 u (fun M' al=>dB P PS false z M' (rU o.dst al) K)->o.wp P a w (wpOps P l Q is) Q:=by
   intro u m q;exact after (KK:=True) (Iy (Q:=Q) bs ae m hd cf q fun v ch w' F' L' qc q1 q2 q3=>bb v ch a w' qc ⟨F',L',q1,an.trans q2,hn,rfl,fun _ _=>rfl,q3⟩)
  have skip:∀{u:aM},TS G F1 L1 ρ M1 u->dB P PS false z M1 (bA o.dst .und u) K->wpOps P l Q is (a.put o.dst undef) w:=by
   intro u m q;have cr:=ae.put hd (v:=undef) (x:=.v undef) rfl cC eV (tC L1);refine ih ay bm bs cr (m.put (c:=.und) (sv:=.v undef) ⟨_,rfl,by simp only[Rel]⟩ o.dst) (by rw[jK,hn]) q ?_ ?_
   ·rintro av ao ⟨F'',L'',aE,k1,k2,k3,k4,k5,k6,k7⟩;refine hQ av ao ⟨F'',L'',aE,k1,k2,k3,k4.trans (gJ _ _ _),an.trans k5,fun j hj=>?_,k7⟩;obtain⟨n1,n2⟩:=ac j hj;rw[k6 j n2,kz n1]
   ·rintro v ch av ao kc ⟨F'',L'',k1,k2,k3,k4,k5,k6⟩;refine bb v ch av ao kc ⟨F'',L'',k1,an.trans k2,k3,k4.trans (gJ _ _ _),fun j hj=>?_,k6⟩;obtain⟨n1,n2⟩:=ac j hj;rw[k5 j n2,kz n1]
  simp only[wpOps,hi];cases cm:vO A.pan r i with
  | false =>
   rw[cm] at q;cases aa:o.guard with
   | none =>
    rw[aa] at hg;simp only[iB,xo] at hg;subst hg;simp only[nu,eU,stepT] at q;rw[eu (by simp[Region.wanted,aa])];exact .inl (ax m q)
   | some p =>
    obtain⟨j,y⟩:=p;rw[aa] at hg;simp only[iB] at hg;split at hg
    case h_2=>cases hg
    rename_i d ba;injection hg with hg
    subst hg;simp only[nu,eU,stepT] at q;split at q
    ·rename_i b hb;have ad:ρ d=.v (.bool b):=jg (x:=.t d) m.env hb;have f:=ae.eq d;rw[ad] at f;have hy:yielded l a.tmps j=some b:=by
      simp only[yielded,ba,Option.bind_some,qX f]
     have hw:Region.wanted o (yielded l a.tmps)=(b == y):=by
      simp only[Region.wanted,aa,hy];cases b<;>cases y<;>rfl
     have ag:TS G F1 L1 ρ M1 (bA (some d) (.bool b) u):=by
      have:=m.put (c:=.bool b) (sv:=.v (.bool b)) ⟨_,rfl,by simp only[Rel]⟩ (some d)
      rwa [kR ad] at this
     rw[hw];cases b<;>simp only[zP] at q
     ·cases y
      ·exact .inl (ax ag q)
      ·exact skip ag q
     ·cases y
      ·exact skip ag q
      ·exact .inl (ax ag q)
    ·rename_i hb;have hr:=m.env d;rw[hb] at hr;simp only[aN,Rel] at hr;obtain⟨v,ad,rfl⟩:=hr;have f:=ae.eq d;rw[ad] at f;have hy:yielded l a.tmps j=none:=by
      simp only[yielded,ba,Option.bind_some];rw[aa6] at f;cases e:a.tmps[d]? with
      | none=>rfl
      | some v=>rw[e] at f;simp only[Option.getD_some,conc] at f;rw[f];rfl
     have hw:Region.wanted o (yielded l a.tmps)=false:=by
      simp only[Region.wanted,aa,hy];rfl
     rw[hw];exact skip m q
    ·exact q.elim
  | true =>
   rw[cm] at q;cases aa:o.guard with
   | none =>
    rw[aa] at hg;simp only[iB,xo] at hg;subst hg;simp only[nu,eU,stepT] at q;rw[eu (by simp[Region.wanted,aa])];exact .inl (ar m q)
   | some p =>
    obtain⟨j,y⟩:=p;rw[aa] at hg;simp only[iB] at hg;split at hg
    case h_2=>cases hg
    rename_i d ba;injection hg with hg
    subst hg;simp only[nu,eU,stepT] at q;split at q
    ·rename_i b _ hb;have ad:ρ d=.v (.bool b):=jg (x:=.t d) m.env hb;have f:=ae.eq d;rw[ad] at f;have hy:yielded l a.tmps j=some b:=by
      simp only[yielded,ba,Option.bind_some,qX f]
     have hw:Region.wanted o (yielded l a.tmps)=(b == y):=by
      simp only[Region.wanted,aa,hy];cases b<;>cases y<;>rfl
     have ag:TS G F1 L1 ρ M1 (bA (some d) (.bool b) u):=by
      have:=m.put (c:=.bool b) (sv:=.v (.bool b)) ⟨_,rfl,by simp only[Rel]⟩ (some d)
      rwa [kR ad] at this
     rw[hw];cases b<;>simp only[zP] at q
     ·cases y
      ·exact .inl (ar ag q)
      ·exact skip ag q
     ·cases y
      ·exact skip ag q
      ·exact .inl (ar ag q)
    ·rename_i hb;have hr:=m.env d;rw[hb] at hr;simp only[aN,Rel] at hr;obtain⟨v,ad,rfl⟩:=hr;have f:=ae.eq d;rw[ad] at f;have hy:yielded l a.tmps j=none:=by
      simp only[yielded,ba,Option.bind_some];rw[aa6] at f;cases e:a.tmps[d]? with
      | none=>rfl
      | some v=>rw[e] at f;simp only[Option.getD_some,conc] at f;rw[f];rfl
     have hw:Region.wanted o (yielded l a.tmps)=false:=by
      simp only[Region.wanted,aa,hy];rfl
     rw[hw];exact skip m q
    ·exact q.elim
theorem lf:aN F L .und (.v undef):=⟨_,rfl,by simp only[Rel]⟩
theorem yG {o:dX}{d:Option Nat}{F:aA}{L:Loc}{ρ:Env}{K K':dG}(h:evalOp P o d F L ρ K) (p:∀F' L' ρ',K F' L' ρ'->K' F' L' ρ'):evalOp P o d F L ρ K':=by
 cases o
 case box t x =>
  simp only[evalOp] at h ⊢;cases d with
  | none=>exact h.elim
  | some k =>
   simp only[] at h ⊢;generalize L.get k=z at h ⊢;cases z with
   | none=>exact fun g=>p _ _ _ (h g)
   | some _=>exact h.elim
 case boxD t x =>
  simp only[evalOp] at h ⊢;cases d with
  | none=>exact h.elim
  | some k =>
   simp only[] at h ⊢;generalize L.get k=z at h ⊢;cases z with
   | none=>exact fun g r=>p _ _ _ (h g r)
   | some _=>exact h.elim
 case boxF t x=>exact fun g F' a b=>p _ _ _ (h g F' a b)
 case alloc t z =>
  simp only[evalOp] at h ⊢;cases d with
  | none=>exact h.elim
  | some k =>
   simp only[] at h ⊢;generalize L.get k=z at h ⊢;cases z with
   | none=>exact fun g=>p _ _ _ (h g)
   | some _=>exact h.elim
 case allocD t z =>
  simp only[evalOp] at h ⊢;cases d with
  | none=>exact h.elim
  | some k =>
   simp only[] at h ⊢;generalize L.get k=z at h ⊢;cases z with
   | none=>exact fun g r=>p _ _ _ (h g r)
   | some _=>exact h.elim
 case mkF e n sz xs =>
  simp only[evalOp] at h ⊢;generalize ga L ρ sz xs=z at h ⊢;cases z with
  | true=>exact fun g F' a b=>p _ _ _ (h g F' a b)
  | false=>exact h.elim
 case mkFD e n sz xs =>
  simp only[evalOp] at h ⊢;generalize ga L ρ sz xs=z at h ⊢;cases z with
  | true=>exact fun g F' a b c=>p _ _ _ (h g F' a b c)
  | false=>exact h.elim
 case mkR e n sz xs =>
  simp only[evalOp] at h ⊢;generalize ga L ρ sz xs=z at h ⊢;cases z with
  | false=>exact h.elim
  | true =>
   cases d with
   | none=>exact h.elim
   | some k =>
    simp only[] at h ⊢;generalize L.get k=z at h ⊢;cases z with
    | none=>exact fun g=>p _ _ _ (h g)
    | some _=>exact h.elim
 case makeS e sz b zs l c =>
  simp only[evalOp] at h ⊢;generalize ev ρ l=z1 at h ⊢;generalize ev ρ c=z2 at h ⊢;split at h
  ·rename_i k;generalize L.get k=z at h ⊢;cases z with
   | none=>exact⟨h.lo,h.le,h.hi,h.max,fun g=>p _ _ _ (h.out g)⟩
   | some _=>exact h.elim
  ·exact h.elim
 case storeX n a x =>
  simp only[evalOp] at h ⊢;generalize ig (aO (val L ρ x)) n=z1 at h ⊢;generalize j9 (aO (val L ρ x))=z2 at h ⊢;generalize ev ρ a=z3 at h ⊢;split at h
  ·rename_i k off;generalize L.get k=z at h ⊢;split at h
   ·rename_i t cs;generalize jt t ((cs.drop off).take n) n=b at h ⊢;cases b
    ·exact h.elim
    ·exact fun r=>p _ _ _ (h r)
   ·exact h.elim
  ·exact⟨let⟨k,v,t,sz,m,xs,ad,c,h1,u,q,y,h5,h6⟩:=h.out;⟨k,v,t,sz,m,xs,ad,c,h1,u,q,y,h5,fun r=>p _ _ _ (h6 r)⟩⟩
  ·exact⟨let⟨k,v,t,sz,m,xs,ad,c,h1,u,q,y,h5,h6⟩:=h.out;⟨k,v,t,sz,m,xs,ad,c,h1,u,q,y,h5,fun r=>p _ _ _ (h6 r)⟩⟩
  ·exact h.elim
 case store n a x =>
  simp only[evalOp] at h ⊢;generalize ig (aO (val L ρ x)) n=z1 at h ⊢;generalize j9 (aO (val L ρ x))=z2 at h ⊢;generalize ev ρ a=z3 at h ⊢;split at h
  ·rename_i k off;generalize L.get k=z at h ⊢;split at h
   ·rename_i t cs;generalize jt t ((cs.drop off).take n) n=b at h ⊢;cases b
    ·exact h.elim
    ·exact p _ _ _ h
   ·exact h.elim
  ·exact⟨let⟨k,v,t,sz,m,xs,ad,c,h1,u,q,y,h5,h6⟩:=h.out;⟨k,v,t,sz,m,xs,ad,c,h1,u,q,y,h5,p _ _ _ h6⟩⟩
  ·exact⟨let⟨k,v,t,sz,m,xs,ad,c,h1,u,q,y,h5,h6⟩:=h.out;⟨k,v,t,sz,m,xs,ad,c,h1,u,q,y,h5,p _ _ _ h6⟩⟩
  ·exact h.elim
 case storeD n a x =>
  simp only[evalOp] at h ⊢;generalize ig (aO (val L ρ x)) n=z1 at h ⊢;generalize j9 (aO (val L ρ x))=z2 at h ⊢;generalize ev ρ a=z3 at h ⊢;split at h
  ·rename_i k off;generalize L.get k=z at h ⊢;split at h
   ·rename_i t cs;generalize jt t ((cs.drop off).take n) n=b at h ⊢;cases b
    ·exact h.elim
    ·exact p _ _ _ h
   ·exact h.elim
  ·exact h.elim
 case storeK key n a x =>
  obtain⟨n',a',x',k,off,g,t,cs,ho,e1,e2,e3,e4,e5,h⟩:=iQ rfl h;exact iC ho e1 e2 e3 e4 e5 (p _ _ _ h)
 case makeSD e sz n zs =>
  simp only[evalOp] at h ⊢;cases d with
  | none=>exact h.elim
  | some k =>
   simp only[] at h ⊢;split at h
   ·exact fun g r=>p _ _ _ (h g r)
   ·exact h.elim
 case makeSV e sz b zs x =>
  simp only[evalOp] at h ⊢;cases d with
  | none=>exact h.elim
  | some k =>
   simp only[] at h ⊢;split at h
   ·exact fun g r=>p _ _ _ (h g r)
   ·exact h.elim
 case call f args =>
  simp only[evalOp] at h ⊢;exact dY.imp h fun _ _ _ h=>p _ _ _ h
 case callV f args =>
  simp only[evalOp] at h ⊢;generalize rZ P (ev ρ f)=z at h ⊢;split at h
  ·exact dY.imp h fun _ _ _ h=>p _ _ _ h
  ·generalize Ao P (ev ρ f) (bw L ρ args)=z at h ⊢;split at h
   ·exact dY.imp h fun _ _ _ h=>p _ _ _ h
   ·exact h.elim
 case callO f args =>
  simp only[evalOp] at h ⊢;exact dY.imp h fun _ _ _ h r=>p _ _ _ (h r)
 case callVO f args =>
  simp only[evalOp] at h ⊢;generalize rZ P (ev ρ f)=z at h ⊢;split at h
  ·exact dY.imp h fun _ _ _ h r=>p _ _ _ (h r)
  ·exact h.elim
 case callD f args =>
  simp only[evalOp] at h ⊢;exact dO.imp' h fun _ _ _ h=>p _ _ _ h
 case callVD f args =>
  simp only[evalOp] at h ⊢;generalize rZ P (ev ρ f)=z at h ⊢;split at h
  ·exact dO.imp' h fun _ _ _ h=>p _ _ _ h
  ·exact h.elim
 case app e sz b zs s x =>
  simp only[evalOp] at h ⊢;generalize ev ρ s=z1 at h ⊢;generalize ev ρ x=z2 at h ⊢;split at h
  ·exact⟨let⟨kd,n,xs,m,news,h1,u,q,y,h5,h6⟩:=h.out;⟨kd,n,xs,m,news,h1,u,q,y,h5,fun v hv=>p _ _ _ (h6 v hv)⟩⟩
  ·exact h.elim
 case appX e sz b zs s x =>
  simp only[evalOp] at h ⊢;generalize ev ρ s=z1 at h ⊢;generalize ev ρ x=z2 at h ⊢;split at h
  ·exact⟨let⟨kd,n,xs,m,news,h1,u,q,y,h5,h6⟩:=h.out;⟨kd,n,xs,m,news,h1,u,q,y,h5,fun v hv r=>p _ _ _ (h6 v hv r)⟩⟩
  ·exact h.elim
 case appD e sz b zs s x =>
  simp only[evalOp] at h ⊢;generalize ev ρ s=z1 at h ⊢;generalize ev ρ x=z2 at h ⊢;split at h
  ·exact⟨let⟨kd,n,xs,m,news,h1,u,q,y,h5,h6⟩:=h.out;⟨kd,n,xs,m,news,h1,u,q,y,h5,fun v hv r=>p _ _ _ (h6 v hv r)⟩⟩
  ·exact h.elim
 case pan x=>simp only[evalOp] at h
 case dead=>simp only[evalOp] at h
 case mkmap =>
  simp only[evalOp] at h ⊢;cases d with
  | none=>exact h.elim
  | some k =>
   simp only[] at h ⊢;generalize L.get k=z at h ⊢;cases z with
   | none=>exact fun g=>p _ _ _ (h g)
   | some _=>exact h.elim
 case mupd str x i v =>
  simp only[evalOp] at h ⊢;generalize ev ρ x=z1 at h ⊢;split at h
  ·obtain⟨k,cs,h1,u,q,cs',y,h5⟩:=h;exact⟨k,cs,h1,u,q,cs',y,p _ _ _ h5⟩
  ·exact h.elim
 case mrange x =>
  simp only[evalOp] at h ⊢;generalize ev ρ x=z1 at h ⊢;split at h
  ·rename_i g k;generalize L.get k=z at h ⊢;cases z with
   | none =>
    obtain⟨km,cs,h1,u,q⟩:=h;exact⟨km,cs,h1,u,fun gi=>p _ _ _ (q gi)⟩
   | some _=>exact h.elim
  ·exact h.elim
 case mnext x =>
  simp only[evalOp] at h ⊢;generalize ev ρ x=z1 at h ⊢;split at h
  ·split at h
   ·rename_i hL;obtain⟨km,cs,h1,u,q,y,h5⟩:=h.out;exact⟨km,cs,h1,u,q,fun j e a b=>p _ _ _ (y j e a b),fun a=>p _ _ _ (h5 a)⟩
   ·exact h.elim
  ·exact h.elim
 case mentry x =>
  simp only[evalOp] at h ⊢;generalize ev ρ x=z1 at h ⊢;split at h
  ·split at h
   ·obtain⟨km,cs,j,e,h1,u,q,y,h5,h6⟩:=h.out;exact⟨km,cs,j,e,h1,u,q,y,h5,p _ _ _ h6⟩
   ·exact h.elim
  ·exact h.elim
 all_goals
  simp only[evalOp] at h ⊢;exact DR h fun v h=>p _ _ _ h
theorem FA {s s':dX}(h:drawn s=some s'):kF s'=false:=by
 cases s<;>simp only[drawn,xo,reduceCtorEq] at h<;>subst h<;>rfl
theorem DT {bx:List Nat}{s s':dX}(h:oN bx s=some s'):kF s'=false:=by
 unfold oN at h;split at h
 ·split at h
  ·split at h
   ·injection h with h;subst h;rfl
   ·cases h
  ·split at h
   ·split at h
    ·injection h with h;subst h;rfl
    ·cases h
   ·cases h
 ·injection h with h;subst h;rfl
 ·split at h<;>(injection h with h;subst h;rfl)
 ·split at h<;>(injection h with h;subst h;rfl)
 ·exact FA h
theorem DU {fl bx:List Nat}{bk:List (Nat×Nat)}{s s':dX}(h:uS fl bk bx s=some s'):kF s'=false:=by
 rcases xM h with h | ⟨a,n,i,rfl,rfl⟩ | ⟨a,n,i,key,rfl,rfl⟩ | ⟨a,n,i,rfl,rfl⟩
 ·exact DT h
 ·rfl
 ·rfl
 ·rfl
theorem DV {s s':dX}(h:xJ s=some s'):kF s'=false:=by
 cases s<;>simp only[xJ,xo,reduceCtorEq] at h<;>subst h<;>rfl
theorem vW {A:cW}{e:Array Oper}:∀{is:List Nat}{ss:List ak},eO P A e is=some ss->∀s∈ss,(∃d o g,s=.op d o g/\kF o=false)\/∃d o,s=.pc d o none/\Fc o=true:=by
 intro is
 induction is with
 | nil=>intro ss h s c;simp only[eO,xo] at h;subst h;cases c
 | cons i is j =>
  intro ss h s c;simp only[eO] at h;split at h
  case h_2=>cases h
  rename_i l f h1 k;injection h with h
  subst h;rcases aaT.1 c with rfl | c
  ·unfold BZ at h1;split at h1
   case h_1=>cases h1
   split at h1
   case h_2=>cases h1
   split at h1
   ·split at h1
    case h_3=>cases h1
    ·injection h1 with h1
     exact .inr ⟨_,_,h1.symm,rfl⟩
    ·injection h1 with h1
     exact .inr ⟨_,_,h1.symm,rfl⟩
   ·split at h1
    ·split at h1
     case h_2=>cases h1
     rename_i s' b;injection h1 with h1
     exact .inl ⟨_,s',_,h1.symm,DV b⟩
    ·split at h1
     case h_2=>cases h1
     rename_i s' b;split at h1
     case h_2=>cases h1
     injection h1 with h1
     exact .inl ⟨_,s',_,h1.symm,DU b⟩
  ·exact j k s c
theorem DW:∀{ss:List ak},Gt ss=true->∀d o g,ak.pc d o g∉ss
 | [],_,d,o,g,h=>by cases h
 | .op _ _ _::l,b,d,o,g,h=>by
  rcases aaT.1 h with h | h
  ·cases h
  ·exact DW (ss:=l) b d o g h
 | .frz _::l,b,d,o,g,h=>by cases b
 | .pc _ _ _::l,b,d,o,g,h=>by cases b
theorem Iz {A:cW}{b:Array Oper}{is:List Nat}{ss:List ak}(e:eO P A b is=some ss) (f:Gt ss=true):∀s∈ss,∃d o g,s=.op d o g/\kF o=false:=by
 intro s c;rcases vW e s c with h | ⟨d,o,rfl,_⟩
 ·exact h
 ·exact fL c (DW f _ _ _)
theorem yH {K:TK}:∀(ss:List ak),(∀s∈ss,∃d o g,s=ak.op d o g/\kF o=false)->∀{F:aA}{L:Loc}{ρ:Env}{M:TL}{τ:aM},TS G F L ρ M τ->dB P PS true ss M τ K->aT P ss F L ρ (Both G K)
 | [],_,F,L,ρ,M,τ,e,h=>⟨M,τ,e,h⟩
 | s::ss,u,F,L,ρ,M,τ,e,h=>by
  obtain⟨d,o,g,rfl,z⟩:=u s (by simp);have j:∀s∈ss,∃d o g,s=ak.op d o g/\kF o=false:=fun s y=>u s (by simp[y]);have c:∀{ρ:Env}{τ:aM},TS G F L ρ M τ->bT P o d M τ (fun M' l=>dB P PS true ss M' l K)->evalOp P o d F L ρ (fun F' L' ρ'=>aT P ss F' L' ρ' (Both G K)):=by
   intro ρ τ e h;have:=KC z e h;exact yG this fun F' L' ρ' ⟨M',l,h1,h2⟩=>yH ss j h1 h2
  cases g with
  | none =>
   simp only[eU,stepT] at h;simp only[aT];exact c e h
  | some p =>
   obtain⟨s,m⟩:=p;simp only[eU,stepT] at h;simp only[aT];split at h
   ·rename_i b hb;have k:ρ s=.v (.bool b):=jg (x:=.t s) e.env hb;simp only[k];have f:∀n,b=n->TS G F L (Fr.put (some s) (.v (.bool n)) ρ) M (bA (some s) (.bool n) τ):=fun n _=>e.put gq (some s);have r:∀{ρ:Env}{τ:aM},TS G F L ρ M τ->TS G F L (Fr.put d (.v undef) ρ) M (bA d .und τ):=fun e=>e.put lf d;cases b<;>simp only[zP] at h ⊢<;>cases m<;>simp only[] at h ⊢
    ·exact c (f _ rfl) h
    ·exact yH ss j (r (f _ rfl)) h
    ·exact yH ss j (r (f _ rfl)) h
    ·exact c (f _ rfl) h
   ·rename_i hb;have q:=e.env s;rw[hb] at q;simp only[aN,Rel] at q;obtain⟨v,k,rfl⟩:=q;simp only[k,undef];exact yH ss j (e.put lf d) h
   ·exact h.elim
theorem vn:∀{ss:List ak},AQ ss M=true->∀s∈ss,∀k,xR s=some k->M.get k=none
 | [],_,s,b,_,_=>by cases b
 | x::l,h,s,b,k,e=>by
  unfold AQ at h;rcases aaT.1 b with rfl | b
  ·rw[e] at h;simp only[] at h;cases c:M.get k with
   | none=>rfl
   | some o=>rw[c] at h;cases h
  ·split at h
   ·exact vn h s b k e
   ·split at h
    ·exact vn h s b k e
    ·cases h
theorem o6 {K:TK}{z:List Nat}:∀(ss:List ak),(∀s∈ss,(∃d o g,s=ak.op d o g/\kF o=false)\/∃d o,s=ak.pc d o none/\Fc o=true)->∀{F:aA}{L:Loc}{ρ:Env}{M:TL}{τ:aM},TS G F L ρ M τ->kD P PS z ss M τ K->bn P (zQ G PS) z ss F L ρ (Both G K)
 | [],_,F,L,ρ,M,τ,e,h=>⟨M,τ,e,h⟩
 | s::ss,hc,F,L,ρ,M,τ,e,h=>by
  have k:∀s∈ss,(∃d o g,s=ak.op d o g/\kF o=false)\/∃d o,s=ak.pc d o none/\Fc o=true:=fun s hs=>hc s (by simp[hs]);rcases hc s (by simp) with⟨d,o,g,rfl,ho⟩ | ⟨d,o,rfl,ho⟩
  case inr =>
   cases o<;>simp only[Fc,aa2] at ho
   ·rename_i f l;simp only[jT,AR,Fs,gk,fu,eZ] at h;simp only[bn,sB];split at h
    case h_1 =>
     rename_i st j;refine(vU e (dS e.env l) (show PS=⟨PS.ps,PS.hb,some st⟩ by rw[<-j]) h).imp fun F' L' v _ _ _ _ _ h=>?_;obtain⟨M',m,c,h1,n,y⟩:=h;exact o6 ss k (h1.put n d) y
    rename_i j;refine(yA e (dS e.env l) h j).imp fun F' L' v _ _ _ _ _ h=>?_;obtain⟨M',m,c,h1,n,y⟩:=h;exact o6 ss k (h1.put n d) y
   ·rename_i fx l;simp only[jT,AR,Fs] at h;split at h
    case h_2=>exact h.elim
    rename_i f fi ca hx;simp only[gk,fu,eZ] at h;obtain⟨am,ag,e1,h1,n⟩:=u7 e.env hx;simp only[bn,sB,e1];split at h
    case h_1 =>
     rename_i st j;refine(vU e (jG e.env h1 n l) (show PS=⟨PS.ps,PS.hb,some st⟩ by rw[<-j]) h).imp fun F' L' v _ _ _ _ _ h=>?_;obtain⟨M',m,c,h1,n,y⟩:=h;exact o6 ss k (h1.put n d) y
    rename_i j;refine(yA e (jG e.env h1 n l) h j).imp fun F' L' v _ _ _ _ _ h=>?_;obtain⟨M',m,c,h1,n,y⟩:=h;exact o6 ss k (h1.put n d) y
  have q:∀{ρ:Env}{τ:aM},TS G F L ρ M τ->bT P o d M τ (fun M' m=>kD P PS z ss M' m K)->evalOp P o d F L ρ (fun F' L' ρ'=>bn P (zQ G PS) z ss F' L' ρ' (Both G K)):=by
   intro ρ τ e h;have:=KC ho e h;exact yG this fun F' L' ρ' ⟨M',m,h1,n⟩=>o6 ss k h1 n
  cases g with
  | none =>
   simp only[jT,AR,stepT] at h;exact⟨o,rfl,q e h⟩
  | some p =>
   obtain⟨s,aa⟩:=p;simp only[jT,AR,stepT] at h;simp only[bn,res];have hu:∀{ρ:Env}{τ:aM},TS G F L ρ M τ->TS G F L (Fr.put d (.v undef) ρ) M (bA d .und τ):=fun e=>e.put lf d;have skip:∀{ρ:Env}{τ:aM},TS G F L ρ M τ->kD P PS z ss M (bA d .und τ) K->evalOp P iD d F L ρ (fun F' L' ρ'=>bn P (zQ G PS) z ss F' L' ρ' (Both G K)):=by
    intro ρ τ e h;simp only[iD,evalOp,aL,ev];exact o6 ss k (hu e) h
   split at h
   ·rename_i b hb;have u:ρ s=.v (.bool b):=jg (x:=.t s) e.env hb;have r:TS G F L ρ M (bA (some s) (.bool b) τ):=by
     have:=e.put (gq (b:=b)) (some s)
     rwa [Fr.kR u] at this
    simp only[u];cases b<;>simp only[zP] at h ⊢<;>cases aa<;>simp only[reduceCtorEq,↓reduceIte,xo,exists_eq_left'] at h ⊢
    ·exact q r h
    ·exact skip r h
    ·exact skip r h
    ·exact q r h
   ·rename_i hb;have hr:=e.env s;rw[hb] at hr;simp only[aN,Rel] at hr;obtain⟨v,u,rfl⟩:=hr;simp only[u,undef,xo,exists_eq_left'];exact skip e h
   ·exact h.elim
theorem DX:∀(d:List Nat) (b:List C) (τ:aM) (j:Nat),qp d b τ j=τ j\/∃(i:Nat) (c:C),d[i]?=some j/\b[i]?=some c/\qp d b τ j=c
 | [],b,τ,j=>.inl rfl
 | k::d,[],τ,j=>.inl rfl
 | k::d,v::b,τ,j=>by
  simp only[qp,Ck];split
  ·rename_i h;subst h;exact .inr ⟨0,v,by simp,by simp,rfl⟩
  ·rcases DX d b τ j with h | ⟨i,c,h1,f,e⟩
   ·exact .inl h
   ·exact .inr ⟨i+1,c,by simpa using h1,by simpa using f,e⟩
theorem Ba {M1:TL}:∀{d:List Nat}{b:List C}{τ:aM},nA M M1 d b τ->∀{i j:Nat}{c:C},d[i]?=some j->b[i]?=some c->NA M M1 (τ j) c
 | [],b,τ,h,i,j,c,e,_=>by simp at e
 | k::d,[],τ,h,i,j,c,_,e=>by simp at e
 | k::d,v::b,τ,h,i,j,c,l,f=>by
  simp only[nA] at h;cases i with
  | zero=>simp at l f;subst l f;exact h.1
  | succ i=>exact Ba h.2 (by simpa using l) (by simpa using f)
theorem Bb {M1:TL}(m:TS G F L ρ M τ):∀{j:List Nat}{c:List C},c.length=j.length->nA M M1 j c τ->gives M M1 M1->uO c
 | [],[],_,_,_=>by simp only[uO]
 | [],v::c,d,_,_=>by simp at d
 | k::j,[],d,_,_=>by simp at d
 | k::j,v::c,d,h,n=>by
  simp only[nA] at h;simp only[uO];refine⟨?_,Bb m (by simpa using d) h.2 n⟩;have f:=mF (m.env k);rcases h.1 with e | ⟨e,_⟩ | ⟨l,b⟩ | ⟨l,p,t,sz,b,_⟩ | ⟨els,l,b⟩
  ·rw[e];simp only[Wf]
  ·rw[e] at f;have:=f.wf
   revert this
   cases v<;>simp[C.cel,Wf]
  ·rw[b];simp[Wf,xY]
  ·rw[b];simp only[Wf]
  ·rw[l] at f;have:=(u9 f).wf;rw[b];exact this
theorem R4 {M:TL}(c:bS F L M):∀{l:TL},(∀k o,l.get k=some o->M.get k=some o)->∀k o,l.get k=some o->o.Wf:=by
 intro l h k o e;rcases d9 (c k) with⟨b,_⟩ | ⟨q,p,b,f,d⟩
 ·rw[h k o e] at b;cases b
 ·rw[h k o e] at b;injection b with b
  subst b;exact d.wf
theorem IA {L':Loc}{F':aA}(hF:F.le F') (n:∀k g t cs,L.get k=some (.box g t cs)->∃cs',L'.get k=some (.box g t cs')) :
  (∀c v,C.leaf c=true->Rel F L c v->Rel F' L' (qm c) v)/\(∀c sv,C.leaf c=true->aN F L c sv->aN F' L' (qm c) sv):=by
 have hb:∀{k:Nat},(∃g t cs,L.get k=some (.box g t cs))->∀o,L.get k=some o->∃o',L'.get k=some o'/\Own.like o o':=by
  intro k l o f;obtain⟨g,t,cs,l⟩:=l;rw[l] at f;injection f with f
  subst f;obtain⟨cs',h⟩:=n k g t cs l;exact⟨_,h,rfl,rfl⟩
 constructor
 ·intro c v m h;cases c<;>simp only[C.leaf,aa2] at m<;>simp only[qm]
  case rw=>simp only[Rel]
  case elr=>simp only[Rel]
  case own k off =>
   have d:=h;simp only[Rel] at d;obtain⟨g,t,cs,h1,_⟩:=d;refine bL hF (fun j e=>?_) rfl h;rcases e with⟨off,e⟩ | e | e
   ·injection e with e e2;subst e;exact hb ⟨g,t,cs,h1⟩
   ·cases e
   ·cases e
  case mpr k =>
   have d:=h;simp only[Rel] at d;obtain⟨g,cs,h1,_⟩:=d;refine bL hF (fun j e=>?_) rfl h;rcases e with⟨off,e⟩ | e | e
   ·cases e
   ·cases e
   ·injection e with e;subst e;exact hb ⟨g,0,cs,h1⟩
  all_goals
   exact bL hF (fun p e=>by rcases e with⟨off,e⟩ | e | e<;>cases e) rfl h
 ·intro c sv m h;cases c<;>simp only[C.leaf,aa2] at m<;>simp only[qm]
  case rw=>trivial
  case elr=>trivial
  case own k off =>
   have d:=h;simp only[aN] at d;refine dK hF (fun j e=>?_) rfl h;rcases e with⟨off,e⟩ | ⟨off,e⟩ | e | ⟨a,b,e⟩ | e<;>first | cases e;done | skip
   injection e with e e2
   subst e;exact hb d.2
  case ownv k off =>
   have d:=h;simp only[aN,Rel] at d;obtain⟨v,_,g,t,cs,h1,_⟩:=d;refine dK hF (fun j e=>?_) rfl h;rcases e with⟨off,e⟩ | ⟨off,e⟩ | e | ⟨a,b,e⟩ | e<;>first | cases e;done | skip
   injection e with e e2
   subst e;exact hb ⟨g,t,cs,h1⟩
  case mpr k =>
   have d:=h;simp only[aN,Rel] at d;obtain⟨v,_,g,cs,h1,_⟩:=d;refine dK hF (fun j e=>?_) rfl h;rcases e with⟨off,e⟩ | ⟨off,e⟩ | e | ⟨a,b,e⟩ | e<;>first | cases e;done | skip
   injection e with e
   subst e;exact hb ⟨g,0,cs,h1⟩
  all_goals
   exact dK hF (fun p e=>by rcases e with⟨off,e⟩ | ⟨off,e⟩ | e | ⟨a,b,e⟩ | e<;>cases e) rfl h
def KE (L:Loc) (c:C) (v:Value):SV:=match c with | .own k off=>.own k off | .ownv _ _=>.v v | _=>.v v
theorem rB {c:C}{v:Value}(h:Rel F L c v):aN F L c (KE L c v)/\conc L (KE L c v)=v/\(∀k off,KE L c v=.own k off->∃g t cs,L.get k=some (.box g t cs))/\(∀f j,KE L c v≠.el f j):=by
 cases c
 case own k off =>
  simp only[Rel] at h;obtain⟨g,t,cs,h,rfl⟩:=h;refine⟨⟨rfl,g,t,cs,h⟩,by simp only[KE,conc,h],fun l d e=>?_,fun f j e=>(by cases e)⟩;injection e with e1 e2
  subst e1;exact⟨g,t,cs,h⟩
 case pt es off =>
  simp only[Rel] at h;obtain⟨b,o,n,rfl,p,m⟩:=h;exact⟨⟨b,o,0,n,.inl ⟨rfl,rfl⟩,p,m⟩,rfl,fun l d e=>(by cases e),fun f j e=>(by cases e)⟩
 case ownv=>exact h.elim
 case elr=>exact h.elim
 case any=>exact⟨trivial,rfl,fun l d e=>(by cases e),fun f j e=>(by cases e)⟩
 all_goals
  exact⟨⟨v,rfl,h⟩,rfl,fun l d e=>(by cases e),fun f j e=>(by cases e)⟩
theorem KF {F0:aA}{L0:Loc}{f:Env}{d:aM}{a0 a1:Act}{asg:List Nat}{q:List Nat}{p:List C}{L1:Loc}{F1:aA}(b:aD L0 f a0) (s:∀j,aN F0 L0 (d j) (f j)) (hF:F0.le F1)
  (hb:∀k g t cs,L0.get k=some (.box g t cs)->∃cs',L1.get k=some (.box g t cs')) (u:∀j,j∉asg->a1.tmps.getD j undef=a0.tmps.getD j undef)
  (hv:∀(i j:Nat) c,q[i]?=some j->p[i]?=some c->Rel F1 L1 c (a1.tmps.getD j undef)) :
  ∃n,aD L1 n a1/\∀j,aN F1 L1 (qp q p (tM asg d) j) (n j):=by
 have key:∀j,∃sv,aN F1 L1 (qp q p (tM asg d) j) sv/\conc L1 sv=a1.tmps.getD j undef/\(∀k off,sv=.own k off->∃g t cs,L1.get k=some (.box g t cs))/\(∀m i,sv=.el m i->m≠none):=by
  intro j;rcases DX q p (tM asg d) j with h | ⟨i,c,h1,h2,h3⟩
  ·rw[h];simp only[tM];split
   ·exact⟨.v (a1.tmps.getD j undef),trivial,rfl,fun _ _ e=>(by cases e),fun _ _ e=>(by cases e)⟩
   ·rename_i y;have hj:j∉asg:=fun h=>by rw[cQ.2 h] at y;cases y
    obtain⟨u1,u2⟩:=IA hF hb;refine⟨f j,aN.mp u1 u2 3 (s j),?_,?_,b.el j⟩
    ·rw[u j hj,b.eq j];cases e:f j with
     | v x=>rfl
     | el x i=>rfl
     | own k off =>
      obtain⟨g,t,cs,r⟩:=b.own j k off e;obtain⟨cs',l⟩:=hb _ _ _ _ r;simp only[conc,r,l]
    ·intro k off e;obtain⟨g,t,cs,r⟩:=b.own j k off e;obtain⟨cs',l⟩:=hb _ _ _ _ r;exact⟨g,t,cs',l⟩
  ·rw[h3];obtain⟨s1,s2,s3,z⟩:=rB (hv i j c h1 h2);exact⟨_,s1,s2,s3,fun m i e=>fL e (z m i)⟩
 refine⟨fun j=>(key j).choose,⟨fun t=>?_,fun t k off e=>?_,fun t m j e=>?_⟩,fun j=>(key j).choose_spec.1⟩
 ·exact(key t).choose_spec.2.1.symm
 ·exact(key t).choose_spec.2.2.1 k off e
 ·exact(key t).choose_spec.2.2.2 m j e
theorem Bc {n:Nat}{F:aA}{L:Loc}{w:World}{a:Act}{asg:List Nat}{K K':dG}{a':Act}{w':World}(h:eJ n F L w a asg K a' w') (e:∀{F' L' ρ'},K F' L' ρ'->K' F' L' ρ'):eJ n F L w a asg K' a' w':=by
 obtain⟨F',L',ρ',h1,j,d,b,k,f,c⟩:=h;exact⟨F',L',ρ',h1,j,d,b,k,f,e c⟩
theorem zY {P:Program}{PS:nU}{G:Nat->Option (Nat×TypeId)}{a:Act}{w:World}{b:List ak}{K:TK}:∀(ks:List Nat) {F:aA}{L:Loc}{ρ:Env}{M:TL}{τ:aM},tX G PS ks->St F L w->aD L ρ a->TS G F L ρ M τ->dB P PS false (ks.map ak.frz++b) M τ K ->
  ∃F' L' ρ' M' c,St F' L' w/\aD L' ρ' a/\Step F L w F' L' w/\TS G F' L' ρ' M' c/\dB P PS false b M' c K:=by
 intro ks
 induction ks with
 | nil=>intro F L ρ M τ _ d he e h;exact⟨F,L,ρ,M,τ,d,he,Step.refl _ _ _,e,h⟩
 | cons k ks f =>
  intro F L ρ M τ n d he e h;simp only[aaX,aa1,eU] at h;obtain⟨F1,L1,q,M1,x,v,g2,r,s,h⟩:=DS d he e (n k (by simp)) h;obtain⟨F2,L2,l,M2,m,k1,u,t,y,z⟩:=f (fun j p=>n j (by simp[p])) v g2 s h;exact⟨F2,L2,l,M2,m,k1,u,r.trans t,y,z⟩
theorem IB:∀{ks:List Nat}{ss:List ak},∀k∈ks,k∈fZ (Fh ks (.regD ss))
 | [],_,k,h=>by cases h
 | j::l,ss,k,h=>by
  have:∀(l:List Nat),∀k∈l,k∈dD (l.map ak.frz):=by
   intro l
   induction l with
   | nil=>intro k h;cases h
   | cons j l b =>
    intro k h;simp only[aaX,dD,aaT] at h ⊢;exact h.imp id (b k)
  exact aaU.2 (.inl (this (j::l) k h))
theorem DY {P:Program}{PS:nU}{G:Nat->Option (Nat×TypeId)}{ρ:Env}{a:Act}{w:World}{ss:List ak}{E:Nat->TK}{R N:TK}{F:aA}{L:Loc}{M:TL}{τ:aM}:∀(ks:List Nat),tX G PS (fZ (Fh ks (.regD ss)))->St F L w->aD L ρ a->TS G F L ρ M τ->evalTC P PS (Fh ks (.regD ss)) E R N M τ ->
  ∃F' L' ρ' M' b,St F' L' w/\aD L' ρ' a/\Step F L w F' L' w/\TS G F' L' ρ' M' b/\dB P PS true ss M' b N
 | [],_,d,he,e,h=>⟨F,L,ρ,M,τ,d,he,Step.refl _ _ _,e,h⟩
 | k::l,r,d,he,e,h=>by
  have q:dB P PS false ((k::l).map ak.frz++[]) M τ (fun M τ=>dB P PS true ss M τ N):=by rw[abm];exact h
  obtain⟨F1,L1,c,M1,f,h1,s,p,n,t⟩:=zY (k::l) (fun j m=>r j (IB j m)) d he e q;exact⟨F1,L1,c,M1,f,h1,s,p,n,t⟩
theorem vo {M:TL}:∀{ks:List Nat},sF M ks=true->∀k∈ks,∀o,M.get k=some o->Cm o=true
 | [],_,k,h,_,_=>by cases h
 | j::ks,c,k,h,o,e=>by
  simp only[sF] at c;split at c
  ·cases c
  ·cases c
  ·rename_i d b;rcases aaT.1 h with rfl | h
   ·cases o with
    | box t cs=>exact fL e (d _ _)
    | map es=>exact fL e (b _)
    | row=>rfl
   ·exact vo c k h o e
theorem IE {M:TL}{ks:List Nat}(b:sF M ks=true) (k:Nat) (h:k∈ks) (t:TypeId) (cs:List C):M.get k≠some (.box t cs):=fun e=>by cases vo b k h _ e
theorem FB {M:TL}{ks:List Nat}(b:sF M ks=true) (k:Nat) (h:k∈ks) (es:List (C×C)):M.get k≠some (.map es):=fun e=>by cases vo b k h _ e
theorem fH {A:cW}:∀(c:Code) {sc:au},low P A c=some sc->∀{G:Nat->Option (Nat×TypeId)}{E:Nat->TK}{R N:TK}{F:aA}{L:Loc}{ρ:Env}{M:TL}{τ:aM}{a:Act}{w:World},tX G PS (fZ sc)->St F L w->aD L ρ a->TS G F L ρ M τ->a.tmps.size=A.n ->
  evalTC P PS sc E R N M τ->c.wp P (QQ A.n F L w a (dQ c) (zQ G PS) (fun j=>Both G (E j)) (Both G R) (Both G N)) a w:=by
 intro c
 induction c with
 | skip =>
  intro sc b G E R N F L ρ M τ a w m hs he z hn d;simp only[low,xo] at b;subst b;exact wp_skip ⟨F,L,ρ,hs,he,hn,rfl,Step.refl _ _ _,fun _ _=>rfl,M,τ,z,d⟩
 | label l =>
  intro sc b G E R N F L ρ M τ a w m hs he z hn d;simp only[low,xo] at b;subst b;exact wp_label ⟨F,L,ρ,hs,he,hn,rfl,Step.refl _ _ _,fun _ _=>rfl,M,τ,z,d⟩
 | exit id =>
  intro sc b G E R N F L ρ M τ a w m hs he z hn d;simp only[low,xo] at b;subst b;exact wp_exit ⟨F,L,ρ,hs,he,hn,rfl,Step.refl _ _ _,fun _ _=>rfl,M,τ,z,d⟩
 | ret =>
  intro sc b G E R N F L ρ M τ a w m hs he z hn d;simp only[low,xo] at b;subst b;exact wp_ret ⟨F,L,ρ,hs,he,hn,rfl,Step.refl _ _ _,fun _ _=>rfl,M,τ,z,d⟩
 | region r ej cy =>
  intro sc b G E R N F L ρ M τ a w m hs he z hn d;cases cy with
  | false =>
   simp only[low] at b;split at b
   case h_2=>cases b
   rename_i ss dv;injection b with b;subst b
   simp only[kT,mB,kU,mC,kV,jU,kW,kX,mD] at d;exact wp_region (yF _ dv m hs he z hn d (fun a' w' h=>h) fun v ch a' w' hc h=>⟨v,hc,h⟩)
  | true =>
   simp only[low] at b;split at b
   case h_2=>cases b
   rename_i is cl ss h1 h2;have h4:Dt A.ord r=is:=by simp only[Dt,h1]
   rw[h4] at h2;split at b
   case h_2 =>
    split at b
    case h_2=>cases b
    rename_i h3;injection b with b;subst b
    rw[DI] at d;split at d
    case h_2=>exact d.elim
    rename_i cz;exact DF h2 h3 hs he hn (fun s hs k e=>cj z.tl (vn cz s hs k e)) (o6 ss (vW h2) z d) (fun a' w' h=>h) fun v ch a' w' F' L' gc g1 g2 g3 g4 g5 g6=>⟨v,gc,F',L',g1,g2,g3,g4,g5,g6⟩
   rename_i h0;split at b
   case h_2=>cases b
   rename_i h3;injection b with b;subst b
   obtain⟨F1,L1,ab,M1,am,av,ax,ae,ac,d⟩:=DY _ m hs he z d;exact xP h2 h3 av ax hn (yH ss (Iz h2 h0) ac d) fun a' w' h=>eJ.after (asg1:=[]) ae rfl (fun _ _=>rfl) h (fun _ h=>fL h List.not_mem_nil) (fun _ h=>h)
 | seq x y az aE =>
  intro sc b G E R N F L ρ M τ a w m hs he z hn d;simp only[low] at b;split at b
  case h_2=>cases b
  rename_i h1 h2;injection b with b;subst b
  simp only[kT,mB,kU,mC,kV,jU,kW,kX,mD] at d;refine wp_seq (wp_mono (az h1 m.left hs he z hn d) ?_);intro e a1 w1 u;cases e with
  | normal =>
   obtain⟨F1,L1,ab,g1,g2,g3,g4,g5,g6,M1,am,g7,g8⟩:=u;refine wp_mono (aE h2 m.right g1 g2 g7 g3 g8) ?_;intro e2 a2 w2 bp;cases e2<;>first
    | exact eJ.after g5 g4 g6 bp (fun j h=>aaU.2 (.inl h)) (fun j h=>aaU.2 (.inr h))
    | exact(let⟨v,e,h⟩:=bp;⟨v,e,rS.after g5 g4 g6 h (fun j h=>aaU.2 (.inl h)) (fun j h=>aaU.2 (.inr h)) fun _ _ h=>h⟩)
    | exact bp
  | exit id=>exact u.mono fun j h=>aaU.2 (.inl h)
  | ret=>exact u.mono fun j h=>aaU.2 (.inl h)
  | goto l=>exact u
  | panic c=>exact(let⟨v,e,h⟩:=u;⟨v,e,h.mono fun j h=>aaU.2 (.inl h)⟩)
  | outgrown=>exact u
 | cond c x y az aE =>
  intro sc b G E R N F L ρ M τ a w m hs he z hn d;simp only[low] at b;split at b
  case h_2=>cases b
  rename_i h0 h1 h2;injection b with b;subst b
  simp only[kT,mB,kU,mC,kV,jU,kW,kX,mD] at d;split at d
  case h_2=>exact d.elim
  rename_i t dx;have hc:a.eval c=.bool t:=by rw[aG h0 he,cP (jg z.env dx)]
  refine wp_cond hc ?_;cases t
  ·simp only[zP] at d;refine wp_mono (aE h2 m.right hs he z hn d) ?_;intro e a1 w1 u;cases e<;>first
    | exact u.mono fun j h=>aaU.2 (.inr h)
    | exact(let⟨v,e,h⟩:=u;⟨v,e,h.mono fun j h=>aaU.2 (.inr h)⟩)
    | exact u
  ·simp only[zP] at d;refine wp_mono (az h1 m.left hs he z hn d) ?_;intro e a1 w1 u;cases e<;>first
    | exact u.mono fun j h=>aaU.2 (.inl h)
    | exact(let⟨v,e,h⟩:=u;⟨v,e,h.mono fun j h=>aaU.2 (.inl h)⟩)
    | exact u
 | block id x ih =>
  intro sc b G E R N F L ρ M τ a w m hs he z hn d;simp only[low] at b;split at b
  case h_2=>cases b
  rename_i h1;injection b with b;subst b
  simp only[kT,mB,kU,mC,kV,jU,kW,kX,mD] at d;refine wp_block (wp_mono (ih h1 m hs he z hn d) ?_);intro e a1 w1 u;cases e with
  | exit j =>
   simp only[Exit.inBlock];simp only[QQ] at u
   by_cases hj:j=id
   ·subst hj;have hb:Nat.beq j j=true:=by simp
    rw[hb] at u;rw[eu rfl];exact u
   ·have hb:Nat.beq j id=false:=by
     cases h:Nat.beq j id with
     | true=>exact fL (aaQ h) hj
     | false=>rfl
    rw[hb] at u;rw[fo hj];exact u
  | normal=>exact u
  | ret=>exact u
  | goto l=>exact u
  | panic c=>exact u
  | outgrown=>exact u
 | loop x ih =>
  intro sc b G E R N F L ρ M τ a w m hs he z hn d;simp only[low] at b;split at b
  case h_2=>cases b
  rename_i sx h1;injection b with b;subst b
  simp only[kT,mB,kU,mC,kV,jU,kW,kX,mD] at d;split at d
  case h_2=>exact d.elim
  rename_i cf;obtain⟨σ,x0,Inv,ls,lv,Lf,μ,i0,i1,i2,i3,i4,i5⟩:=d
  -- the boxes that there are,with their addresses
  let G1:Nat->Option (Nat×TypeId):=fun k=>match L.get k with | some (.box g t _)=>some (g,t) | _=>none
  have cM:∀k g t cs,L.get k=some (.box g t cs)->G1 k=some (g,t):=fun k g t cs e=>by simp only[G1,e]
  have bi:Kp G1 L:=by
   intro k g t e;simp only[G1] at e;split at e
   ·rename_i g' t' cs h;injection e with e
    injection e with e1 e2
    subst e1 e2;exact⟨cs,h⟩
   ·cases e
  have cm:tX G1 PS (fZ sx):=by
   intro k hk bt;exfalso;simp only[G1] at bt;split at bt
   ·rename_i g t cs e;have hr:=z.tl k;rw[e] at hr;cases e2:M.get k with
    | none=>rw[e2] at hr;exact hr
    | some o =>
     rw[e2] at hr;cases o with
     | row=>exact hr
     | box t' cs'=>exact IE cf k hk t' cs' e2
     | map es=>exact FB cf k hk es e2
   ·exact bt rfl
  have hG:∀{L':Loc},Kp G1 L'->Kp G L':=fun hk k g t e=>let⟨cs,h⟩:=z.kp k g t e;hk k g t (cM k g t cs h);have cX:∀{L':Loc},Kp G1 L'->∀k g t cs,L.get k=some (.box g t cs)->∃cs',L'.get k=some (.box g t cs'):=fun hk k g t cs h=>hk k g t (cM k g t cs h);have bj:∀{K:TK}{F' L' ρ'},Both G1 K F' L' ρ'->Both G K F' L' ρ':=fun⟨M',dr,h1,h2⟩=>⟨M',dr,⟨h1.tl,h1.env,hG h1.kp,h1.glob⟩,h2⟩;have db:∀{F':aA}{L':Loc}{M':TL},bS F' L' M'->(∀k o,M'.get k=some o->o.Wf):=fun h k o e=>R4 h (fun _ _ e=>e) k o e
  -- a round's end,or what is ahead of the first round,is a head
  have aw:∀(y:σ) (F1:aA) (L1:Loc) (ab:Env) (M1:TL) (am:aM) (a1:Act) (w1:World),F.le F1->St F1 L1 w1->aD L1 ab a1->TS G1 F1 L1 ab M1 am->(∀j,j∉dQ x->a1.tmps.getD j undef=a.tmps.getD j undef) ->
    nA M1 (Lf y) ls (lv y) am->gives M1 (Lf y) (Lf y)->∃L2,St F1 L2 w1/\Step F1 L1 w1 F1 L2 w1/\bS F1 L2 (Lf y)/\Kp G1 L2/\uO (lv y) /\
     ∃bd,aD L2 bd a1/\∀j,aN F1 L2 (qp ls (lv y) (tM (dQ x) τ) j) (bd j):=by
   intro y F1 L1 ab M1 am a1 w1 bb av ax ac dl hh hg;obtain⟨g1,g2⟩:=yD av ac.tl hg;have ba:Kp G1 (tU L1 (Lf y)):=by
    intro k g t e;obtain⟨cs,cx⟩:=ac.kp k g t e;obtain⟨ek,cn⟩:=bi k g t e;refine⟨cs,?_⟩;rcases d9 (z.tl k) with⟨c1,c2⟩ | ⟨q,p,c1,c2,hr⟩
    ·rw[cn] at c2;cases c2
    ·rw[cn] at c2;injection c2 with c2
     subst c2;cases q with
     | row=>exact hr.elim
     | box t' cs' =>
      obtain⟨o2,e2⟩:=mJ (i3 y) c1 rfl;rw[lK,e2];simp only[cx]
     | map es =>
      obtain⟨o2,e2⟩:=mJ (i3 y) c1 rfl;rw[lK,e2];simp only[cx]
   refine⟨tU L1 (Lf y),g1,g2,yC ac.tl hg,ba,Bb ac (i4 y) hh hg,KF he z.env bb (cX ba) dl ?_⟩;intro i j c e1 e2;have hr:=mF (ac.env j);have hv:a1.tmps.getD j undef=conc L1 (ab j):=ax.eq j;rw[hv];have cd:=Ba hh e1 e2;rcases cd with e | ⟨e,hk⟩ | ⟨e,e'⟩ | ⟨e,k',t',dE,e',q1,q2⟩ | ⟨els,e,e'⟩
   ·rw[e];simp only[Rel]
   ·have hc:(am j).cel=am j:=by
     rw[e];rw[e] at hr;cases c<;>first | rfl | (simp only[fF,rj,aa2] at hk;done)
    rw[hc] at hr;exact rA ac.tl (.inr (.inl ⟨e,hk⟩)) hr
   ·rw[e] at hr;exact rA ac.tl (.inr (.inr (.inl ⟨rfl,e'⟩))) hr
   ·rw[e] at hr;exact rA ac.tl (.inr (.inr (.inr (.inl ⟨rfl,k',t',dE,e',q1,q2⟩)))) hr
   ·rw[e] at hr;exact rA ac.tl (.inr (.inr (.inr (.inr ⟨els,rfl,e'⟩)))) hr
  refine uR (fun n a1 w1=>∃(y:σ) (F1:aA) (L1:Loc),n=μ y/\F.le F1/\Inv y/\St F1 L1 w1/\a1.tmps.size=A.n/\a1.defers=a.defers/\Step F L w F1 L1 w1/\(∀j,j∉dQ x->a1.tmps.getD j undef=a.tmps.getD j undef) /\
   bS F1 L1 (Lf y)/\Kp G1 L1/\uO (lv y)/\∃ab,aD L1 ab a1/\∀j,aN F1 L1 (qp ls (lv y) (tM (dQ x) τ) j) (ab j)) ?_ ?_
  ·obtain⟨L2,k1,k2,k3,k4,k5,k6⟩:=aw x0 F L ρ M τ a w (aA.le_refl F) hs he ⟨z.tl,z.env,bi,z.glob⟩ (fun _ _=>rfl) i1 i2;exact⟨_,x0,F,L2,rfl,aA.le_refl F,i0,k1,hn,rfl,k2,fun _ _=>rfl,k3,k4,k5,k6⟩
  ·rintro n a1 w1 ⟨y,F1,L1,rfl,bb,ce,av,dk,bc,ae,an,bk,ba,dy,ab,ax,bo⟩;refine wp_mono (ih h1 cm av ax (⟨bk,bo,ba,av.glob⟩:TS G1 F1 L1 ab (Lf y) (qp ls (lv y) (tM (dQ x) τ))) dk (i5 y ce dy (db bk))) ?_;intro e a2 w2 u;cases e with
   | normal =>
    obtain⟨F2,L2,bd,g1,g2,g3,g4,g5,g6,M2,ds,g7,y',k1,k2,k3,k4⟩:=u;have bm:∀j,j∉dQ x->a2.tmps.getD j undef=a.tmps.getD j undef:=fun j hj=>by rw[g6 j hj,an j hj]
    obtain⟨L3,q1,q2,q3,q4,q5,q6⟩:=aw y' F2 L2 bd M2 ds a2 w2 (aA.le_trans bb g5.le) g1 g2 g7 bm k2 k3;exact⟨μ y',k4,y',F2,L3,rfl,aA.le_trans bb g5.le,k1,q1,g3,g4.trans bc,(ae.trans g5).trans q2,bm,q3,q4,q5,q6⟩
   | exit j=>exact eJ.after ae bc an (Bc u bj) (fun j h=>h) (fun j h=>h)
   | ret=>exact eJ.after ae bc an (Bc u bj) (fun j h=>h) (fun j h=>h)
   | goto l=>exact u
   | panic c=>exact(let⟨v,e,h⟩:=u;⟨v,e,rS.after ae bc an h (fun j h=>h) (fun j h=>h) fun F' L' h=>⟨hG h.1,h.2⟩⟩)
   | outgrown=>exact u
 | rangeFunc f ps x y az aE=>intro sc b;simp only[low] at b;cases b
 | scope x ih =>
  intro sc b G E R N F L ρ M τ a w m hs he z hn d;simp only[low] at b;refine wp_scope_straight (wp_mono (ih b m hs he z hn d) ?_);intro e a1 w1 u;cases e<;>exact u
 | goto l=>intro sc b;simp only[low] at b;cases b
 | refuse ei=>intro sc b;simp only[low] at b;cases b
end
section
variable {P:Program}{G:Nat->Option (Nat×TypeId)}{F:aA}{L:Loc}{ρ:Env}{M:TL}{τ:aM}{a:Act}{w:World}
theorem rC (f:TS G F L ρ M τ):∀{rs:List RV}{K:List C->Prop},gR M τ rs K->nH L ρ rs (fun c=>∃cs,aB F L cs c/\K cs)
 | [],K,h=>⟨[],by simp only[aB],h⟩
 | (t,none)::l,K,h=>by
  simp only[gR] at h;simp only[nH];refine retV_imp (rC f h) ?_;rintro c ⟨cs,h1,m⟩;exact⟨_,by simp only[aB];exact⟨_,_,rfl,mF (f.env t),h1⟩,m⟩
 | (t,some (agg,n))::l,K,h=>by
  simp only[gR] at h;simp only[nH];split at h
  case h_2=>exact h.elim
  rename_i k off d;split at h
  case h_2=>exact h.elim
  rename_i ty cs s;split at h
  case h_2=>exact h.elim
  rename_i p;obtain⟨j,_⟩:=jq (x:=.t t) f.env d;have j:ρ t=.own k off:=j;obtain⟨g,ty,c,q,r,o⟩:=lu f.tl s;have e:=(r.drop off).take n;simp only[j,q,oJ o.2.2 (jv (show((c.drop off).take n).length=n by rw[e.len];exact cg p))];refine retV_imp (rC f h) ?_;rintro us ⟨ds,h1,m⟩;refine⟨_,?_,m⟩;simp only[aB];have:=mF (eP (agg:=agg) e);exact⟨_,_,rfl,this,h1⟩
where
 retV_imp {L:Loc}{ρ:Env}:∀{rs:List RV}{K K':List Value->Prop},nH L ρ rs K->(∀c,K c->K' c)->nH L ρ rs K'
 | [],K,K',h,d=>d _ h
 | (t,none)::l,K,K',h,d=>by
  simp only[nH] at h ⊢;exact retV_imp h fun c=>d _
 | (t,some (agg,n))::l,K,K',h,d=>by
  simp only[nH] at h ⊢;generalize ρ t=z at h ⊢;split at h
  case h_2=>exact h.elim
  rename_i k off;generalize L.get k=y at h ⊢;split at h
  case h_2=>exact h.elim
  rename_i ty cs;generalize jt ty ((cs.drop off).take n) n=b at h ⊢;cases b
  ·exact h.elim
  ·exact retV_imp h fun c=>d _
theorem GH {cs:List C}{b:List Value}(h:aB F L cs b):Rel F L (gQ cs) (gb b):=by
 match cs,b,h with
 | [],b,h =>
  simp only[aB] at h;subst h;simp only[gQ,gb,Rel];exact⟨[],rfl,by simp only[aB]⟩
 | [c],b,h =>
  simp only[aB] at h;obtain⟨v,d,rfl,h1,rfl⟩:=h;exact h1
 | c1::k::cs,b,h =>
  have e:=h;simp only[aB] at e;obtain⟨v,d,rfl,h1,v2,f,rfl,j⟩:=e;simp only[gQ,gb,Rel];exact⟨_,rfl,h⟩
theorem n8:∀(l:List C) (k j:Nat),j5 k l j=if k<=j then(l[j-k]?).getD .und else .und
 | [],k,j=>by simp[j5]
 | v::l,k,j=>by
  simp only[j5,Ck]
  by_cases h:j=k
  ·subst h;simp
  ·rw[fo h,n8 l (k+1) j]
   by_cases h1:k<=j
   ·rw[eu (by omega),eu h1,show j-k=(j-(k+1))+1 by omega,abe]
   ·rw[fo (by omega),fo h1]
theorem DZ {c:C}{v:Value}(h:Rel F L c v):Rel F L c.aat v:=by
 cases c<;>first
  | exact h
  | exact tP (c:=.nils) h
  | exact u9 h
  | (simp only[Rel] at h
     obtain⟨b,h1,d⟩:=h;simp only[C.aat,Rel]
     first
      | exact⟨b,h1,ld d⟩
      | exact⟨b,h1,d.map fun c _ v=>jh⟩)
theorem sK {F':aA}{L':Loc}{w':World}{Li:List Own}(j:St F' L' w') (c:Step F (inp Li) w F' L' w') (hb:∀(i:Nat) g t cs,Li[i]?=some (.box g t cs)->∃cs',L'.get (1000+i)=some (.box g t cs')) :
  ∃Lo,St F' (inp Lo) w'/\Step F (inp Li) w F' (inp Lo) w'/\Lo.length=Li.length/\∀(i:Nat) g t cs,Li[i]?=some (.box g t cs)->∃cs',Lo[i]?=some (.box g t cs'):=by
 let Lo:List Own:=Li.mapIdx fun i o=>match o with
  | .box _ _ _=>match L'.get (1000+i) with | some p=>p | none=>.row (.slice none 0 0) 0 0 0 []
  | .row _ t sz _ _=>.row (.slice none 0 0) t sz 0 []
 have get:∀k p,(inp Lo).get k=some p->L'.get k=some p\/∃t sz,p=.row (.slice none 0 0) t sz 0 []:=by
  intro k p e;rw[aH] at e;split at e
  case isFalse=>cases e
  rename_i z;simp only[Lo,List.getElem?_mapIdx] at e;cases h:Li[k-1000]? with
  | none=>rw[h] at e;cases e
  | some o =>
   rw[h] at e;simp only[abo,xo] at e;cases o with
   | box g t cs =>
    simp only at e;rw[show 1000+(k-1000)=k by omega] at e;cases m:L'.get k with
    | none=>rw[m] at e;exact .inr ⟨0,0,e.symm⟩
    | some q=>rw[m] at e;exact .inl (by rw[<-e])
   | row v t sz n xs=>exact .inr ⟨t,sz,e.symm⟩
 refine⟨Lo,⟨j.frz,fun k o e=>?_,fun k o g e d=>?_,fun k l o o' g e u d f=>?_,j.glob⟩,⟨c.le,c.os,c.tape,c.output,c.size,c.same,c.frz,fun b r=>c.own b ?_⟩,by simp[Lo],fun i g t cs hi=>?_⟩
 ·rcases get k o e with h | ⟨t,sz,rfl⟩
  ·exact j.own k o h
  ·exact World.ownsRow_nil w' 0 t sz
 ·rcases get k o e with h | ⟨t,sz,rfl⟩
  ·exact j.off k o g h d
  ·cases d
 ·rcases get k o e with h | ⟨t,sz,rfl⟩<;>rcases get l o' u with s | ⟨y,x,rfl⟩
  ·exact j.sep k l o o' g h s d f
  ·cases f
  ·cases d
  ·cases d
 ·obtain⟨k,o,e,d⟩:=r;rcases get k o e with h | ⟨t,sz,rfl⟩
  ·exact⟨k,o,h,d⟩
  ·cases d
 ·obtain⟨cs',h⟩:=hb i g t cs hi;exact⟨cs',by simp only[Lo,List.getElem?_mapIdx,hi,abo,h]⟩
theorem Bd {n:Nat}{asg:List Nat}{fn:Func}{rs:List RV}{Lin:List TO}{Li:List Own}{R:List TO->C->Prop}{a0 a':Act}{w':World}(x:mV P fn.results.toList=some rs) (hl:Li.length=Lin.length) (ar:bS F (inp Li) (cJ Lin))
  (bb:∀k g t cs,(inp Li).get k=some (.box g t cs)->G k=some (g,t)) (hq:eJ n F (inp Li) w a0 asg (Both G (fun L ρ=>gR L ρ rs fun vs=>gD Lin L (gQ vs) R)) a' w') :
  a'.defers=a0.defers/\∃v,(results fn a'.tmps).run P w'=.ok v w'/\∃F' Lo,St F' (inp Lo) w'/\Step F (inp Li) w F' (inp Lo) w'/\gP Li R F' Lo v:=by
 obtain⟨F',L',ρ',g1,g2,g3,g4,g5,g6,M',ce,g7,z⟩:=hq;obtain⟨us,hm,cs,be,⟨fz,ko,hK⟩⟩:=nR g1 g2 x (rC g7 z);have ax:TS G F' L' ρ' M' (fun _=>.any):=⟨g7.tl,fun _=>trivial,g7.kp,g7.glob⟩;obtain⟨F2,L2,M2,cf,ae,k1,k2,k3,s,k5,M3,c2,c3,Mo,q1,aw,q4,q5,q6,q7⟩:=o4 g1 g2 ax (by simp only[aB];exact⟨_,[],rfl,GH be,rfl⟩) hK;subst q1;simp only[aB] at k5;obtain⟨v,co,ev,hv,rfl⟩:=k5;injection ev with ev _
 subst ev;have av:∃L3,St F2 L3 w'/\Step F2 L2 w' F2 L3 w'/\bS F2 L3 M3/\Rel F2 L3 c3 (gb us)/\∀k g t cs,L2.get k=some (.box g t cs)->M3.get k≠none->L3.get k=some (.box g t cs):=by
  rcases aw with⟨rfl,rfl⟩ | ⟨q2,q3⟩
  ·exact⟨L2,k1,Step.refl _ _ _,s.tl,hv,fun k g t cs h _=>h⟩
  ·obtain⟨b1,b2⟩:=yD k1 s.tl q2;refine⟨_,b1,b2,yC s.tl q2,rA s.tl q3 hv,fun k g t cs h l=>?_⟩;rw[lK];cases e:M3.get k with
   | none=>exact fL e l
   | some o=>simp only[h]
 obtain⟨L3,b1,b2,f,q,an⟩:=av;obtain⟨Lo,d1,d2,d3⟩:=kE f q4;have al:=cT q5;have am:∀k g t,G k=some (g,t)->∃cs,(M3.get k≠none->L3.get k=some (.box g t cs)):=by
  intro k g t e;obtain⟨cs,h⟩:=s.kp k g t e;exact⟨cs,fun l=>an _ _ _ _ h l⟩
 refine⟨g4,gb us,?_,F2,Lo,b1.handed d1 al,?_,Mo.map (TO.aad (C.ren (bB ko 1000))),c3.aat.ren (bB ko 1000),by simp[d2],lz f d2 d1 d3,(DZ q).ren (lI d1),?_,q7 (by simp only[uO];exact⟨q.wf,trivial⟩)⟩
 ·rw[oS];rw[Array.mapM_eq_mapM_toList];simp only[Sem.run_bind,Sem.run_map];rw[hm];simp only[Result.andThen_ok,Sem.run_pure];congr 1
  match us with
  | []=>rfl
  | [t]=>rfl
  | t::u::r =>
   simp only[gb];rw[dif_neg (by simp)]
 ·have c:=(g5.trans k3).trans b2;obtain⟨x1,x2⟩:=cE d1;refine⟨c.le,c.os,c.tape,c.output,c.size,c.same,c.frz,fun b hb=>c.own b ?_⟩;obtain⟨j,p,e,hb⟩:=hb;rw[aH] at e;split at e
  case isFalse=>cases e
  have d:j-1000<Lo.length:=(aaR.1 e).1;have hk:ko[j-1000]?=some (ko[j-1000]'(by omega)):=aaO (by omega);exact⟨_,p,by rw[x2 _ _ hk];exact e,hb⟩
 ·intro i g t cs hi;have d:i<Lin.length:=by rw[<-hl];exact(aaR.1 hi).1
  have m:(inp Li).get (1000+i)=some (.box g t cs):=by rw[aH,eu (by omega),show 1000+i-1000=i by omega];exact hi
  have hr:=ar (1000+i);rw[cA,eu (by omega),show 1000+i-1000=i by omega,m,aaO d] at hr;have aE:Cm Lin[i]=false:=by
   cases ba:Lin[i] with
   | row=>rw[ba] at hr;exact hr.elim
   | box t' cs'=>rfl
   | map es=>rfl
  ·obtain⟨k',y1,y2⟩:=gH q6 i _ (aaO d) aE;rw[List.getElem?_range' d] at y1;injection y1 with y1
   obtain⟨x1,x2⟩:=cE d1;obtain⟨z1,z2⟩:=yh q4;have y:i<Mo.length:=by rw[z1];exact(aaR.1 y2).1
   have az:M3.get k'≠none:=by rw[z2 i k' y2,aaO y];simp
   have ao:k'=1000+i:=by omega
   subst ao;obtain⟨ac,h2⟩:=am _ g t (bb _ _ _ _ m);exact⟨ac,by rw[<-x2 i _ y2];exact h2 az⟩
theorem bf {Pp:Value->Prop}{f:FuncId}{fn:Func}{sc:au}{A:cW}{rs:List RV}{args:List C}{Lin:List TO}{R:List TO->C->Prop}(hf:P.funcs[f]?=some fn) (b:aF P A fn=some (sc,A.n,rs,false)) (q:Nat.ble args.length A.n=true)
  (h:uO args->(∀o∈Lin,o.Wf)->evalTC P ⟨Pp,[],none⟩ sc (fun _ _ _=>False) (fun L ρ=>gR L ρ rs fun d=>gD Lin L (gQ d) R) (fun L ρ=>gR L ρ rs fun d=>gD Lin L (gQ d) R) (cJ Lin) (j5 0 args)):CallsTX P f args Lin R Pp:=by
 unfold aF at b;split at b
 case h_2=>cases b
 rename_i c hb;split at b
 case h_2=>cases b
 rename_i bc ag z y;injection b with b
 injection b with e1 e2
 injection e2 with e2 e3
 injection e3 with e3 hname
 subst e1 e3;refine⟨fun F Li d hl u ha=>⟨⟨fn,hf,by rw[hb];rfl,hname⟩,gP.aao,fun w hs=>?_⟩⟩;refine calls_of_wp hf hb ?_;have ao:∀o∈Lin,o.Wf:=by
  intro o ho;obtain⟨i,hi⟩:=abf.1 ho;have:=u (1000+i);rw[cA,aH,eu (by omega),eu (by omega),show 1000+i-1000=i by omega,hi] at this;cases e:Li[i]? with
  | none=>rw[e] at this;exact this.elim
  | some p=>rw[e] at this;exact cK.wf this
 have h:=h ha.wf ao;have ab:=ha.len;have q:=aa9 q
 -- the frame
 have key:∀j,∃sv,aN F (inp Li) (j5 0 args j) sv/\conc (inp Li) sv=(d.toArray++Array.replicate (fn.ntmps-d.toArray.size) undef).getD j undef/\(∀k off,sv=.own k off->∃g t cs,(inp Li).get k=some (.box g t cs))/\(∀x i,sv=.el x i->x≠none):=by
  intro j;rw[n8];simp only[aa8,abj,Nat.sub_zero,aa6];cases e:args[j]? with
  | some c =>
   have s:j<d.length:=by rw[ab];exact(aaR.1 e).1
   obtain⟨s1,s2,s3,s4⟩:=rB (ha.at e (aaO s));refine⟨_,s1,?_,s3,fun x i e=>fL e (s4 x i)⟩;rw[s2,Array.getElem?_append_left (by simpa using s)];simp[s]
  | none =>
   have ar:d.length<=j:=by rw[ab];exact aby.1 e
   refine⟨.v undef,lf,?_,fun _ _ e=>(by cases e),fun _ _ e=>(by cases e)⟩;rw[Array.getElem?_append_right (by simpa using ar)];simp only[Array.getElem?_replicate,conc];split<;>rfl
 let aa:Env:=fun j=>(key j).choose
 have he:aD (inp Li) aa {tmps:=d.toArray++Array.replicate (fn.ntmps-d.toArray.size) undef,defers:=[]} :=
  ⟨fun t=>(key t).choose_spec.2.1.symm,fun t k off e=>(key t).choose_spec.2.2.1 k off e,fun t x j e=>(key t).choose_spec.2.2.2 x j e⟩
 let G:Nat->Option (Nat×TypeId):=fun k=>match(inp Li).get k with | some (.box g t _)=>some (g,t) | _=>none
 have ac:∀k g t cs,(inp Li).get k=some (.box g t cs)->G k=some (g,t):=fun k g t cs e=>by simp only[G,e]
 have am:Kp G (inp Li):=by
  intro k g t e;simp only[G] at e;split at e
  ·rename_i g' t' cs h;injection e with e
   injection e with e1 e2
   subst e1 e2;exact⟨cs,h⟩
  ·cases e
 have ae:∀k,G k≠none->1000<=k:=by
  intro k m;simp only[G] at m;split at m
  ·rename_i g t cs h;rw[aH] at h;split at h
   ·assumption
   ·cases h
  ·exact fL rfl m
 have ht:TS G F (inp Li) aa (cJ Lin) (j5 0 args):=⟨u,fun j=>(key j).choose_spec.1,am,hs.glob⟩;refine wp_mono (fH c z (fun k _ m=>.inl (ae k m)) hs he ht (by simp[e2];omega) h) ?_;intro e a' w' r;have fin:∀{a0:Act},a0.defers=[]->eJ A.n F (inp Li) w a0 (dQ c) (Both G (fun L ρ=>gR L ρ ag fun d=>gD Lin L (gQ d) R)) a' w'->a'.defers=[]/\∃v,(results fn a'.tmps).run P w'=.ok v w' /\
   ∃v' F' Lo,Ending.returned v=.returned v'/\St F' (inp Lo) w'/\Step F (inp Li) w F' (inp Lo) w'/\gP Li R F' Lo v':=by
  intro a0 an r;obtain⟨k1,v,k2,F',Lo,k3,k4,k5⟩:=Bd y hl u ac r;exact⟨k1.trans an,v,k2,v,F',Lo,rfl,k3,k4,k5⟩
 cases e with
 | normal=>exact(let⟨h1,v,h2,h3⟩:=fin rfl r;⟨h1,v,h2,.inl h3⟩)
 | ret=>exact(let⟨h1,v,h2,h3⟩:=fin rfl r;⟨h1,v,h2,.inl h3⟩)
 | exit j=>obtain⟨F',L',ρ',_,_,_,_,_,_,M',bo,_,h⟩:=r;exact h.elim
 | goto l=>exact r.elim
 | panic c =>
  obtain⟨v,av,F',L',g1,g2,g3,g4,g5,kp,hp,_⟩:=r;obtain⟨Lo,q1,q2,q3,q4⟩:=sK g1 g2 (fun i g t cs hi=>kp (1000+i) g t (ac _ g t cs (by rw[aH,eu (by omega),show 1000+i-1000=i by omega];exact hi)));exact⟨g4,.inr ⟨v,_,F',Lo,rfl,av,q1,q2,q3,q4,hp⟩⟩
 | outgrown=>exact r.elim
theorem CallsTX.noPan {f:Nat}{args:List C}{Lin:List TO}{R:List TO->C->Prop}(h:CallsTX P f args Lin R fun _=>False):CallsT P f args Lin R :=
 ⟨fun F Li b h1 j c=>let k:=h.out F Li b h1 j c;⟨k.ent,k.mono,fun w d=>(k.run w d).mono fun e w' q=>q.elim id fun⟨_,_,_,_,_,_,_,_,_,_,q⟩=>q.elim⟩⟩
theorem af {f:FuncId}{fn:Func}{e:au}{A:cW}{rs:List RV}{args:List C}{Lin:List TO}{R:List TO->C->Prop}(hf:P.funcs[f]?=some fn) (b:aF P A fn=some (e,A.n,rs,false)) (c:Nat.ble args.length A.n=true)
  (h:uO args->(∀o∈Lin,o.Wf)->evalTC P ⟨fun _=>False,[],none⟩ e (fun _ _ _=>False) (fun L ρ=>gR L ρ rs fun d=>gD Lin L (gQ d) R) (fun L ρ=>gR L ρ rs fun d=>gD Lin L (gQ d) R) (cJ Lin) (j5 0 args)):CallsT P f args Lin R :=
 (bf hf b c h).noPan
end
section
variable {P:Program}{L:TL}{ρ:aM}
def aU (Lo:List TO) (x:C):List TO->C->Prop:=fun Mo v=>Mo=Lo/\v=x
theorem aY {f:Nat}{args a:List C}{K:TL->aM->C->Prop}{x:C}(h:CallsT P f a [] (aU [] x)) (d:(args.map fun c=>c.aaj.ren (bB [] 1000))=a) (k:Wf x->K L ρ (x.ren (aJ [])).slt):qt P f args L ρ K:=by
 subst d;exact .mk ⟨[],[],[],L,[],_,.inl rfl,rfl,rfl,rfl,rfl,rfl,h,fun v Mo ⟨e,b⟩ j _=>by subst e b;exact⟨rfl,k j⟩⟩
theorem bD {f:Nat}{args a:List C}{K:TL->aM->C->Prop}{d:Option Nat}{x:C}(h:CallsT P f a [] (aU [] x)) (e:(args.map fun c=>c.aaj.ren (bB [] 1000))=a) (k:Wf x->K L ρ x.slt):uZ P f args L ρ d K:=by
 subst e;exact .frz _ h fun v Mo ⟨j,b⟩ l=>by subst j b;exact⟨rfl,k l⟩
theorem callO (ks ko:List Nat) {f:Nat}{args a:List C}{K:TL->aM->C->Prop}{x:C}{Lin Lin' Lo:List TO}(h:CallsT P f a Lin' (aU Lo x)) (n:L.sub ks=some Lin)
  (d:(aS ks&&aS ko&&jI L ks ko&&aK Lin ks ko)=true) (r:(args.map fun c=>c.aaj.ren (bB ks 1000))=a) (j:Lin.map (TO.aad (C.ren (bB ks 1000)))=Lin') (s:ko.length=Lo.length)
  (k:Wf x->(∀o∈Lo,o.Wf)->K (((L.aae ks).kills (rowsOf L ks)).puts ko (Lo.map (TO.aad (C.ren (aJ ko))))) (dF (rowsOf L ks) ρ) (x.ren (aJ ko)).slt):qt P f args L ρ K:=by
 subst r j;simp only[v5] at d;obtain⟨⟨⟨e,l⟩,c3⟩,c4⟩:=d;exact .mk ⟨[],ks,ko,L,Lin,_,.inl rfl,n,e,l,c3,c4,h,fun v Mo ⟨p,m⟩ q b=>by subst p m;exact⟨s,k q b⟩⟩
theorem yI (ks ko:List Nat) {f:Nat}{args a:List C}{K:TL->aM->C->Prop}{x:C}{Lin Lin' Lo:List TO}(h:CallsT P f a Lin' (aU Lo x)) (n:L.sub ks=some Lin)
  (d:(aS ks&&aS ko&&jI L ks ko&&aK Lin ks ko)=true) (r:(args.map fun c=>c.aaj.ren (bB ks 1000))=a) (j:Lin.map (TO.aad (C.ren (bB ks 1000)))=Lin') (s:ko.length=Lo.length)
  (k:Wf x->(∀o∈Lo,o.Wf)->K (((L.aae ks).kills (rowsOf L ks)).puts ko (Lo.map (TO.aad (C.ren (aJ ko))))) (dF (rowsOf L ks) ρ) (x.ren (aJ ko)).slt):Cd P f args L ρ K:=by
 subst r j;simp only[v5] at d;obtain⟨⟨⟨e,l⟩,c3⟩,c4⟩:=d;exact .mk ⟨ks,ko,Lin,_,n,e,l,c3,c4,h,fun v Mo ⟨p,m⟩ q b=>by subst p m;exact⟨s,k q b⟩⟩
theorem GI (b ks ko:List Nat) {f:Nat}{args a:List C}{K:TL->aM->C->Prop}{x:C}{Lo Lin':List TO}(h:CallsT P f a Lin' (aU Lo x))
  (hf:x5 b L ρ args fun L ρ args=>∃Lin,L.sub ks=some Lin/\(aS ks&&aS ko&&jI L ks ko&&aK Lin ks ko)=true/\(args.map fun c=>c.aaj.ren (bB ks 1000))=a/\Lin.map (TO.aad (C.ren (bB ks 1000)))=Lin'/\ko.length=Lo.length /\
   (Wf x->(∀o∈Lo,o.Wf)->K (((L.aae ks).kills (rowsOf L ks)).puts ko (Lo.map (TO.aad (C.ren (aJ ko))))) (dF (rowsOf L ks) ρ) (x.ren (aJ ko)).slt)):qt P f args L ρ K:=by
 refine .mk ⟨b,ks,ko,?_⟩;refine frzK_imp hf ?_;rintro L ρ args ⟨Lin,p,j,rfl,rfl,s,k⟩;simp only[v5] at j;obtain⟨⟨⟨l,m⟩,c3⟩,c4⟩:=j;exact⟨L,Lin,_,.inl rfl,p,l,m,c3,c4,h,fun v Mo ⟨q,n⟩ r d=>by subst q n;exact⟨s,k r d⟩⟩
where
 frzK_imp:∀{b:List Nat}{L:TL}{ρ:aM}{args:List C}{K K':TL->aM->List C->Prop},x5 b L ρ args K->(∀L ρ args,K L ρ args->K' L ρ args)->x5 b L ρ args K'
  | [],L,ρ,args,K,K',h,e=>e _ _ _ h
  | k::b,L,ρ,args,K,K',h,e=>by
   simp only[x5] at h ⊢;generalize L.get k=z at h ⊢;split at h
   ·exact frzK_imp h e
   ·exact h.elim
theorem aC {Lin:List TO}{v x:C}(hb:aK Lin (List.range' 1000 Lin.length) []=true) (e:v.aat.ren (bB [] 1000)=x):gD Lin L v (aU [] x) :=
 ⟨[],[],L,v,v,[],rfl,.inl ⟨rfl,rfl⟩,rfl,rfl,hb,fun _=>⟨rfl,e⟩⟩
theorem bF (ko:List Nat) {Lin Mo Lo:List TO}{v x:C}(b:L.sub ko=some Mo) (a:(aS ko&&aK Lin (List.range' 1000 Lin.length) ko)=true) (c:Mo.map (TO.aad (C.ren (bB ko 1000)))=Lo) (e:v.aat.ren (bB ko 1000)=x):gD Lin L v (aU Lo x):=by
 simp only[v5] at a;exact⟨[],ko,L,v,v,Mo,rfl,.inl ⟨rfl,rfl⟩,b,a.1,a.2,fun _=>⟨c,e⟩⟩
theorem V8 (k t sz:Nat) {Lin:List TO}(b:L=[]) (hb:aK Lin (List.range' 1000 Lin.length) [k]=true):gD Lin L .nils (aU [.row t sz []] (.rw 1000)):=by
 subst b;have a:Nat.beq k k=true:=by simp
 refine⟨[],[k],[(k,.row t sz [])],.nils,.rw k,[.row t sz []],rfl,.inr ⟨⟨.inr ⟨rfl,t,sz,rfl⟩,trivial⟩,.inr (.inr (.inr (.inl ⟨rfl,k,t,sz,rfl,rfl,?_⟩)))⟩,?_,rfl,hb,fun _=>⟨rfl,?_⟩⟩
 ·simp only[TL.get,a]
 ·simp only[TL.sub,TL.get,a]
 ·simp only[C.aat,C.ren,C.mp,wR,bB,a]
theorem IG (d ko:List Nat) {Lin Lo:List TO}{v x:C}(hf:x5 d L (fun _=>.any) [v] fun L _ b=>∃c Mo,b=[c]/\L.sub ko=some Mo/\(aS ko&&aK Lin (List.range' 1000 Lin.length) ko)=true/\Mo.map (TO.aad (C.ren (bB ko 1000)))=Lo/\c.aat.ren (bB ko 1000)=x):gD Lin L v (aU Lo x):=by
 refine⟨d,ko,?_⟩;refine GI.frzK_imp hf ?_;rintro L ρ b ⟨c,Mo,rfl,f,a,h,e⟩;simp only[v5] at a;exact⟨L,c,c,Mo,rfl,.inl ⟨rfl,rfl⟩,f,a.1,a.2,fun _=>⟨h,e⟩⟩
theorem bX {e:Type}{b:TL->aM->TK->Prop}{asg:List Nat}(n:Nat) (l:Nat) (f:List Nat) (c:e) (d:e->List C) (Lf:e->TL) (Inv:Nat->e->Prop) (h0:Inv 0 c) (t:NA L (Lf c) (ρ l) (.int .i64 0)) (u:nA L (Lf c) f (d c) ρ)
  (v:gives L (Lf c) (Lf c)) (hb:∀s,oU L (Lf s)=true) (r:∀s,(d s).length=f.length)
  (h:∀(k:Nat) s,k<=n->Inv k s->uO (d s)->(∀j o,(Lf s).get j=some o->o.Wf)->(k:Int)<=9223372036854775807->b (Lf s) (qp (l::f) (.int .i64 k::d s) (tM asg ρ)) fun L' ρ' =>
   ∃a:Nat×e,(a.1<=n/\Inv a.1 a.2)/\nA L' (Lf a.2) (l::f) (.int .i64 a.1::d a.2) ρ'/\gives L' (Lf a.2) (Lf a.2)/\n-a.1<n-k):AU b asg L ρ:=by
 refine⟨Nat×e,(0,c),fun x=>x.1<=n/\Inv x.1 x.2,l::f,fun x=>.int .i64 x.1::d x.2,fun x=>Lf x.2,fun x=>n-x.1,⟨aa8 _,h0⟩,⟨t,u⟩,v,fun x=>hb x.2,fun x=>by simp[r],?_⟩;rintro⟨k,s⟩ ⟨p,hi⟩ q m;simp only[uO,Wf] at q;exact h k s p hi q.2 m (wf_i64 q.1).2
theorem bM {L1:TL}{k:Nat}:NA L L1 (.int .i64 ((k:Int)+1)) (.int .i64 ((k+1:Nat):Int)):=.inr (.inl ⟨rfl,rfl⟩)
theorem bN {n k:Nat}(h:k<n):n-(k+1)<n-k:=by omega
theorem gZ {els:List (List C)}(h:Wf (.sl els)):els.length<=9223372036854775807:=by simp only[Wf,maxLen] at h;omega
theorem NZ {a:Type}{f:a->List C}{l:List a}(h:Wf (.sl (l.map f))):l.length<=9223372036854775807:=by have:=gZ h;simpa using this
theorem FC {a:Type}{f:a->List C}{l:List a}{k sz:Nat}{x:a}{es:List C}{K:List C->Prop}(b:l[k]?=some x) (he:f x=es) (c:fq es sz=true) (h:K es):uY (l.map f) (k:Int) sz K :=
 ⟨es,by omega,by simp[b,he],c,h⟩
theorem ef {a:List UInt8}{k:Nat}{x:UInt8}{K:List C->Prop}(b:a[k]?=some x) (h:K [Kg x]):uY (Fl a) (k:Int) 1 K :=
 ⟨[Kg x],by omega,by simp[Fl,b],rfl,h⟩
theorem ai {L1:TL}{c:C}(h:fF L1 3 c=true):NA L L1 c c:=.inr (.inl ⟨rfl,h⟩)
theorem bQ {a:Type}{l:List a}{k:Nat}(h:¬k<l.length):l.drop k=[]:=List.drop_eq_nil_iff.2 (by omega)
theorem KG (ks ko:List Nat) {PS:nU}{Pp:Value->Prop}{f:Nat}{args a:List C}{K:TL->aM->C->Prop}{x:C}{Lin Lin' Lo:List TO}(h:CallsTX P f a Lin' (aU Lo x) Pp) (n:L.sub ks=some Lin)
  (d:(aS ks&&aS ko&&jI L ks ko&&aK Lin ks ko)=true) (t:(args.map fun c=>c.aaj.ren (bB ks 1000))=a) (j:Lin.map (TO.aad (C.ren (bB ks 1000)))=Lin') (u:ko.length=Lo.length) (s:∀v,Pp v->PS.ps v)
  (k:Wf x->(∀o∈Lo,o.Wf)->K (((L.aae ks).kills (rowsOf L ks)).puts ko (Lo.map (TO.aad (C.ren (aJ ko))))) (dF (rowsOf L ks) ρ) (x.ren (aJ ko)).slt) (p:jJ L ks PS.hb=true:=by rfl):lq P PS f args L ρ K:=by
 subst t j;simp only[v5] at d;obtain⟨⟨⟨e,l⟩,c3⟩,c4⟩:=d;exact⟨[],ks,ko,L,Lin,_,_,.inl rfl,n,e,l,c3,c4,p,h,s,fun v Mo ⟨q,m⟩ r b=>by subst q m;exact⟨u,k r b⟩⟩
theorem R5 (L1:TL) (ks ko:List Nat) {PS:nU}{Pp:Value->Prop}{f:Nat}{args a:List C}{K:TL->aM->C->Prop}{x:C}{Lin Lin' Lo:List TO}(h:CallsTX P f a Lin' (aU Lo x) Pp) (t:gives L L1 L1) (n:L1.sub ks=some Lin)
  (d:(covers L L1&&aS ks&&aS ko&&jI L1 ks ko&&aK Lin ks ko)=true) (u:(args.map fun c=>c.aaj.ren (bB ks 1000))=a) (j:Lin.map (TO.aad (C.ren (bB ks 1000)))=Lin') (w:ko.length=Lo.length) (s:∀v,Pp v->PS.ps v)
  (k:Wf x->(∀o∈Lo,o.Wf)->K (((L1.aae ks).kills (rowsOf L1 ks)).puts ko (Lo.map (TO.aad (C.ren (aJ ko))))) (dF (rowsOf L1 ks) ρ) (x.ren (aJ ko)).slt) (p:jJ L1 ks PS.hb=true:=by rfl):lq P PS f args L ρ K:=by
 subst u j;simp only[v5] at d;obtain⟨⟨⟨⟨c0,e⟩,l⟩,c3⟩,c4⟩:=d;exact⟨[],ks,ko,L1,Lin,_,_,.inr ⟨t,c0⟩,n,e,l,c3,c4,p,h,s,fun v Mo ⟨q,m⟩ r b=>by subst q m;exact⟨w,k r b⟩⟩
theorem pO {PS:nU}{c:C}{v:Value}(b:DG c=some v) (h:PS.ps v) (a:jJ L [] PS.hb=true:=by rfl):TA PS L c:=⟨v,b,a,h⟩
end
def lN:Own->Value
 | .box g _ _=>.pointer (some ⟨g,0,none⟩)
 | .row _ _ _ _ _=>undef
def pQ:Own->List Value->Own
 | .box g t _,cs=>.box g t cs
 | .row v t sz n xs,_=>.row v t sz n xs
def R6:Own->Nat->Prop
 | .box _ 0 _,_=>False
 | .box _ (_+1) cs,n=>cs.length=n
 | .row _ _ _ _ _,_=>False
theorem GJ {g:Nat}{t:TypeId}{cs:List Value}{n:Nat}(h:t≠0) (a:cs.length=n):R6 (.box g t cs) n:=by
 cases t with
 | zero=>exact fL rfl h
 | succ t=>exact a
theorem wW {g:Nat}{t:TypeId}{cs:List Value}{n:Nat}(h:R6 (.box g t cs) n):t≠0:=by
 cases t with
 | zero=>exact h.elim
 | succ t=>exact Nat.succ_ne_zero t
def Da:List Own->List Nat->Prop
 | [],[]=>True
 | o::a,n::ns=>R6 o n/\Da a ns
 | _,_=>False
structure n9 (P:Program) (H:Nat) (PS:Value->Prop) (ns:List Nat) (out:Value->List (List Value)):Prop where
 inv:∀cap w,(invoke (.fn (.func H) cap) #[]).run P w=.ok (.enter H cap) w
 idle:∀(bs:List Own) (w:World),Da bs ns->CallsD P H (bs.map lN).toArray .returning w fun e u' w'=>e=.returned (.tuple #[])/\u'=.returning/\w'=w
 caught:∀(F:aA) (bs:List Own) (v:Value) (older:List PanicEntry) (w:World),PS v->Da bs ns->St F (inp bs) w ->
  CallsD P H (bs.map lN).toArray (.panicking ({v,recovered:=false}::older)) w fun e u' w'=>e=.returned (.tuple #[])/\u'=.panicking ({v,recovered:=true}::older) /\
   ∃F',St F' (inp (List.zipWith pQ bs (out v))) w'/\Step F (inp bs) w F' (inp (List.zipWith pQ bs (out v))) w'
theorem D3 {P:Program}{F:aA}{L:Loc}{ρ:Env}{a:Act}{w:World}{fn:Func}{rs:List RV}{K:List Value->Prop}(d:St F L w) (he:aD L ρ a) (b:mV P fn.results.toList=some rs) (h:nH L ρ rs K) :
  ∃c,(results fn a.tmps).run P w=.ok (gb c) w/\K c:=by
 obtain⟨c,f,e⟩:=nR d he b h;refine⟨c,?_,e⟩;rw[oS,Array.mapM_eq_mapM_toList];simp only[Sem.run_bind,Sem.run_map];rw[f];simp only[Result.andThen_ok,Sem.run_pure];congr 1
 match c with
 | []=>rfl
 | [t]=>rfl
 | t::u::r =>
  simp only[gb];rw[dif_neg (by simp)]
def Be:List TO->List TO->Prop
 | [],Mo=>Mo=[]
 | .box t _::l,Mo=>∃(n:Nat) (Mo':List TO),Mo=.box t (List.replicate n .any)::Mo'/\Be l Mo'
 | .row t sz _::l,Mo=>∃Mo',Mo=.row t sz []::Mo'/\Be l Mo'
 | .map _::_,_=>False
def Bf:List TO->Bool
 | []=>true
 | .map _::_=>false
 | .box _ _::l=>Bf l
 | .row _ _ _::l=>Bf l
theorem D4 {F:aA}{L:Loc}:∀a:List Value,aB F L (List.replicate a.length .any) a
 | []=>by simp only[abL,List.replicate_zero,aB]
 | v::a=>by
  simp only[aa5,ab2,aB];exact⟨v,a,rfl,trivial,D4 a⟩
theorem GK {F:aA}:∀(Lin:List TO) (Li Lo:List Own),Bf Lin=true->Li.length=Lin.length->Lo.length=Lin.length->(∀(i:Nat) o p,Lin[i]?=some o->Li[i]?=some p->∃L,cK F L o p) ->
  (∀(i:Nat) g t cs,Li[i]?=some (.box g t cs)->∃cs',Lo[i]?=some (.box g t cs')) ->
  ∃(Mo:List TO) (Lo':List Own),Be Lin Mo/\Mo.length=Lin.length/\Lo'.length=Lin.length/\(∀(i:Nat) o,Lo'[i]?=some o->Lo[i]?=some o\/∃t sz,o=.row (.slice none 0 0) t sz 0 []) /\
   (∀(i:Nat) g t cs,Li[i]?=some (.box g t cs)->∃cs',Lo'[i]?=some (.box g t cs'))/\∀(i:Nat) o p L G,Mo[i]?=some o->Lo'[i]?=some p->cK G L o p
 | [],Li,Lo,c,h1,h,f,d=>by
  have:Li=[]:=List.length_eq_zero_iff.1 h1;subst this;exact⟨[],[],rfl,rfl,rfl,fun i o e=>by simp at e,fun i g t cs e=>by simp at e,fun i o p L G e=>by simp at e⟩
 | o::Lin,[],Lo,c,h1,h,f,d=>by simp at h1
 | o::Lin,p::Li,[],c,h1,h,f,d=>by simp at h
 | o::Lin,p::Li,q::Lo,c,h1,h,f,d=>by
  obtain⟨Mo,Lo',a1,l,u,r,s,m⟩:=GK Lin Li Lo (by cases o<;>first | exact c | cases c) (by simpa using h1) (by simpa using h) (fun i o p b a=>f (i+1) o p (by simpa using b) (by simpa using a)) (fun i g t cs e=>by simpa using d (i+1) g t cs (by simpa using e));obtain⟨L,k⟩:=f 0 o p rfl rfl;cases o with
  | map es=>cases c
  | box t cs =>
   cases p with
   | row=>exact k.elim
   | box g j us =>
    obtain⟨cs',e⟩:=d 0 g j us rfl;simp only[aa3,xo] at e;subst e;refine⟨.box t (List.replicate cs'.length .any)::Mo,.box g j cs'::Lo',⟨_,_,rfl,a1⟩,by simp[l],by simp[u],fun i o e=>?_,fun i g t cs e=>?_,fun i o p L G b a=>?_⟩
    ·cases i with
     | zero=>exact .inl e
     | succ i=>simpa using r i o (by simpa using e)
    ·cases i with
     | zero=>simp only[aa3,xo] at e;injection e with q1 q2 q3;subst q1 q2;exact⟨_,rfl⟩
     | succ i=>simpa using s i g t cs (by simpa using e)
    ·cases i with
     | zero =>
      simp only[aa3,xo] at b a;subst b a;exact⟨k.1,D4 _⟩
     | succ i=>exact m i o p L G (by simpa using b) (by simpa using a)
  | row t sz els =>
   cases p with
   | box=>exact k.elim
   | row v j w n xs =>
    refine⟨.row t sz []::Mo,.row (.slice none 0 0) t sz 0 []::Lo',⟨_,rfl,a1⟩,by simp[l],by simp[u],fun i o e=>?_,fun i g t cs e=>?_,fun i o p L G b a=>?_⟩
    ·cases i with
     | zero=>simp only[aa3,xo] at e;subst e;exact .inr ⟨_,_,rfl⟩
     | succ i=>simpa using r i o (by simpa using e)
    ·cases i with
     | zero=>simp only[aa3,xo] at e;cases e
     | succ i=>simpa using s i g t cs (by simpa using e)
    ·cases i with
     | zero =>
      simp only[aa3,xo] at b a;subst b a;exact⟨rfl,rfl,rfl,⟨aa8 _,none,0,rfl,fun _=>rfl⟩,by simp only[aP]⟩
     | succ i=>exact m i o p L G (by simpa using b) (by simpa using a)
theorem R7 {F F':aA}{Lin:List TO}{Li Lo:List Own}{w w':World}(v:Bf Lin=true) (y:Li.length=Lin.length) (q:bS F (inp Li) (cJ Lin)) (f:St F' (inp Lo) w') (c:Step F (inp Li) w F' (inp Lo) w') (s:Lo.length=Li.length)
  (u:∀(i:Nat) g t cs,Li[i]?=some (.box g t cs)->∃cs',Lo[i]?=some (.box g t cs')) :
  ∃Mo Lo',St F' (inp Lo') w'/\Step F (inp Li) w F' (inp Lo') w'/\Be Lin Mo/\Mo.length=Lo'.length/\bS F' (inp Lo') (cJ Mo)/\∀(i:Nat) g t cs,Li[i]?=some (.box g t cs)->∃cs',Lo'[i]?=some (.box g t cs'):=by
 have m:∀(i:Nat) o p,Lin[i]?=some o->Li[i]?=some p->∃L,cK F L o p:=by
  intro i o p d r;have z:=q (1000+i);rw[cA,aH,eu (by omega),eu (by omega),show 1000+i-1000=i by omega,d,r] at z;exact⟨_,z⟩
 obtain⟨Mo,Lo',a1,x,n,a4,a5,a6⟩:=GK Lin Li Lo v y (by rw[s,y]) m u;have a:∀j o,(inp Lo').get j=some o->(inp Lo).get j=some o\/∃t sz,o=.row (.slice none 0 0) t sz 0 []:=by
  intro j o e;rw[aH] at e ⊢;split at e
  case isFalse=>cases e
  rename_i hj;rw[eu hj];exact a4 _ o e
 refine⟨Mo,Lo',⟨f.frz,fun j o e=>?_,fun j o g e hb=>?_,fun j j' o o' g e e' hb h=>?_,f.glob⟩,?_,a1,by rw[x,n],fun k=>?_,a5⟩
 ·rcases a j o e with d | ⟨t,sz,rfl⟩
  ·exact f.own j o d
  ·exact World.ownsRow_nil w' 0 t sz
 ·rcases a j o e with d | ⟨t,sz,rfl⟩
  ·exact f.off j o g d hb
  ·cases hb
 ·rcases a j o e with d | ⟨t,sz,rfl⟩
  ·rcases a j' o' e' with r | ⟨t,sz,rfl⟩
   ·exact f.sep j j' o o' g d r hb h
   ·cases h
  ·cases hb
 ·refine⟨c.le,c.os,c.tape,c.output,c.size,c.same,c.frz,fun b hb=>?_⟩;obtain⟨j,o,e,hb⟩:=hb;rcases a j o e with d | ⟨t,sz,rfl⟩
  ·exact c.own b ⟨j,o,d,hb⟩
  ·cases hb
 ·rw[cA,aH];split
  ·cases d:Mo[k-1000]? with
   | none =>
    have:Lo'[k-1000]?=none:=abl (by rw[n,<-x];exact aby.1 d);rw[this];trivial
   | some o =>
    have l:k-1000<Lo'.length:=by rw[n,<-x];exact(aaR.1 d).1
    rw[aaO l];exact a6 _ o _ _ _ d (aaO l)
  ·trivial
def yJ (M:TL) (τ:aM):List Nat->List Nat->Bool
 | [],[]=>true
 | k::ks,n::ns=>match τ k,M.get k with
  | .own j 0,some (.box _ cs)=>match Nat.beq j k,fq cs n with | true,true=>yJ M τ ks ns | _,_=>false
  | _,_=>false
 | _,_=>false
section
variable {G:Nat->Option (Nat×TypeId)}{F:aA}{L:Loc}{ρ:Env}{M:TL}{τ:aM}
theorem D5:∀{ks ns:List Nat},yJ M τ ks ns=true->TS G F L ρ M τ->∃a:List Own,L.sub ks=some a/\Da a ns/\ks.map (fun k=>conc L (ρ k))=a.map lN/\(∀k∈ks,ρ k=.own k 0)
 | [],[],_,_=>⟨[],rfl,trivial,rfl,fun k h=>by cases h⟩
 | [],n::ns,h,_=>by cases h
 | k::ks,[],h,_=>by cases h
 | k::ks,n::ns,h,d=>by
  simp only[yJ] at h;split at h
  case h_2=>cases h
  rename_i j t cs h1 u;split at h
  case h_2=>cases h
  rename_i b m;have b:=aaQ b;subst b;obtain⟨a,p,r,o,s⟩:=D5 h d;obtain⟨g,ty,q,f,v,e⟩:=lu d.tl u;have l:ρ j=.own j 0:=(jq (x:=.t j) d.env h1).1;refine⟨.box g ty q::a,by simp only[Loc.sub,f,p],⟨GJ e.2.2 (by rw[v.len];exact cg m),r⟩,?_,?_⟩
  ·rw[aaX,aaX,o];simp only[l,conc,f,lN]
  ·intro k c;rcases aaT.1 c with rfl | c
   ·exact l
   ·exact s k c
end
theorem wX:∀{a:List Own}{ns:List Nat},Da a ns->a.length=ns.length
 | [],[],_=>rfl
 | [],_::_,h=>h.elim
 | _::_,[],h=>h.elim
 | o::a,n::ns,h=>by simp[wX h.2]
theorem D6 {hb:List (Nat×Nat)}{L L':Loc}:∀{ks ns:List Nat}{c:List Own},L.sub ks=some c->Da c ns->(∀k g t cs,k∈ks->L.get k=some (.box g t cs)->∃cs',L'.get k=some (.box g t cs'))->V6 hb L'->(∀x∈ks.zip ns,x∈hb) ->
  ∃a,L'.sub ks=some a/\Da a ns/\a.map lN=c.map lN
 | [],ns,c,h1,b,m,h,p=>by
  simp only[Loc.sub,xo] at h1;subst h1;exact⟨[],rfl,b,rfl⟩
 | k::ks,ns,c,h1,b,m,h,p=>by
  simp only[Loc.sub] at h1;split at h1
  case h_2=>cases h1
  rename_i o l z v;injection h1 with h1
  subst h1;cases ns with
  | nil=>exact b.elim
  | cons n ns =>
   obtain⟨b,f⟩:=b;cases o with
   | row=>exact b.elim
   | box g t cs =>
    obtain⟨a,w,y,s⟩:=D6 v f (fun j g t cs r e=>m j g t cs (by simp[r]) e) h (fun x hx=>p x (by simp[hx]));obtain⟨cs',q⟩:=m k g t cs (by simp) z;obtain⟨g',t',u,d,e5⟩:=h k n (p _ (by simp));rw[q] at d;injection d with d
    injection d with x1 x2 x3
    subst x1 x2 x3;exact⟨.box g t cs'::a,by simp only[Loc.sub,q,w],⟨GJ (wW b) e5,y⟩,by simp[s,lN]⟩
theorem GL:∀{a:List Own}{ns:List Nat}{l:List (List Value)},Da a ns->l.length=ns.length->(List.zipWith pQ a l).length=a.length/\(∀(i:Nat) g t cs,a[i]?=some (.box g t cs)->∃cs',(List.zipWith pQ a l)[i]?=some (.box g t cs')) /\
  ∀(i:Nat) cs,l[i]?=some cs->∃g t,(List.zipWith pQ a l)[i]?=some (.box g (t+1) cs)
 | [],[],l,_,h=>by
  have:l=[]:=List.length_eq_zero_iff.1 h;subst this;exact⟨rfl,fun i g t cs e=>by simp at e,fun i cs e=>by simp at e⟩
 | [],n::ns,l,h,_=>h.elim
 | o::a,[],l,h,_=>h.elim
 | o::a,n::ns,[],_,h=>by simp at h
 | o::a,n::ns,c::l,⟨h1,m⟩,h=>by
  obtain⟨j,k,b⟩:=GL (l:=l) m (by simpa using h);cases o with
  | row=>exact h1.elim
  | box g t cs =>
   refine⟨by simp[j],fun i d f cs' e=>?_,fun i cs' e=>?_⟩
   ·cases i with
    | zero =>
     simp only[aa3,xo] at e;injection e with x1 x2 x3
     subst x1 x2;exact⟨c,rfl⟩
    | succ i=>simpa using k i d f cs' (by simpa using e)
   ·cases i with
    | zero =>
     simp only[aa3,xo] at e;subst e;cases t with
     | zero=>exact h1.elim
     | succ t=>exact⟨g,t,rfl⟩
    | succ i=>simpa using b i cs' (by simpa using e)
theorem vp {a:Act}{ρ:Env}{L:Loc}(he:aD L ρ a):∀ks:List Nat,(ks.map Operand.tmp).map a.eval=ks.map fun k=>conc L (ρ k)
 | []=>rfl
 | k::ks=>by
  simp only[aaX,vp he ks];exact vv (·::_) (he.eq k)
theorem QG:∀(l:List PanicEntry),(∀e∈l,e.goexit=false)->l.dropWhile (!·.goexit)=[]
 | [],_=>rfl
 | e::l,h=>by
  rw[List.dropWhile_cons,eu (by simp[h e (by simp)])];exact QG l fun x a=>h x (by simp[a])
theorem Cn {P:Program}{f H d r1:Nat}{fn:Func}{c0 rest:Code}{o1 o2:Oper}{A:cW}{sc0 sc:au}{rs:List RV}{ks ns:List Nat}{args:List C}{Lin:List TO}{R:List TO->C->Prop}{PS:Value->Prop}{out:Value->List (List Value)}
  (hf:P.funcs[f]?=some fn) (hb:fn.body=some (.seq c0 (.seq (.region r1 #[o1,o2] false) rest))) (hname:(fn.name == "runtime.NumGoroutine")=false) (hnt:fn.ntmps=A.n)
  (ho1:o1.op=.makeFunc (.func H) #[] (ks.map Operand.tmp).toArray) (hd1:o1.dst=some d) (hg1:o1.guard=none) (ho2:o2.op=.defer {callee:=.value (.tmp d),args:=#[],argTypes:=#[]}) (hd2:o2.dst=none) (hg2:o2.guard=none)
  (hl0:low P A c0=some sc0) (hl:low P A rest=some sc) (hres:mV P fn.results.toList=some rs) (hH:n9 P H PS ns out) (hd:d<A.n) (hks:aS ks=true) (hkd:(ks.all fun k=>!(fC (dQ rest) k)&&!(Nat.beq k d)&&Nat.blt k 1000)=true)
  (hout:∀v,PS v->(out v).length=ns.length) (hlen:Nat.ble args.length A.n=true) (hnm:Bf Lin=true)
  (hcat:∀v,PS v->∃c x,(∀(L:Loc) (ρ:Env),(∀(i:Nat) k cs,ks[i]?=some k->(out v)[i]?=some cs->ρ k=.own k 0/\∃g t,L.get k=some (.box g (t+1) cs))->nH L ρ rs (fun vs=>gb vs=x))/\(∀F L,Rel F L c x)/\∀Mo,Be Lin Mo->R Mo c)
  (h:uO args->(∀o∈Lin,o.Wf)->evalTC P ⟨fun _=>False,[],none⟩ sc0 (fun _ _ _=>False) (fun _ _=>False) (fun M τ=>yJ M τ ks ns=true /\
   evalTC P ⟨PS,ks.zip ns,none⟩ sc (fun _ _ _=>False) (fun L ρ=>gR L ρ rs fun vs=>gD Lin L (gQ vs) R) (fun L ρ=>gR L ρ rs fun vs=>gD Lin L (gQ vs) R) M (bA (some d) .any τ)) (cJ Lin) (j5 0 args)) :
  CallsT P f args Lin R:=by
 refine⟨fun F Li vs hlL htl ha=>⟨⟨fn,hf,by rw[hb];rfl,hname⟩,gP.aao,fun w hs=>?_⟩⟩
 suffices hall:∀RR:Ending->World->Prop,(∀v F' Lo w',St F' (inp Lo) w'->Step F (inp Li) w F' (inp Lo) w'->gP Li R F' Lo v->RR (.returned v) w')->Calls P f vs.toArray w RR from
  hall _ fun v F' Lo w' h1 h2 h3=>⟨v,F',Lo,rfl,h1,h2,h3⟩
 intro RR hRR;refine calls_of_wp_defers hf hb ?_;have hwo:∀o∈Lin,o.Wf:=by
  intro o ho;obtain⟨i,hi⟩:=abf.1 ho;have:=htl (1000+i);rw[cA,aH,eu (by omega),eu (by omega),show 1000+i-1000=i by omega,hi] at this;cases e:Li[i]? with
  | none=>rw[e] at this;exact this.elim
  | some p=>rw[e] at this;exact cK.wf this
 have h:=h ha.wf hwo;have hla:=ha.len;have hlen:=aa9 hlen;have key:∀j,∃sv,aN F (inp Li) (j5 0 args j) sv/\conc (inp Li) sv=(vs.toArray++Array.replicate (fn.ntmps-vs.toArray.size) undef).getD j undef/\(∀k off,sv=.own k off->∃g t cs,(inp Li).get k=some (.box g t cs))/\(∀ad i,sv=.el ad i->ad≠none):=by
  intro j;rw[n8];simp only[aa8,abj,Nat.sub_zero,aa6];cases e:args[j]? with
  | some c =>
   have hlt:j<vs.length:=by rw[hla];exact(aaR.1 e).1
   obtain⟨s1,s2,s3,s4⟩:=rB (ha.at e (aaO hlt));refine⟨_,s1,?_,s3,fun ad i e=>fL e (s4 ad i)⟩;rw[s2,Array.getElem?_append_left (by simpa using hlt)];simp[hlt]
  | none =>
   have hge:vs.length<=j:=by rw[hla];exact aby.1 e
   refine⟨.v undef,lf,?_,fun _ _ e=>(by cases e),fun _ _ e=>(by cases e)⟩;rw[Array.getElem?_append_right (by simpa using hge)];simp only[Array.getElem?_replicate,conc];split<;>rfl
 let ρ0:Env:=fun j=>(key j).choose
 have he:aD (inp Li) ρ0 {tmps:=vs.toArray++Array.replicate (fn.ntmps-vs.toArray.size) undef,defers:=[]} :=
  ⟨fun t=>(key t).choose_spec.2.1.symm,fun t k off e=>(key t).choose_spec.2.2.1 k off e,fun t ad j e=>(key t).choose_spec.2.2.2 ad j e⟩
 let G:Nat->Option (Nat×TypeId):=fun k=>match(inp Li).get k with | some (.box g t _)=>some (g,t) | _=>none
 have hG1:∀k g t cs,(inp Li).get k=some (.box g t cs)->G k=some (g,t):=fun k g t cs e=>by simp only[G,e]
 have hkp:Kp G (inp Li):=by
  intro k g t e;simp only[G] at e;split at e
  ·rename_i g' t' cs h;injection e with e
   injection e with e1 e2
   subst e1 e2;exact⟨cs,h⟩
  ·cases e
 have ht:TS G F (inp Li) ρ0 (cJ Lin) (j5 0 args):=⟨htl,fun j=>(key j).choose_spec.1,hkp,hs.glob⟩;have hGd:∀k,G k≠none->1000<=k:=by
  intro k hne;simp only[G] at hne;split at hne
  ·rename_i g t cs h;rw[aH] at h;split at h
   ·assumption
   ·cases h
  ·exact fL rfl hne
 refine wp_seq (wp_mono (fH c0 hl0 (fun k _ hne=>.inl (hGd k hne)) hs he ht (by simp[hnt];omega) h) ?_);intro e a1 w1 hq;cases e with
 | exit j=>obtain⟨F',L',ρ',_,_,_,_,_,_,M',τ',_,h⟩:=hq;exact h.elim
 | goto l=>exact hq.elim
 | outgrown=>exact hq.elim
 | ret=>obtain⟨F',L',ρ',_,_,_,_,_,_,M',τ',_,h⟩:=hq;exact h.elim
 | panic c=>obtain⟨v,hch,F',L',_,_,_,_,_,_,hp,_⟩:=hq;exact hp.elim
 | normal =>
 obtain⟨F1,L1,ρ1,hs1,he1,hn1,hd1',hst1,_,M1,τ1,ht1,hcaps,hrest⟩:=hq;obtain⟨bs,hsub,hbx,hptr,hown⟩:=D5 hcaps ht1;simp only[Exit.then]
 -- the deferred function is named
 generalize hfv:Value.func (.func H) #[] (bs.map lN).toArray=fv;have hev:(ks.map Operand.tmp).toArray.map a1.eval=(bs.map lN).toArray:=by
  rw[List.map_toArray,vp he1,hptr]
 have he2:=he1.put (L':=L1) (d:=some d) (v:=fv) (x:=.v fv) (fun k e=>by injection e with e;subst e;omega) rfl cC eV (fun k g ty cs e=>⟨cs,e⟩);have ht2:TS G F1 L1 (put (some d) (.v fv) ρ1) M1 (bA (some d) .any τ1):=ht1.put (c:=.any) (sv:=.v fv) trivial (some d);obtain⟨tm,df⟩:=a1;simp only at hd1';subst hd1';have hdt:(tm.setIfInBounds d fv).getD d undef=fv:=by
  have:d<tm.size:=by simpa[hn1] using hd
  simp[aa6,this]
 refine wp_seq (wp_region ?_);generalize hd0:({target:=.fn (.func H) (bs.map lN).toArray,args:=#[]}:Deferred)=d0;have hsz:d<tm.size:=by simpa[hn1] using hd
 simp[wpOps,go_sem,ho1,hd1,hg1,ho2,hd2,hg2,Exit.then,Region.wanted,hsz,Instr.makeFunc];have hml:List.map (Act.eval {tmps:=tm,defers:=[]}∘Operand.tmp) ks=bs.map lN:=by
  rw[<-hptr,<-vp he1,abR]
 rw[hml,hfv,hd0];refine .inl (.inl ?_)
 let G1:Nat->Option (Nat×TypeId):=fun k=>match Nat.ble 1000 k||fC ks k with | true=>(match L1.get k with | some (.box g t _)=>some (g,t) | _=>none) | false=>none
 have hGL:∀k g t cs,(1000<=k\/k∈ks)->L1.get k=some (.box g t cs)->G1 k=some (g,t):=fun k g t cs hk e=>by
  have:(Nat.ble 1000 k||fC ks k)=true:=by
   rw[abn];exact hk.imp (fun h=>by rw[Nat.ble_eq];exact h) cQ.2
  simp only[G1,this,e]
 have hfz1:tX G1 ⟨PS,ks.zip ns,none⟩ (fZ sc):=by
  intro k _ hne;simp only[G1] at hne;split at hne
  ·rename_i hb;rw[abn] at hb;rcases hb with hb | hb
   ·rw[Nat.ble_eq] at hb;exact .inl hb
   ·refine .inr ?_;have hl2:ks.length=ns.length:=by rw[(cE hsub).1.symm];exact wX hbx
    show fC ((ks.zip ns).map (·.1)) k=true;rw[List.map_fst_zip (by omega)];exact hb
  ·exact fL rfl hne
 have hkp1:Kp G1 L1:=by
  intro k g t e;simp only[G1] at e;split at e
  case h_2=>cases e
  split at e
  ·rename_i g' t' cs h;injection e with e
   injection e with e1 e2
   subst e1 e2;exact⟨cs,h⟩
  ·cases e
 have hGG:∀k g t,G k=some (g,t)->G1 k=some (g,t):=fun k g t e=>let⟨cs,h⟩:=ht1.kp k g t e;hGL k g t cs (.inl (hGd k (by rw[e];simp))) h;have ht3:TS G1 F1 L1 (put (some d) (.v fv) ρ1) M1 (bA (some d) .any τ1):=⟨ht2.tl,ht2.env,hkp1,ht2.glob⟩;have he3:aD L1 (put (some d) (.v fv) ρ1) {tmps:=tm.setIfInBounds d fv,defers:=[d0]}:=⟨he2.eq,he2.own,he2.el⟩;refine wp_mono (fH rest hl hfz1 hs1 he3 ht3 (by simpa using hn1) hrest) ?_;intro e a' w' hq;have hnd:=cT hks;have hGI:∀k g t cs,(inp Li).get k=some (.box g t cs)->G1 k=some (g,t):=fun k g t cs e=>hGG k g t (hG1 k g t cs e);have back:∀(u:FrameMode) (w:World),u=.returning->Leaves P fn a'.tmps RR [] .returning w->Leaves P fn a'.tmps RR [d0] u w:=by
  rintro u w rfl hlv;rw[<-hd0];refine leaves_cons (f:=H) (args:=(bs.map lN).toArray) (by simp) (hH.inv _ w) ?_;refine(hH.idle bs w hbx).mono ?_;rintro e u' w6 ⟨rfl,rfl,rfl⟩;exact hlv
 have fin:eJ A.n F1 L1 w1 {tmps:=tm.setIfInBounds d fv,defers:=[d0]} (dQ rest) (Both G1 (fun L ρ=>gR L ρ rs fun vs=>gD Lin L (gQ vs) R)) a' w'->Leaves P fn a'.tmps RR a'.defers .returning w':=by
  intro hq;have hq':eJ A.n F (inp Li) w {tmps:=tm.setIfInBounds d fv,defers:=[d0]} (dQ rest) (Both G1 (fun L ρ=>gR L ρ rs fun vs=>gD Lin L (gQ vs) R)) a' w':=by
   obtain⟨F',L',ρ',g1,g2,g3,g4,g5,g6,g7⟩:=hq;exact⟨F',L',ρ',g1,g2,g3,g4,hst1.trans g5,g6,g7⟩
  obtain⟨k1,v,k2,F',Lo,k3,k4,k5⟩:=Bd hres hlL htl hGI hq';rw[k1];exact back _ _ rfl ⟨v,k2,hRR v F' Lo w' k3 k4 k5⟩
 cases e with
 | normal=>exact fin hq
 | ret=>exact fin hq
 | exit j=>obtain⟨F',L',ρ',_,_,_,_,_,_,M',τ',_,h⟩:=hq;exact h.elim
 | goto l=>exact hq.elim
 | outgrown=>exact hq.elim
 | panic ch =>
  obtain⟨v,⟨older,rfl,hold⟩,F',L',g1,g2,g3,g4,g5,kp,hp,hbL,_⟩:=hq;show Leaves P fn a'.tmps RR a'.defers _ w';rw[g4,<-hd0];obtain⟨bs',q1,q2,q3⟩:=D6 hsub hbx (fun k g t cs hk e=>kp k g t (hGL k g t cs (.inr hk) e)) hbL (fun x hx=>hx);refine leaves_cons (f:=H) (args:=(bs.map lN).toArray) (by simp) (hH.inv _ w') ?_;rw[<-q3];refine(hH.caught F' bs' v older w' hp q2 (g1.handed q1 hnd)).mono ?_;rintro e u' w6 ⟨rfl,rfl,F6,hs6,hst6⟩;show Leaves P fn a'.tmps RR [] (settle _) w6;have hset:settle (.panicking ({v,recovered:=true}::older))=.returning:=by
   have:older.dropWhile (!·.goexit)=[]:=by
    exact QG older hold
   simp only[settle,this]
  rw[hset];obtain⟨z1,z2,z3⟩:=GL (l:=out v) q2 (hout v hp);obtain⟨sl,sg⟩:=cE q1;have hkl:ks.length=(List.zipWith pQ bs' (out v)).length:=by rw[z1,sl]
  obtain⟨c1,c2⟩:=gh g1 q1 hnd hnd (fun k hk=>.inl hk) hs6 hst6 hkl;generalize hL6:(L'.aae ks).puts ks (List.zipWith pQ bs' (out v))=L6 at c1 c2;have hget:∀(i:Nat) k cs,ks[i]?=some k->(out v)[i]?=some cs->∃g t,L6.get k=some (.box g (t+1) cs)/\(∃cs',L'.get k=some (.box g (t+1) cs')):=by
   intro i k cs e1 e2;obtain⟨g,t,e3⟩:=z3 i cs e2;refine⟨g,t,by rw[<-hL6];exact eG hnd hkl e1 e3,?_⟩;have e4:=sg i k e1;have hlt:i<bs'.length:=by rw[<-z1];exact(aaR.1 e3).1
   rw[aaO hlt] at e4;have e5:(List.zipWith pQ bs' (out v))[i]?=some (pQ bs'[i] cs):=by
    rw[List.getElem?_zipWith,aaO hlt,e2]
   rw[e3] at e5;injection e5 with e5
   cases hb:bs'[i] with
   | row=>rw[hb] at e5;cases e5
   | box g' t' cs' =>
    rw[hb] at e5 e4;injection e5 with x1 x2
    subst x1 x2;exact⟨cs',e4⟩
  -- the slots that name the boxes
  let ρ6:Env:=fun j=>match fC ks j with | true=>.own j 0 | false=>.v (a'.tmps.getD j undef)
  have hkd':∀k∈ks,k∉dQ rest/\k≠d:=by
   intro k hk;have:=aaY.1 hkd k hk;simp only[v5,Bool.not_eq_true'] at this;refine⟨fun hm=>?_,fun e=>?_⟩
   ·rw[cQ.2 hm] at this;exact fL this.1.1 (by simp)
   ·subst e;simp at this
  have hslot:∀k∈ks,∃g t cs,L6.get k=some (.box g t cs)/\a'.tmps.getD k undef=.pointer (some ⟨g,0,none⟩):=by
   intro k hk;obtain⟨i,hi⟩:=abf.1 hk;have hlt:i<(out v).length:=by
    have:=(aaR.1 hi).1;have hl2:ks.length=ns.length:=by rw[<-sl];exact wX q2
    rw[hout v hp];omega
   obtain⟨g,t,e1,cs',e2⟩:=hget i k _ hi (aaO hlt);refine⟨g,t+1,_,e1,?_⟩;obtain⟨y1,y2⟩:=hkd' k hk;rw[g5 k y1];have:=he3.eq k;rw[this,put_eq];simp only[];rw[fo y2,hown k hk];simp only[conc];obtain⟨g0,t0,cs0,e0⟩:=he1.own k k 0 (hown k hk);obtain⟨cs1,e3⟩:=kp k g0 t0 (hGL k g0 t0 cs0 (.inr hk) e0);rw[e2] at e3;injection e3 with e3
   injection e3 with x1 x2 _
   subst x1;rw[e0]
  have he6:aD L6 ρ6 a':=by
   refine⟨fun j=>?_,fun j k off e=>?_,fun j ad i e=>?_⟩
   ·simp only[ρ6];cases hm:fC ks j with
    | false=>rfl
    | true =>
     obtain⟨g,t,cs,e1,e2⟩:=hslot j (cQ.1 hm);rw[e2];simp only[conc,e1]
   ·simp only[ρ6] at e;cases hm:fC ks j with
    | false=>rw[hm] at e;cases e
    | true =>
     rw[hm] at e;injection e with x1 x2
     subst x1;obtain⟨g,t,cs,e1,_⟩:=hslot j (cQ.1 hm);exact⟨g,t,cs,e1⟩
   ·simp only[ρ6] at e;cases hm:fC ks j<;>rw[hm] at e<;>cases e
  obtain⟨c,x,hrv,hrel,hlost⟩:=hcat v hp;obtain⟨us,h5,h6⟩:=D3 (K:=fun vs=>gb vs=x) c1 he6 hres (hrv L6 ρ6 fun i k cs e1 e2=>by
   obtain⟨g,t,e3,_⟩:=hget i k cs e1 e2;refine⟨?_,g,t,e3⟩;simp only[ρ6,cQ.2 (aaW e1)])
  have hst:Step F (inp Li) w F6 L6 w6:=(hst1.trans g2).trans c2;obtain⟨Lo,p1,p2,p3,p4⟩:=sK c1 hst (fun i g t cs e=>by
   have e0:(inp Li).get (1000+i)=some (.box g t cs):=by rw[aH,eu (by omega),show 1000+i-1000=i by omega];exact e
   obtain⟨cs1,e1⟩:=kp (1000+i) g t (hGI _ g t cs e0);refine⟨cs1,?_⟩;rw[<-hL6];have hni:1000+i∉ks:=by
    intro hm;have:=aaY.1 hkd _ hm;simp only[v5] at this;have:=this.2;rw[Nat.blt_eq] at this;omega
   rcases cU ks (List.zipWith pQ bs' (out v)) (L'.aae ks) (1000+i) hnd hkl with⟨q1,q2⟩ | ⟨i',q1,q2,q3⟩
   ·rw[q1,eX,fo hni];exact e1
   ·exact fL (aaW q1) hni)
  obtain⟨Mo,Lo',l1,l2,l3,l4,l5,l6⟩:=R7 hnm hlL htl p1 p2 p3 p4;refine⟨_,h5,hRR _ F6 Lo' w6 l1 l2 ⟨Mo,c,l4,l5,?_,l6,hlost Mo l3⟩⟩;rw[h6];exact hrel _ _
def tmpsOf:List Operand->Option (List Nat)
 | []=>some []
 | .tmp k::l=>match tmpsOf l with | some ks=>some (k::ks) | none=>none
 | _::_=>none
theorem Bg:∀{l:List Operand}{ks:List Nat},tmpsOf l=some ks->l=ks.map Operand.tmp
 | [],ks,h=>by simp only[tmpsOf,xo] at h;subst h;rfl
 | o::l,ks,h=>by
  cases o<;>simp only[tmpsOf,reduceCtorEq] at h;split at h
  case h_2=>cases h
  rename_i a e;injection h with h
  subst h;rw[Bg e];rfl
def Co (op:Op) (d:Nat):Bool :=
 match op with
 | .defer c=>match c.callee,c.args.toList,c.argTypes.toList with
  | .value (.tmp a),[],[]=>Nat.beq d a
  | _,_,_=>false
 | _=>false
theorem FD {op:Op}{d:Nat}(h:Co op d=true):op=.defer {callee:=.value (.tmp d),args:=#[],argTypes:=#[]}:=by
 unfold Co at h;split at h
 case h_2=>cases h
 rename_i c;split at h
 case h_2=>cases h
 rename_i m h1 e b;have:=aaQ h;subst this;obtain⟨l,k,a⟩:=c;simp only at h1 e b;subst h1;have f:k=#[]:=by apply Array.ext';exact e
 have j:a=#[]:=by apply Array.ext';exact b
 rw[f,j]
def Cp (P:Program) (A:cW) (fn:Func):Option (au×au×Nat×List Nat×Nat×List RV) :=
 match fn.body with
 | some (.seq c0 (.seq (.region _ ⟨[o1,o2]⟩ false) rest))=>match o1.op,o1.dst,o1.guard with
  | .makeFunc (.func H) ⟨[]⟩ ca,some d,none=>match Co o2.op d,o2.dst,o2.guard,tmpsOf ca.toList with
   | true,none,none,some ks=>match low P A c0,low P A rest,mV P fn.results.toList with
    | some sc0,some sc,some rs=>match fn.name == "runtime.NumGoroutine",Nat.beq fn.ntmps A.n&&Nat.blt d A.n&&aS ks,ks.all fun k=>!(fC (dQ rest) k)&&!(Nat.beq k d)&&Nat.blt k 1000 with
     | false,true,true=>some (sc0,sc,H,ks,d,rs)
     | _,_,_=>none
    | _,_,_=>none
   | _,_,_,_=>none
  | _,_,_=>none
 | _=>none
theorem gM {P:Program}{f H d:Nat}{fn:Func}{A:cW}{q sc:au}{rs:List RV}{ks ns:List Nat}{args:List C}{Lin:List TO}{R:List TO->C->Prop}{PS:Value->Prop}{out:Value->List (List Value)}
  (hf:P.funcs[f]?=some fn) (a:Cp P A fn=some (q,sc,H,ks,d,rs)) (hH:n9 P H PS ns out)
  (j:∀v,PS v->(out v).length=ns.length) (p:Nat.ble args.length A.n=true) (aa:Bf Lin=true)
  (e:∀v,PS v->∃c x,(∀(L:Loc) (ρ:Env),(∀(i:Nat) k cs,ks[i]?=some k->(out v)[i]?=some cs->ρ k=.own k 0/\∃g t,L.get k=some (.box g (t+1) cs))->nH L ρ rs (fun l=>gb l=x))/\(∀F L,Rel F L c x)/\∀Mo,Be Lin Mo->R Mo c)
  (h:uO args->(∀o∈Lin,o.Wf)->evalTC P ⟨fun _=>False,[],none⟩ q (fun _ _ _=>False) (fun _ _=>False) (fun M τ=>yJ M τ ks ns=true /\
   evalTC P ⟨PS,ks.zip ns,none⟩ sc (fun _ _ _=>False) (fun L ρ=>gR L ρ rs fun l=>gD Lin L (gQ l) R) (fun L ρ=>gR L ρ rs fun l=>gD Lin L (gQ l) R) M (bA (some d) .any τ)) (cJ Lin) (j5 0 args)) :
  CallsT P f args Lin R:=by
 unfold Cp at a;split at a
 case h_2=>cases a
 rename_i c0 r o1 o2 ad hb;split at a
 case h_2=>cases a
 rename_i H' ca d' e1 e2 e3;split at a
 case h_2=>cases a
 rename_i ab e4 e5 e6 e7;split at a
 case h_2=>cases a
 rename_i ag am aE e8 e9 s;split at a
 case h_2=>cases a
 rename_i z b y;simp only[xo,Prod.mk.injEq] at a;obtain⟨rfl,rfl,rfl,rfl,rfl,rfl⟩:=a;simp only[v5] at b;obtain⟨⟨b,m⟩,u⟩:=b;have w:ca=(ab.map Operand.tmp).toArray:=by
  have:=Bg e7;rw[<-this]
 rw[w] at e1;rw[Nat.blt_eq] at m;exact Cn hf hb z (aaQ b) e1 e2 e3 (FD e4) e5 e6 e8 e9 s hH m u y j p aa e h
end Go.Fr.T
namespace Go.Fr
open Go Go.RowKit
section
variable {P:Program}{Q:Exit->Act->World->Prop}{K:dG}
theorem noPan {n:Nat}{F:aA}{L:Loc}{w:World}{a:Act}{asg:List Nat}{E:Nat->dG}{R N:dG}{c} {a':Act}{w':World}(h:QQ n F L w a asg (fun _ _ _=>False) E R N (.panic c) a' w'):False:=by
 obtain⟨v,_,F',L',_,_,_,_,_,h⟩:=h;exact h
theorem zZ {A:cW}{r:Nat}{c:Array Oper}:∀(is:List Nat) {ss:List ak}{F:aA}{L:Loc}{ρ:Env}{a:Act}{w:World},qh P A r c is=some ss->St F L w->aD L ρ a->a.tmps.size=A.n ->
  aT P ss F L ρ K->(∀a' w',eJ A.n F L w a (dstsOf c is) K a' w'->Q .normal a' w')->wpOps P c Q is a w:=by
 intro is
 induction is with
 | nil =>
  intro ss F L ρ a w hl hs he hn l hQ;simp only[qh,xo] at hl;subst hl;exact hQ a w ⟨F,L,ρ,hs,he,hn,rfl,Step.refl _ _ _,fun _ _=>rfl,l⟩
 | cons i is ih =>
  intro ss F L ρ a w hl hs he hn l hQ;simp only[qh] at hl;split at hl
  case h_1=>cases hl
  rename_i o hi;split at hl
  case h_2=>cases hl
  rename_i g s u hg bl ao ad;injection hl with hl
  subst hl
  -- the t
  have t:∀(ks:List Nat) {F:aA}{L:Loc}{ρ:Env},St F L w->aD L ρ a->aT P (ks.map ak.frz++nu (vO A.pan r i) o.dst s g::u) F L ρ K ->
    ∃F' L' ρ',St F' L' w/\aD L' ρ' a/\Step F L w F' L' w/\aT P (nu (vO A.pan r i) o.dst s g::u) F' L' ρ' K:=by
   intro ks
   induction ks with
   | nil=>intro F L ρ hs he h;exact⟨F,L,ρ,hs,he,Step.refl _ _ _,h⟩
   | cons k ks bc =>
    intro F L ρ hs he h;simp only[aaX,aa1,aT] at h;split at h
    ·rename_i g' t' cs' hk;obtain⟨F1,bo,cb,z,q,m⟩:=sn hs he hk;obtain⟨F2,L2,ay,ax,aw,aa,h2⟩:=bc z q (h F1 bo cb);exact⟨F2,L2,ay,ax,aw,m.trans aa,h2⟩
    ·obtain⟨F1,L1,z,q,m,h1⟩:=qW hs he h;obtain⟨F2,L2,ay,ax,aw,aa,h2⟩:=bc z q h1;exact⟨F2,L2,ay,ax,aw,m.trans aa,h2⟩
  obtain⟨F1,L1,ba,z,q,m,l⟩:=t _ hs he l
  clear t
  have bp:vO A.pan r i=false:=by
   cases hb:vO A.pan r i with
   | false=>rfl
   | true=>rw[hb] at l;simp only[nu,aT] at l
  rw[bp] at l;simp only[nu] at l
  clear he
  have he:=q;have hd:∀k,o.dst=some k->k<a.tmps.size:=by
   intro k hk;rw[hk] at ao;rw[hn];have h2:Nat.blt k A.n=true:=ao;simpa using h2
  have az:dstsOf c (i::is)=match o.dst with | some d=>d::dstsOf c is | none=>dstsOf c is:=by
   simp only[dstsOf,hi,Option.bind_some];cases o.dst<;>rfl
  have ab:∀j,j∉dstsOf c (i::is)->o.dst≠some j/\j∉dstsOf c is:=by
   intro j hj;rw[az] at hj;cases ho:o.dst with
   | none=>rw[ho] at hj;exact⟨by simp,hj⟩
   | some d =>
    rw[ho] at hj;simp only[aaT,not_or] at hj;exact⟨by simp;exact fun e=>hj.1 e.symm,hj.2⟩
  have ac:evalOp P s o.dst F1 L1 ba (fun F' L' ρ'=>aT P u F' L' ρ' K)->o.wp P a w (wpOps P c Q is) Q:=by
   intro l;have:=fD (Q:=Q) z q hd bl l;refine Oper.wp_mono ?_ (qi (asg:=[]) this);rintro a' w' ⟨⟨F',L',ρ',g1,g2,g3,g4,g5,g6⟩,bs⟩;refine ih ad g1 g2 (by rw[g3,hn]) g6 ?_;rintro aE av ⟨F'',L'',ag,k1,k2,k3,k4,k5,k6,k7⟩;refine hQ aE av ⟨F'',L'',ag,k1,k2,k3,k4.trans g4,(m.trans g5).trans k5,fun j hj=>?_,k7⟩;obtain⟨n1,n2⟩:=ab j hj;rw[k6 j n2,bs j n1]
  have skip:aT P u F1 L1 (put o.dst (.v undef) ba) K->wpOps P c Q is (a.put o.dst undef) w:=by
   intro l;refine ih ad z (q.put hd (v:=undef) (x:=.v undef) rfl cC eV (tC L1)) (by rw[jK,hn]) l ?_;rintro aE av ⟨F'',L'',ag,k1,k2,k3,k4,k5,k6,k7⟩;refine hQ aE av ⟨F'',L'',ag,k1,k2,k3,k4.trans (gJ _ _ _),m.trans k5,fun j hj=>?_,k7⟩;obtain⟨n1,n2⟩:=ab j hj;rw[k6 j n2,kz n1]
  simp only[wpOps,hi];cases al:o.guard with
  | none =>
   rw[al] at hg;simp only[iB,xo] at hg;subst hg;simp only[aT] at l;rw[eu (by simp[Region.wanted,al])];exact .inl (ac l)
  | some p =>
   obtain⟨j,y⟩:=p;rw[al] at hg;simp only[iB] at hg;split at hg
   case h_2=>cases hg
   rename_i d be;injection hg with hg
   subst hg;simp only[aT] at l;split at l
   ·rename_i b hb;have f:=q.eq d;rw[hb] at f;have hy:yielded c a.tmps j=some b:=by
     simp only[yielded,be,Option.bind_some,qX f]
    have hw:Region.wanted o (yielded c a.tmps)=(b == y):=by
     simp only[Region.wanted,al,hy];cases b<;>cases y<;>rfl
    rw[hw];cases b<;>simp only[zP] at l
    ·rw[kR hb] at l;cases y
     ·exact .inl (ac l)
     ·exact skip l
    ·rw[kR hb] at l;cases y
     ·exact skip l
     ·exact .inl (ac l)
   ·rename_i vs hb;have f:=q.eq d;rw[hb] at f;have hy:yielded c a.tmps j=none:=by
     simp only[yielded,be,Option.bind_some];rw[aa6] at f;cases e:a.tmps[d]? with
     | none=>rfl
     | some v=>rw[e] at f;simp only[Option.getD_some,conc] at f;rw[f]
    have hw:Region.wanted o (yielded c a.tmps)=false:=by
     simp only[Region.wanted,al,hy];rfl
    rw[hw];exact skip l
   ·exact l.elim
theorem Cq {a:Act}{w:World}{d:List ak}{K:dG}:∀(ks:List Nat) {F:aA}{L:Loc}{ρ:Env},St F L w->aD L ρ a->aT P (ks.map ak.frz++d) F L ρ K ->
  ∃F' L' ρ',St F' L' w/\aD L' ρ' a/\Step F L w F' L' w/\aT P d F' L' ρ' K:=by
 intro ks
 induction ks with
 | nil=>intro F L ρ o he h;exact⟨F,L,ρ,o,he,Step.refl _ _ _,h⟩
 | cons k ks n =>
  intro F L ρ o he h;simp only[aaX,aa1,aT] at h;split at h
  ·rename_i t u cs' s;obtain⟨F1,p,q,m,j,b⟩:=sn o he s;obtain⟨F2,L2,f,l,e,c,r⟩:=n m j (h F1 p q);exact⟨F2,L2,f,l,e,b.trans c,r⟩
  ·obtain⟨F1,L1,m,j,b,h1⟩:=qW o he h;obtain⟨F2,L2,f,l,e,c,r⟩:=n m j h1;exact⟨F2,L2,f,l,e,b.trans c,r⟩
theorem FE {ss:List ak}{E:Nat->dG}{R N:dG}{F:aA}{L:Loc}{ρ:Env}{a:Act}{w:World}:∀(ks:List Nat),St F L w->aD L ρ a->jz P (Fh ks (.regD ss)) E R N F L ρ ->
  ∃F' L' ρ',St F' L' w/\aD L' ρ' a/\Step F L w F' L' w/\aT P ss F' L' ρ' N
 | [],c,he,h=>⟨F,L,ρ,c,he,Step.refl _ _ _,by simpa only[Fh,jz] using h⟩
 | k::l,c,he,h=>by
  simp only[Fh,jz] at h;have f:aT P ((k::l).map ak.frz++[]) F L ρ (fun F L ρ=>aT P ss F L ρ N):=by simpa only[aaX,abm] using h
  obtain⟨F1,L1,b,h1,j,e,d⟩:=Cq (k::l) c he f;simp only[aT] at d;exact⟨F1,L1,b,h1,j,e,d⟩
theorem qA {A:cW}:∀(c:Code) {z:au},low P A c=some z->∀{E:Nat->dG}{R N:dG}{F:aA}{L:Loc}{ρ:Env}{a:Act}{w:World},St F L w->aD L ρ a->a.tmps.size=A.n ->
  jz P z E R N F L ρ->c.wp P (QQ A.n F L w a (dQ c) (fun _ _ _=>False) E R N) a w:=by
 intro c
 induction c with
 | skip =>
  intro z b E R N F L ρ a w p he o m;simp only[low,xo] at b;subst b;exact wp_skip ⟨F,L,ρ,p,he,o,rfl,Step.refl _ _ _,fun _ _=>rfl,m⟩
 | label l =>
  intro z b E R N F L ρ a w p he o m;simp only[low,xo] at b;subst b;exact wp_label ⟨F,L,ρ,p,he,o,rfl,Step.refl _ _ _,fun _ _=>rfl,m⟩
 | exit id =>
  intro z b E R N F L ρ a w p he o m;simp only[low,xo] at b;subst b;exact wp_exit ⟨F,L,ρ,p,he,o,rfl,Step.refl _ _ _,fun _ _=>rfl,m⟩
 | ret =>
  intro z b E R N F L ρ a w p he o m;simp only[low,xo] at b;subst b;exact wp_ret ⟨F,L,ρ,p,he,o,rfl,Step.refl _ _ _,fun _ _=>rfl,m⟩
 | region r cz be =>
  intro z b E R N F L ρ a w p he o m;cases be with
  | false =>
   simp only[low] at b;split at b
   case h_2=>cases b
   rename_i ss cb;injection b with b;subst b
   simp only[jz] at m;exact wp_region (zZ _ cb p he o m fun a' w' h=>h)
  | true =>
   simp only[low] at b;split at b
   case h_2=>cases b
   rename_i is cl ss h1 q;split at b
   case h_2 =>
    split at b
    case h_2=>cases b
    injection b with b;subst b
    simp only[jz] at m
   rename_i h0;split at b
   case h_2=>cases b
   rename_i h3;injection b with b;subst b
   obtain⟨F1,L1,aa,ar,av,s,m⟩:=FE _ p he m;have h4:Dt A.ord r=is:=by simp only[Dt,h1]
   rw[h4] at q;exact xP q h3 ar av o m fun a' w' h=>eJ.after (asg1:=[]) s rfl (fun _ _=>rfl) h (fun _ h=>fL h List.not_mem_nil) (fun _ h=>h)
 | seq x y ag al =>
  intro z b E R N F L ρ a w p he o m;simp only[low] at b;split at b
  case h_2=>cases b
  rename_i h1 q;injection b with b;subst b
  simp only[jz] at m;refine wp_seq (wp_mono (ag h1 p he o m) ?_);intro e a1 w1 d;cases e with
  | normal =>
   obtain⟨F1,L1,aa,g1,g2,g3,g4,g5,g6,g7⟩:=d;refine wp_mono (al q g1 g2 g3 g7) ?_;intro e2 a2 w2 ao;cases e2<;>first
    | exact eJ.after g5 g4 g6 ao (fun j h=>aaU.2 (.inl h)) (fun j h=>aaU.2 (.inr h))
    | exact ao
    | exact(noPan ao).elim
  | exit id=>exact d.mono fun j h=>aaU.2 (.inl h)
  | ret=>exact d.mono fun j h=>aaU.2 (.inl h)
  | goto l=>exact d
  | panic c=>exact(noPan d).elim
  | outgrown=>exact d
 | cond c x y ag al =>
  intro z b E R N F L ρ a w p he o m;simp only[low] at b;split at b
  case h_2=>cases b
  rename_i h0 h1 q;injection b with b;subst b
  simp only[jz] at m;split at m
  case h_2=>exact m.elim
  rename_i t ht;have hc:a.eval c=.bool t:=by rw[aG h0 he,cP ht]
  refine wp_cond hc ?_;cases t
  ·simp only[zP] at m;refine wp_mono (al q p he o m) ?_;intro e a1 w1 d;cases e<;>first
    | exact d.mono fun j h=>aaU.2 (.inr h)
    | exact(noPan d).elim
    | exact d
  ·simp only[zP] at m;refine wp_mono (ag h1 p he o m) ?_;intro e a1 w1 d;cases e<;>first
    | exact d.mono fun j h=>aaU.2 (.inl h)
    | exact(noPan d).elim
    | exact d
 | block id x ih =>
  intro z b E R N F L ρ a w p he o m;simp only[low] at b;split at b
  case h_2=>cases b
  rename_i h1;injection b with b;subst b
  simp only[jz] at m;refine wp_block (wp_mono (ih h1 p he o m) ?_);intro e a1 w1 d;cases e with
  | exit j =>
   simp only[Exit.inBlock];simp only[QQ] at d
   by_cases hj:j=id
   ·subst hj;have hb:Nat.beq j j=true:=by simp
    rw[hb] at d;rw[eu rfl];exact d
   ·have hb:Nat.beq j id=false:=by
     cases h:Nat.beq j id with
     | true=>exact fL (aaQ h) hj
     | false=>rfl
    rw[hb] at d;rw[fo hj];exact d
  | normal=>exact d
  | ret=>exact d
  | goto l=>exact d
  | panic c=>exact(noPan d).elim
  | outgrown=>exact d
 | loop x ih =>
  intro z b E R N F L ρ a w p he o m;simp only[low] at b;split at b
  case h_2=>cases b
  rename_i sx h1;injection b with b;subst b
  simp only[jz] at m;obtain⟨σ,x0,Inv,ls,lv,Lf,μ,i0,i1,i2,i3,i4⟩:=m
  -- the frame at a loop's ab
  have ab:∀(y:σ) (F1:aA) (L1:Loc) (aa:Env) (a1:Act) (w1:World),(∀t,a1.tmps.getD t undef=conc L1 (aa t))->(∀j,j∉dQ x->a1.tmps.getD j undef=a.tmps.getD j undef)->holds ls ((lv y).map .v) aa ->
    aD (Lf y) (puts ls ((lv y).map .v) (qa (dQ x) (fun j=>a1.tmps.getD j undef) ρ)) a1:=by
   intro y F1 L1 aa a1 w1 bm bv hh;have bd:∀j k off,qa (dQ x) (fun j=>a1.tmps.getD j undef) ρ j=.own k off->j∉dQ x/\ρ j=.own k off:=by
    intro j k off e;simp only[qa] at e;split at e
    ·cases e
    ·rename_i hm;exact⟨fun h=>(by rw[cQ.2 h] at hm;cases hm),e⟩
   have bu:∀j ad i,qa (dQ x) (fun j=>a1.tmps.getD j undef) ρ j=.el ad i->ρ j=.el ad i:=by
    intro j ad i e;simp only[qa] at e;split at e
    ·cases e
    ·exact e
   refine⟨fun j=>?_,fun j k off e=>?_,fun j ad i e=>?_⟩
   ·rcases xI ls (lv y) aa (qa (dQ x) (fun j=>a1.tmps.getD j undef) ρ) bm hh j with⟨v,q,h3⟩ | q
    ·rw[q,h3];rfl
    ·rw[q];simp only[qa];split
     ·rfl
     ·rename_i hm;have hj:j∉dQ x:=fun h=>by rw[cQ.2 h] at hm;cases hm
      rw[bv j hj,he.eq j];cases e:ρ j with
      | v u=>rfl
      | el u i=>rfl
      | own k off =>
       obtain⟨g,ty,cs,hg⟩:=he.own j k off e;obtain⟨cs',ax⟩:=qY (i3 y) hg;simp only[conc,hg,ax]
   ·rcases oM ls (lv y) (qa (dQ x) (fun j=>a1.tmps.getD j undef) ρ) j with q | ⟨v,q⟩
    ·rw[q] at e;obtain⟨_,e'⟩:=bd j k off e;obtain⟨g,ty,cs,hg⟩:=he.own j k off e';obtain⟨cs',ax⟩:=qY (i3 y) hg;exact⟨g,ty,cs',ax⟩
    ·rw[q] at e;cases e
   ·rcases oM ls (lv y) (qa (dQ x) (fun j=>a1.tmps.getD j undef) ρ) j with q | ⟨v,q⟩
    ·rw[q] at e;exact he.el j ad i (bu j ad i e)
    ·rw[q] at e;cases e
  refine uR (fun n a1 w1=>∃(y:σ) (F1:aA),n=μ y/\F.le F1/\Inv y F1/\St F1 (Lf y) w1/\a1.tmps.size=A.n/\a1.defers=a.defers/\Step F L w F1 (Lf y) w1/\(∀j,j∉dQ x->a1.tmps.getD j undef=a.tmps.getD j undef) /\
   aD (Lf y) (puts ls ((lv y).map .v) (qa (dQ x) (fun j=>a1.tmps.getD j undef) ρ)) a1) ?_ ?_
  ·exact⟨_,x0,F,rfl,aA.le_refl F,i0,p.gives i2,o,rfl,su i2,fun _ _=>rfl,ab x0 F L ρ a w he.eq (fun _ _=>rfl) i1⟩
  ·rintro n a1 w1 ⟨y,F1,rfl,bb,ba,ar,bo,aw,s,ac,av⟩;refine wp_mono (ih h1 ar av bo (i4 y F1 _ bb ba)) ?_;intro e a2 w2 d;cases e with
   | normal =>
    obtain⟨F2,L2,bz,g1,g2,g3,g4,g5,g6,⟨y',k1,k2,k3,k4⟩⟩:=d;have am:∀j,j∉dQ x->a2.tmps.getD j undef=a.tmps.getD j undef:=fun j hj=>by rw[g6 j hj,ac j hj]
    exact⟨μ y',k4,y',F2,rfl,aA.le_trans bb g5.le,k1,g1.gives k3,g3,g4.trans aw,(s.trans g5).trans (su k3),am,ab y' F2 L2 bz a2 w2 g2.eq am k2⟩
   | exit j=>exact eJ.after s aw ac d (fun j h=>h) (fun j h=>h)
   | ret=>exact eJ.after s aw ac d (fun j h=>h) (fun j h=>h)
   | goto l=>exact d
   | panic c=>exact(noPan d).elim
   | outgrown=>exact d
 | rangeFunc f ps x y ag al=>intro z b;simp only[low] at b;cases b
 | scope x ih =>
  intro z b E R N F L ρ a w p he o m;simp only[low] at b;refine wp_scope_straight (wp_mono (ih b p he o m) ?_);intro e a1 w1 d;cases e<;>exact d
 | goto l=>intro z b;simp only[low] at b;cases b
 | refuse cy=>intro z b;simp only[low] at b;cases b
end
end Go.Fr
namespace Go.Fr.T
open Go Go.RowKit Go.Fr
theorem KH:∀{a:List Own}{ns:List Nat}{i:Nat}{o:Own},Da a ns->a[i]?=some o->∃g t cs,o=.box g t cs
 | [],ns,i,o,h,e=>by simp at e
 | b::a,[],i,o,h,e=>h.elim
 | b::a,n::ns,i,o,h,e=>by
  cases i with
  | zero =>
   simp only[aa3,xo] at e;subst e;cases b with
   | row=>exact h.1.elim
   | box g t cs=>exact⟨g,t,cs,rfl⟩
  | succ i=>exact KH h.2 (by simpa using e)
def II (n:Nat):Env:=fun j=>match Nat.blt j n with | true=>.own (1000+j) 0 | false=>.v undef
theorem N0 {a:List Own}{ns:List Nat}{m:Nat}(h:Da a ns):aD (inp a) (II a.length) {tmps:=(a.map lN).toArray++Array.replicate m undef,defers:=[]}:=by
 have f:∀j,j<a.length->∃g t cs,a[j]?=some (.box g t cs):=fun j d=>by
  obtain⟨g,t,cs,e⟩:=KH h (aaO d);exact⟨g,t,cs,by rw[aaO d,e]⟩
 have hi:∀j,(inp a).get (1000+j)=a[j]?:=fun j=>by rw[aH,eu (by omega),show 1000+j-1000=j by omega]
 refine⟨fun j=>?_,fun j k off e=>?_,fun j l i e=>?_⟩
 ·simp only[II,aa6];cases hb:Nat.blt j a.length with
  | true =>
   have b:j<a.length:=by simpa using hb
   obtain⟨g,t,cs,e⟩:=f j b;rw[Array.getElem?_append_left (by simpa using b)];simp only[conc,hi,e,List.getElem?_toArray,aa4,abo,Option.getD_some,lN]
  | false =>
   have c:¬j<a.length:=fun h=>by rw[(Nat.blt_eq ..).mpr h] at hb;cases hb
   rw[Array.getElem?_append_right (by simpa using c)];simp only[Array.getElem?_replicate,conc];split<;>rfl
 ·simp only[II] at e;split at e
  ·rename_i hb;have b:j<a.length:=by simpa using hb
   injection e with e1 e2
   subst e1;obtain⟨g,t,cs,e⟩:=f j b;exact⟨g,t,cs,by rw[hi,e]⟩
  ·cases e
 ·simp only[II] at e;split at e<;>cases e
theorem KI {P:Program}{H d r0:Nat}{fn:Func}{o:Oper}{rest:Code}{A:cW}{sc:au}{PS:Value->Prop}{ns:List Nat}{out:Value->List (List Value)}
  (hf:P.funcs[H]?=some fn) (hb:fn.body=some (.seq (.region r0 #[o] false) rest)) (hname:(fn.name == "runtime.NumGoroutine")=false) (ho:o.op=.call {callee:=.builtin .recover,args:=#[],argTypes:=#[]}) (hd:o.dst=some d) (hg:o.guard=none)
  (hnt:fn.ntmps=A.n) (hres:fn.results=#[]) (hl:low P A rest=some sc) (hdn:d<A.n) (hns:ns.length<=A.n)
  (hidle:∀(bs:List Own) (w:World),Da bs ns->CallsD P H (bs.map lN).toArray .returning w fun e u' w'=>e=.returned (.tuple #[])/\u'=.returning/\w'=w)
  (hcat:∀(F:aA) (bs:List Own) (v:Value),PS v->Da bs ns->jz P sc (fun _ _ _ _=>False) (fun _ L' _=>L'.sub (List.range' 1000 bs.length)=some (List.zipWith pQ bs (out v))) (fun _ L' _=>L'.sub (List.range' 1000 bs.length)=some (List.zipWith pQ bs (out v))) F (inp bs) (put (some d) (.v v) (II bs.length))) :
  n9 P H PS ns out:=by
 refine⟨fun cap w=>?_,hidle,fun F bs v older w hv hbx hs=>?_⟩
 ·simp[invoke];rw[iO ⟨fn,hf,by rw[hb];rfl,hname⟩]
 refine callsD_of_wpS hf hb fun c₀ cs hu=>?_;have hlen:=wX hbx;have he0:=N0 (m:=fn.ntmps-(bs.map lN).toArray.size) hbx;generalize htm:(bs.map lN).toArray++Array.replicate (fn.ntmps-(bs.map lN).toArray.size) undef=tm at he0 ⊢;have hsz:tm.size=A.n:=by
  rw[<-htm,<-hnt];simp;omega
 refine wpS_seq (wpS_region ?_);simp[wpOpsS,go_sem,recoverD,hu,ho,hd,hg,Region.wanted,Exit.thenS,hsz,hdn];have he1:=he0.put (L':=inp bs) (d:=some d) (v:=v) (x:=.v v) (fun k e=>by injection e with e;subst e;simpa[hsz] using hdn) rfl cC eV (fun k g ty cs e=>⟨cs,e⟩);refine wpS_of_wp (wp_mono (qA rest hl hs ⟨he1.eq,he1.own,he1.el⟩ (by simpa using hsz) (hcat F bs v hv hbx)) ?_);have fin:∀(a':Act) (w':World),eJ A.n F (inp bs) w {tmps:=tm.setIfInBounds d v,defers:=[]} (dQ rest) (fun _ L' _=>L'.sub (List.range' 1000 bs.length)=some (List.zipWith pQ bs (out v))) a' w' ->
   a'.defers=[]/\∃u',({c₀ with mode:=FrameMode.panicking ({v,recovered:=true}::older)}::cs:List Frame)={c₀ with mode:=u'}::cs/\∃x,(results fn a'.tmps).run P w'=.ok x w' /\
    ((Ending.returned x=.returned (.tuple #[])/\u'=.panicking ({v,recovered:=true}::older))/\∃F',St F' (inp (List.zipWith pQ bs (out v))) w'/\Step F (inp bs) w F' (inp (List.zipWith pQ bs (out v))) w'):=by
  rintro a' w' ⟨F',L',ρ',g1,g2,g3,g4,g5,g6,k1⟩;obtain⟨e1,e2⟩:=cE k1;refine⟨g4,_,rfl,.tuple #[],by simp[results,hres],⟨rfl,rfl⟩,F',g1.handed k1 List.nodup_range',?_⟩;refine⟨g5.le,g5.os,g5.tape,g5.output,g5.size,g5.same,g5.frz,fun b hb=>g5.own b ?_⟩;obtain⟨j,p,e,hb⟩:=hb;rw[aH] at e;split at e
  case isFalse=>cases e
  have hlt:j-1000<(List.zipWith pQ bs (out v)).length:=(aaR.1 e).1;have hk:(List.range' 1000 bs.length)[j-1000]?=some ((List.range' 1000 bs.length)[j-1000]'(by omega)):=aaO (by omega);exact⟨_,p,by rw[e2 _ _ hk];exact e,hb⟩
 intro e a' w' hq;cases e with
 | normal =>
  obtain⟨k1,u',k2,x,k3,⟨k4,k5⟩,k6⟩:=fin a' w' hq;exact⟨k1,u',k2,x,k3,k4,k5,k6⟩
 | ret =>
  obtain⟨k1,u',k2,x,k3,⟨k4,k5⟩,k6⟩:=fin a' w' hq;exact⟨k1,u',k2,x,k3,k4,k5,k6⟩
 | exit j=>obtain⟨F',L',ρ',_,_,_,_,_,_,h⟩:=hq;exact h.elim
 | goto l=>exact hq.elim
 | outgrown=>exact hq.elim
 | panic ch=>obtain⟨v,hch,hp⟩:=hq;obtain⟨F',L',_,_,_,_,_,hp⟩:=hp;exact hp.elim
def QH:Op->Bool
 | .call {callee:=.builtin .recover,args:=⟨[]⟩,argTypes:=⟨[]⟩}=>true
 | _=>false
def Cr (P:Program) (A:cW) (fn:Func):Option (au×Nat) :=
 match fn.body with
 | some (.seq (.region _ ⟨[o]⟩ false) rest)=>match QH o.op,o.dst,o.guard,low P A rest,fn.results with
  | true,some d,none,some sc,⟨[]⟩=>match fn.name == "runtime.NumGoroutine",Nat.beq fn.ntmps A.n&&Nat.blt d A.n with
   | false,true=>some (sc,d)
   | _,_=>none
  | _,_,_,_,_=>none
 | _=>none
theorem vX {P:Program}{H d:Nat}{fn:Func}{A:cW}{k:au}{PS:Value->Prop}{ns:List Nat}{out:Value->List (List Value)}(hf:P.funcs[H]?=some fn) (a:Cr P A fn=some (k,d)) (j:Nat.ble ns.length A.n=true)
  (c:∀(b:List Own) (w:World),Da b ns->CallsD P H (b.map lN).toArray .returning w fun e z w'=>e=.returned (.tuple #[])/\z=.returning/\w'=w)
  (f:∀(F:aA) (b:List Own) (v:Value),PS v->Da b ns->jz P k (fun _ _ _ _=>False) (fun _ L' _=>L'.sub (List.range' 1000 b.length)=some (List.zipWith pQ b (out v))) (fun _ L' _=>L'.sub (List.range' 1000 b.length)=some (List.zipWith pQ b (out v))) F (inp b) (put (some d) (.v v) (II b.length))) :
  n9 P H PS ns out:=by
 unfold Cr at a;split at a
 case h_2=>cases a
 rename_i r o l hb;split at a
 case h_2=>cases a
 rename_i d' p h1 x s m y;split at a
 case h_2=>cases a
 rename_i u h;simp only[xo,Prod.mk.injEq] at a;obtain⟨rfl,rfl⟩:=a;simp only[v5] at h;obtain⟨h,q⟩:=h;have t:o.op=.call {callee:=.builtin .recover,args:=#[],argTypes:=#[]}:=by
  unfold QH at h1;split at h1
  ·assumption
  ·cases h1
 exact KI hf hb u t x s (aaQ h) y m (by simpa using q) (aa9 j) c f
end Go.Fr.T
namespace Go.Fr
open Go Go.RowKit
mutual
def G.bulk:G->Nat
 | .int _ _=>1
 | .bool _=>1
 | .str s=>s.size+1
 | .sl _ l=>G.aai l+1
 | .st l=>G.aai l+1
def G.aai:List G->Nat
 | []=>0
 | x::l=>G.bulk x+G.aai l
end
mutual
def iI {H:Type}:DataW H->Nat
 | .lit (.string bytes)=>bytes.length+1
 | .lit _=>1
 | .nil=>1
 | .ptr d=>iI d+1
 | .slice elems spare=>eL elems+eL spare+1
 | .agg parts=>eL parts+1
 | .iface _ d=>iI d+1
 | .map entries=>lO entries+1
 | .held _=>1
def eL {H:Type}:List (DataW H)->Nat
 | []=>0
 | d::r=>iI d+eL r
def lO {H:Type}:List (Lit×DataW H)->Nat
 | []=>0
 | x::r=>sL x+lO r
def sL {H:Type}:Lit×DataW H->Nat
 | (.string bytes,d)=>bytes.length+iI d+1
 | (_,d)=>iI d+1
end
def Ok (P:Program):Nat->TypeId->G->Prop
 | 0,_,_=>False
 | n+1,t,g=>match P.underlying t with
  | some .bool=>∃b,g=.bool b
  | some (.int k)=>∃x,g=.int k x/\(Lit.int k x).wf=true
  | some .string=>∃s,g=.str s
  | some (.slice e)=>∃l,g=.sl (P.cellsOf e) l/\∀x∈l,Ok P n e x
  | some (.struct a)=>∃l,g=.st l/\l.length=a.size/\∀(i:Nat) (f:Field) (x:G),a[i]?=some f->l[i]?=some x->Ok P n f.type x
  | _=>False
def yL (P:Program):Nat->List Field->Nat->Bool
 | o,[],n=>Nat.beq o n
 | o,f::a,n=>Nat.beq f.offset o&&yL P (o+P.cellsOf f.type) a n
def Ls (P:Program) (S:List TypeId) (t:TypeId):Bool :=
 match P.underlying t with
 | some .bool=>true
 | some (.int _)=>true
 | some .string=>true
 | some (.slice e)=>fC S e&&Nat.blt 0 (P.cellsOf e)
 | some (.struct a)=>yL P 0 a.toList (P.cellsOf t)&&a.toList.all fun f=>fC S f.type
 | _=>false
def flat (P:Program) (S:List TypeId):Bool:=S.all (Ls P S)
theorem vY {Q:Nat->G->Prop}:∀(n:Nat),(∀i,i<n->∃g,Q i g)->∃l:List G,l.length=n/\∀i g,l[i]?=some g->Q i g
 | 0,_=>⟨[],rfl,fun i g h=>by simp at h⟩
 | n+1,h=>by
  obtain⟨l,h1,c⟩:=vY n (fun i hi=>h i (by omega));obtain⟨g,b⟩:=h n (by omega);refine⟨l++[g],by simp[h1],fun i x a=>?_⟩
  by_cases hi:i<l.length
  ·rw[abF hi] at a;exact c i x a
  ·rw[abG (by omega)] at a;have:i-l.length=0:=by
    cases e:i-l.length with
    | zero=>rfl
    | succ k=>rw[e] at a;simp at a
   rw[this] at a;simp only[aa3,xo] at a;subst a;have:i=n:=by omega
   subst this;exact b
theorem yM {H:Type}:∀{l:List G}{ds:List (DataW H)},l.length=ds.length->(∀(i:Nat) g d,l[i]?=some g->ds[i]?=some d->g.bulk<=iI d)->G.aai l<=eL ds
 | [],_,_,_=>by simp[G.aai]
 | x::l,[],h,_=>by simp at h
 | x::l,d::ds,h,hb=>by
  simp only[G.aai,eL];have h1:=hb 0 x d (by simp) (by simp);have e:=yM (l:=l) (ds:=ds) (by simpa using h) (fun i g c a b=>hb (i+1) g c (by simpa using a) (by simpa using b));omega
section
variable {H:Type}{enc:TypeId×Value->H}{P:Program}{w:World}{base:Nat}{spare:Nat->Bool}{held:Bool}
def qC (w:World):aA:=fun b=>w.heap[b]?
theorem Bh {a:Addr}{n:Nat}{cs:List Value}(h:w.cells? base a n=some cs) (q:0<n):cs.length=n/\dL (qC w) (some a) 0 cs:=by
 obtain⟨_,f,m⟩:=World.cells?_some h;refine⟨f,?_⟩;have h0:=m 0 q;rw[aaO (by omega)] at h0;have d:a.spot=none:=by simpa[Addr.add] using World.cell?_spot h0
 have k:∃j t l,w.heap[a.block]?=some (.cells j t l):=by
  simp only[World.cell?,Addr.add] at h0;split at h0
  ·rename_i c t l e;exact⟨c,t,l,e⟩
  ·cases h0
 obtain⟨j,t,l,hb⟩:=k;refine⟨a,j,t,l,rfl,hb,d,fun i v p=>?_⟩;have hi:i<n:=by rw[<-f];exact(aaR.1 p).1
 have:=m i hi;obtain⟨b,o,r⟩:=a;simp only at d;subst d;rw[p,dm] at this;simp only[World.cell?] at this;simp only at hb;rw[hb] at this;simpa using this
theorem CF {F:aA}{a:Addr}{n:Nat}{cs:List Value}(d:a.spot=none) (h:dL F (some (a.add n)) 0 cs):dL F (some a) n cs:=by
 obtain⟨b,o,p⟩:=a;simp only at d;subst d;rw[dm] at h;obtain⟨m,c,t,l,e,hb,f,j⟩:=h;injection e with e
 subst e;exact⟨_,c,t,l,rfl,hb,rfl,fun i v k=>by have:=j i v k;simpa[Nat.add_assoc] using this⟩
theorem Ea {F:aA}{a:Addr}{cs:List Value}(h:dL F (some a) 0 cs):a.spot=none:=by
 obtain⟨d,c,t,j,e,hb,b,f⟩:=h;injection e with e
 subst e;exact b
theorem Pj {S:List TypeId}(hS:flat P S=true):∀(q:Nat) (t:TypeId) (cs:List Value) (x:DataW H×List MemPlace),t∈S->DataW.trod enc P w base spare held q t cs=some x ->
  ∃g,Ok P q t g/\Rd (qC w) g cs/\g.bulk<=iI x.1:=by
 intro q
 induction q with
 | zero=>intro t cs x _ h;simp[DataW.trod] at h
 | succ n ih =>
  intro t cs x ht h;have hf:=aaY.1 hS t ht;simp only[Ls] at hf;split at hf
  ·rename_i c;obtain⟨b,rfl,rfl⟩:=DataW.trod_bool c h;exact⟨.bool b,by simp[Ok,c],by simp[Rd],by simp[G.bulk,iI]⟩
  ·rename_i k c;obtain⟨m,rfl,rfl,hw⟩:=DataW.trod_int c h;exact⟨.int k m,by simp[Ok,c,hw],by simp[Rd,hw],by simp[G.bulk,iI]⟩
  ·rename_i c;obtain⟨s,rfl,rfl,hw⟩:=DataW.trod_string c h;exact⟨.str s,by simp[Ok,c],by simp[Rd],by simp[G.bulk,iI]⟩
  ·rename_i e c;simp only[v5] at hf;have he:e∈S:=cQ.1 hf.1;have v:0<P.cellsOf e:=by simpa using hf.2
   rcases DataW.trod_slice c h with⟨rfl,rfl⟩ | ⟨a,len,cap,elems,bj,m,e1,rfl,rfl,hb,hl,hm,aa,ar,_,_⟩
   ·refine⟨.sl (P.cellsOf e) [],by simp[Ok,c],?_,by simp[G.bulk,G.aai,iI]⟩;rw[QB];exact⟨none,0,rfl,by simp,by simp,fun _=>⟨rfl,rfl⟩,fun j x hx=>by simp at hx⟩
   ·obtain rfl:m=n:=by omega
    have ad:0<len->a.spot=none:=by
     intro h0;have h1:=ar 0 h0;rw[aaO (by omega)] at h1;obtain⟨es,h2,h3⟩:=Option.bind_eq_some_iff.1 h1;have:=Ea (Bh h2 v).2;simpa[Addr.add] using this
    obtain⟨l,av,ae⟩:=vY (Q:=fun i g=>Ok P m e g/\(∃es,es.length=P.cellsOf e/\dL (qC w) (some a) (i*P.cellsOf e) es/\Rd (qC w) g es)/\∀y,elems[i]?=some y->g.bulk<=iI y.1) len (by
     intro i hi;have h1:=ar i hi;rw[aaO (by omega)] at h1;obtain⟨es,h2,h3⟩:=Option.bind_eq_some_iff.1 h1;obtain⟨g,g1,g2,g3⟩:=ih e es _ he h3;obtain⟨g4,g5⟩:=Bh h2 v;refine⟨g,g1,⟨es,g4,CF (ad (by omega)) g5,g2⟩,fun y r=>?_⟩;rw[aaO (by omega)] at r;injection r with r
     subst r;exact g3)
    refine⟨.sl (P.cellsOf e) l,?_,?_,?_⟩
    ·simp only[Ok,c];refine⟨l,rfl,fun x hx=>?_⟩;obtain⟨i,hi⟩:=abf.1 hx;exact(ae i x hi).1
    ·rw[QB];exact⟨some a,cap,by rw[av],by omega,hm,fun e=>(by cases e),fun j x hx=>(ae j x hx).2.1⟩
    ·simp only[G.bulk,iI];have:=yM (l:=l) (ds:=elems.map (·.1)) (by simp[av,aa]) (fun i g d hg hd=>by
      simp only[aa4,Option.map_eq_some_iff] at hd;obtain⟨y,r,rfl⟩:=hd;exact(ae i g hg).2.2 y r)
     omega
  ·rename_i fs c;simp only[v5] at hf;obtain⟨ac,an⟩:=hf;obtain⟨xs,m,e1,rfl,aa,aE,u⟩:=DataW.trod_struct c h;obtain rfl:m=n:=by omega
   have key:∀(fl:List Field) (z:List (DataW H×List MemPlace)) (o:Nat),yL P o fl (P.cellsOf t)=true->z.length=fl.length->(∀f∈fl,f.type∈S) ->
     (∀(i:Nat) f,fl[i]?=some f->DataW.trod enc P w base spare held m f.type ((cs.drop f.offset).take (P.cellsOf f.type))=z[i]?) ->
     ∃l,l.length=fl.length/\(∀(i:Nat) f g,fl[i]?=some f->l[i]?=some g->Ok P m f.type g)/\mr (qC w) l (cs.drop o)/\G.aai l<=eL (z.map (·.1)):=by
    intro fl
    induction fl with
    | nil =>
     intro z o hc _ _ _;simp only[yL] at hc;have:=aaQ hc;refine⟨[],rfl,fun i f g h=>by simp at h,?_,by simp[G.aai]⟩;simp only[mr];rw[List.drop_eq_nil_iff];omega
    | cons f fl bc =>
     intro z o hc r ab u;simp only[yL,v5] at hc;have ao:=aaQ hc.1
     match z,r with
     | y::z,r =>
      have h0:=u 0 f (by simp);simp only[aa3] at h0;obtain⟨g,g1,g2,g3⟩:=ih f.type _ _ (ab f (by simp)) h0;obtain⟨l,l1,l2,l3,l4⟩:=bc z (o+P.cellsOf f.type) hc.2 (by simpa using r) (fun f' p=>ab f' (by simp[p])) (fun i f' p=>by
       have:=u (i+1) f' (by simpa using p);simpa using this)
      refine⟨g::l,by simp[l1],fun i f' g' p al=>?_,?_,?_⟩
      ·cases i with
       | zero=>simp only[aa3,xo] at p al;subst p;subst al;exact g1
       | succ i=>exact l2 i f' g' (by simpa using p) (by simpa using al)
      ·simp only[mr];refine⟨(cs.drop o).take (P.cellsOf f.type),cs.drop (o+P.cellsOf f.type),?_,by rw[<-ao];exact g2,l3⟩;rw[<-List.drop_drop,List.take_append_drop]
      ·simp only[G.aai,aaX,eL];omega
   obtain⟨l,l1,l2,l3,l4⟩:=key fs.toList xs 0 ac (by simp[aE]) (fun f hf=>cQ.1 (aaY.1 an f hf)) (fun i f hi=>u i f (by simpa using hi));refine⟨.st l,?_,?_,?_⟩
   ·simp only[Ok,c];exact⟨l,rfl,by simpa using l1,fun i f x hi hx=>l2 i f x (by simpa using hi) hx⟩
   ·simp only[Rd];simpa using l3
   ·simp only[G.bulk,iI];omega
  ·cases hf
end
namespace Api
abbrev I (n:Int):G:=.int .i64 n
inductive Ty where
 | mk (kind id:Int) (args:List Ty)
 deriving Inhabited
def Ty.kind:Ty->Int | .mk k _ _=>k
def Ty.id:Ty->Int | .mk _ i _=>i
def Ty.args:Ty->List Ty | .mk _ _ l=>l
mutual
def Ty.g:Ty->G
 | .mk k i l=>.st [I k,I i,.sl 3 (Ty.gs l)]
def Ty.gs:List Ty->List G
 | []=>[]
 | t::l=>t.g::Ty.gs l
end
theorem Ty.aaD:∀l:List Ty,Ty.gs l=l.map Ty.g
 | []=>rfl
 | t::l=>by simp[Ty.gs,Ty.aaD l]
structure bh where
 param:Int
 trait:Int
def bh.g (b:bh):G:=.st [I b.param,I b.trait]
structure Term where
 kind:Int
 a:Int
 targets:List Int
def Term.g (x:Term):G:=.st [I x.kind,I x.a,.sl 1 (x.targets.map I)]
structure Pk where
 op:Int
 dst:Int
 a:Int
 b:Int
 n:Int
 args:List Int
 types:List Ty
def Pk.g (x:Pk):G:=.st [I x.op,I x.dst,I x.a,I x.b,I x.n,.sl 1 (x.args.map I),.sl 3 (x.types.map Ty.g)]
structure Block where
 code:List Pk
 fin:Term
def Block.g (x:Block):G:=.st [.sl 7 (x.code.map Pk.g),x.fin.g]
structure Pm where
 name:ByteArray
 module:Int
 params:Int
 bounds:List bh
 arity:Int
 result:Ty
 locals:List Ty
 blocks:List Block
 ties:List Int
def Pm.g (f:Pm):G:=.st [.str f.name,I f.module,I f.params,.sl 2 (f.bounds.map bh.g),I f.arity,f.result.g,.sl 3 (f.locals.map Ty.g),.sl 4 (f.blocks.map Block.g),.sl 1 (f.ties.map I)]
structure Variant where
 name:ByteArray
 fields:List Ty
def Variant.g (x:Variant):G:=.st [.str x.name,.sl 3 (x.fields.map Ty.g)]
structure Data where
 name:ByteArray
 module:Int
 params:Int
 variants:List Variant
 drop:Int
def Data.g (d:Data):G:=.st [.str d.name,I d.module,I d.params,.sl 2 (d.variants.map Variant.g),I d.drop]
structure Impl where
 trait:Int
 module:Int
 params:Int
 bounds:List bh
 type:Ty
 func:Int
def Impl.g (x:Impl):G:=.st [I x.trait,I x.module,I x.params,.sl 2 (x.bounds.map bh.g),x.type.g,I x.func]
structure Prog where
 modules:List ByteArray
 uses:List (List Int)
 datas:List Data
 traits:List ByteArray
 homes:List Int
 impls:List Impl
 funcs:List Pm
 main:Int
def Prog.g (p:Prog):G:=.st [.sl 1 (p.modules.map .str),.sl 1 (p.uses.map fun l=>.sl 1 (l.map I)),.sl 5 (p.datas.map Data.g),.sl 1 (p.traits.map .str),.sl 1 (p.homes.map I),.sl 8 (p.impls.map Impl.g),.sl 11 (p.funcs.map Pm.g),I p.main]
section
variable {F:aA}{cs:List Value}
end
end Api
end Go.Fr
namespace Go.Fr
open Go Go.RowKit
namespace Api
section
variable {P:Program}
def R9 (P:Program) (n:Nat):List TypeId->List G->Prop
 | [],[]=>True
 | t::ts,x::l=>Ok P n t x/\R9 P n ts l
 | _,_=>False
theorem Lu {n:Nat}:∀{fl:List Field}{l:List G},l.length=fl.length->(∀(i:Nat) (f:Field) (x:G),fl[i]?=some f->l[i]?=some x->Ok P n f.type x)->R9 P n (fl.map (·.type)) l
 | [],[],_,_=>trivial
 | [],x::l,h,_=>by simp at h
 | f::fl,[],h,_=>by simp at h
 | f::fl,x::l,h,a=>⟨a 0 f x (by simp) (by simp),Lu (by simpa using h) fun i f' c hf b=>a (i+1) f' c (by simpa using hf) (by simpa using b)⟩
theorem ok_int {n:Nat}{t:TypeId}{g:G}{k:IntKind}(h:P.underlying t=some (.int k)) (a:Ok P n t g):∃x,g=.int k x:=by
 cases n with
 | zero=>exact a.elim
 | succ n=>simp only[Ok,h] at a;obtain⟨x,h1,_⟩:=a;exact⟨x,h1⟩
theorem Sb {n:Nat}{t:TypeId}{g:G}(h:P.underlying t=some .string) (a:Ok P n t g):∃x,g=.str x:=by
 cases n with
 | zero=>exact a.elim
 | succ n=>simp only[Ok,h] at a;exact a
theorem G7 {b:Type}{f:b->G}:∀{l:List G},(∀x∈l,∃y,x=f y)->∃a:List b,l=a.map f
 | [],_=>⟨[],rfl⟩
 | x::l,h=>by
  obtain⟨y,rfl⟩:=h x (by simp);obtain⟨a,rfl⟩:=G7 (l:=l) (fun z c=>h z (by simp[c]));exact⟨y::a,rfl⟩
theorem Sc {n:Nat}{t e:TypeId}{g:G}{sz:Nat}{c:Type}{f:c->G}(h:P.underlying t=some (.slice e)) (a:P.cellsOf e=sz) (b:Ok P n t g) (he:∀m x,m<n->Ok P m e x->∃y,x=f y):∃l:List c,g=.sl sz (l.map f):=by
 cases n with
 | zero=>exact b.elim
 | succ n =>
  simp only[Ok,h] at b;obtain⟨l,rfl,d⟩:=b;obtain⟨k,rfl⟩:=G7 (f:=f) (fun x j=>he n x (by omega) (d x j));exact⟨k,by rw[a]⟩
theorem TI {n:Nat}{t:TypeId}{g:G}{c:Array Field}{ts:List TypeId}(h:P.underlying t=some (.struct c)) (b:c.toList.map (·.type)=ts) (a:Ok P n t g):∃m l,m<n/\g=.st l/\R9 P m ts l:=by
 cases n with
 | zero=>exact a.elim
 | succ n =>
  simp only[Ok,h] at a;obtain⟨l,rfl,d,e⟩:=a;subst b;exact⟨n,l,by omega,rfl,Lu (by simpa using d) fun i f x hf j=>e i f x (by simpa using hf) j⟩
def vB (P:Program) (t:TypeId) (ts:List TypeId):Bool:=match P.underlying t with | some (.struct fs)=>decide (fs.toList.map (·.type)=ts) | _=>false
def ug (P:Program) (t e sz:Nat):Bool:=match P.underlying t with | some (.slice e')=>Nat.beq e' e&&Nat.beq (P.cellsOf e) sz | _=>false
def VD (P:Program) (t:TypeId):Bool:=match P.underlying t with | some (.int .i64)=>true | _=>false
def WM (P:Program) (t:TypeId):Bool:=match P.underlying t with | some .string=>true | _=>false
theorem kO {t:TypeId}{ts:List TypeId}(h:vB P t ts=true) {n:Nat}{g:G}(a:Ok P n t g):∃m l,m<n/\g=.st l/\R9 P m ts l:=by
 simp only[vB] at h;split at h
 ·rename_i c b;exact TI b (by simpa using h) a
 ·cases h
theorem fp {t e sz:Nat}(h:ug P t e sz=true) {n:Nat}{g:G}{a:Type}{f:a->G}(b:Ok P n t g) (he:∀m x,m<n->Ok P m e x->∃y,x=f y):∃l:List a,g=.sl sz (l.map f):=by
 simp only[ug] at h;split at h
 ·rename_i j d;simp only[v5] at h;have h1:=aaQ h.1;have c:=aaQ h.2;subst h1;exact Sc d c b he
 ·cases h
theorem FJ {t:TypeId}(h:VD P t=true) {n:Nat}{g:G}(a:Ok P n t g):∃x,g=I x:=by
 simp only[VD] at h;split at h
 ·rename_i b;exact ok_int b a
 ·cases h
theorem yN {t:TypeId}(h:WM P t=true) {n:Nat}{g:G}(a:Ok P n t g):∃x,g=.str x:=by
 simp only[WM] at h;split at h
 ·rename_i b;exact Sb b a
 ·cases h
theorem Ac {n:Nat}{b:TypeId}{l:List G}(h:R9 P n [b] l):∃a,l=[a]/\Ok P n b a:=by
 match l,h with
 | [a],h=>exact⟨a,rfl,h.1⟩
theorem bq {n:Nat}{b:TypeId}{ts:List TypeId}{l:List G}(h:R9 P n (b::ts) l):∃a r,l=a::r/\Ok P n b a/\R9 P n ts r:=by
 match l,h with
 | a::r,h=>exact⟨a,r,rfl,h.1,h.2⟩
theorem TJ {t e ts:TypeId}(hi:VD P e=true) (o:vB P t [e,e,ts]=true) (j:ug P ts t 3=true):∀(n:Nat) (g:G),Ok P n t g->∃x:Ty,g=x.g:=by
 intro n
 induction n using Nat.strongRecOn with
 | _ n u =>
  intro g r;obtain⟨m,l,w,rfl,d⟩:=kO o r;obtain⟨a,l,rfl,v,d⟩:=bq d;obtain⟨b,l,rfl,hb,d⟩:=bq d;obtain⟨c,rfl,q⟩:=Ac d;obtain⟨k,rfl⟩:=FJ hi v;obtain⟨i,rfl⟩:=FJ hi hb;obtain⟨xs,rfl⟩:=fp j q (f:=Ty.g) (fun h x p s=>u h (by omega) x s);exact⟨.mk k i xs,by simp[Ty.g,Ty.aaD]⟩
structure dV where
 int:TypeId
 str:TypeId
 ints:TypeId
 strs:TypeId
 intss:TypeId
 ty:TypeId
 tys:TypeId
 bound:TypeId
 bounds:TypeId
 term:TypeId
 ins:TypeId
 inss:TypeId
 block:TypeId
 blocks:TypeId
 func:TypeId
 funcs:TypeId
 variant:TypeId
 variants:TypeId
 data:TypeId
 datas:TypeId
 impl:TypeId
 impls:TypeId
 prog:TypeId
def dV.tyOk (P:Program) (d:dV):Bool:=VD P d.int&&vB P d.ty [d.int,d.int,d.tys]&&ug P d.tys d.ty 3
def dV.aak (P:Program) (d:dV):Bool:=d.tyOk P&&WM P d.str&&ug P d.ints d.int 1&&vB P d.bound [d.int,d.int]&&ug P d.bounds d.bound 2&&vB P d.term [d.int,d.int,d.ints] &&
 vB P d.ins [d.int,d.int,d.int,d.int,d.int,d.ints,d.tys]&&ug P d.inss d.ins 7&&vB P d.block [d.inss,d.term]&&ug P d.blocks d.block 4 &&
 vB P d.func [d.str,d.int,d.int,d.bounds,d.int,d.ty,d.tys,d.blocks,d.ints]
def dV.aam (P:Program) (d:dV):Bool:=d.aak P&&ug P d.strs d.str 1&&ug P d.intss d.ints 1&&vB P d.variant [d.str,d.tys]&&ug P d.variants d.variant 2&&vB P d.data [d.str,d.int,d.int,d.variants,d.int] &&
 ug P d.datas d.data 5&&vB P d.impl [d.int,d.int,d.int,d.bounds,d.ty,d.int]&&ug P d.impls d.impl 8&&ug P d.funcs d.func 11&&vB P d.prog [d.strs,d.intss,d.datas,d.strs,d.ints,d.impls,d.funcs,d.int]
theorem dV.aas {d:dV}(h:d.aam P=true):d.aak P=true:=by
 simp only[dV.aam,v5] at h;exact h.1.1.1.1.1.1.1.1.1.1
theorem dV.aar {d:dV}(h:d.aak P=true):d.tyOk P=true:=by
 simp only[dV.aak,v5] at h;exact h.1.1.1.1.1.1.1.1.1.1
theorem dV.ty' {d:dV}(h:d.tyOk P=true) {n:Nat}{g:G}(a:Ok P n d.ty g):∃x:Ty,g=x.g:=by
 simp only[dV.tyOk,v5] at h;exact TJ h.1.1 h.1.2 h.2 n g a
theorem dV.i {d:dV}(h:d.tyOk P=true) {n:Nat}{g:G}(a:Ok P n d.int g):∃x:Int,g=I x:=by
 simp only[dV.tyOk,v5] at h;exact FJ h.1.1 a
theorem dV.aaE {d:dV}(h:d.tyOk P=true) {n:Nat}{g:G}(b:Ok P n d.tys g):∃x:List Ty,g=.sl 3 (x.map Ty.g):=by
 have a:=h;simp only[dV.tyOk,v5] at a;exact fp a.2 b fun m x _ c=>dV.ty' h c
theorem dV.bnd {d:dV}(h:d.aak P=true) {n:Nat}{g:G}(l:Ok P n d.bound g):∃x:bh,g=x.g:=by
 have hf:=h;have e:=dV.aar hf;have a:=hf;simp only[dV.aak,v5] at a;obtain⟨⟨⟨⟨⟨⟨⟨⟨⟨⟨_,k1⟩,p⟩,f⟩,v⟩,w⟩,o⟩,r⟩,k8⟩,k9⟩,k10⟩:=a;obtain⟨m,y,u,rfl,b⟩:=kO f l;obtain⟨t,s,rfl,j,c⟩:=bq b;obtain⟨v0,rfl⟩:=dV.i e j;obtain⟨q,rfl,k⟩:=Ac c;obtain⟨v1,rfl⟩:=dV.i e k;exact⟨⟨v0,v1⟩,rfl⟩
theorem dV.trm {d:dV}(h:d.aak P=true) {n:Nat}{g:G}(q:Ok P n d.term g):∃x:Term,g=x.g:=by
 have hf:=h;have b:=dV.aar hf;have a:=hf;simp only[dV.aak,v5] at a;obtain⟨⟨⟨⟨⟨⟨⟨⟨⟨⟨_,k1⟩,l⟩,v⟩,k4⟩,s⟩,t⟩,y⟩,k8⟩,k9⟩,k10⟩:=a;obtain⟨m,l0,hm,rfl,c⟩:=kO s q;obtain⟨g0,z,rfl,o,e⟩:=bq c;obtain⟨v0,rfl⟩:=dV.i b o;obtain⟨w,u,rfl,p,j⟩:=bq e;obtain⟨v1,rfl⟩:=dV.i b p;obtain⟨g2,rfl,k⟩:=Ac j;obtain⟨v2,rfl⟩:=fp l k (f:=I) fun m x _ r=>dV.i b r;exact⟨⟨v0,v1,v2⟩,rfl⟩
theorem dV.ins' {d:dV}(h:d.aak P=true) {n:Nat}{g:G}(hg:Ok P n d.ins g):∃x:Pk,g=x.g:=by
 have hf:=h;have a:=dV.aar hf;have b:=hf;simp only[dV.aak,v5] at b;obtain⟨⟨⟨⟨⟨⟨⟨⟨⟨⟨_,k1⟩,y⟩,k3⟩,k4⟩,k5⟩,r⟩,k7⟩,k8⟩,k9⟩,k10⟩:=b;obtain⟨m,l0,hm,rfl,j⟩:=kO r hg;obtain⟨g0,l1,rfl,z,k⟩:=bq j;obtain⟨v0,rfl⟩:=dV.i a z;obtain⟨g1,l2,rfl,e1,p⟩:=bq k;obtain⟨v1,rfl⟩:=dV.i a e1;obtain⟨g2,l3,rfl,u,e⟩:=bq p;obtain⟨v2,rfl⟩:=dV.i a u;obtain⟨g3,l4,rfl,e3,c⟩:=bq e;obtain⟨v3,rfl⟩:=dV.i a e3;obtain⟨g4,l5,rfl,q,o⟩:=bq c;obtain⟨t,rfl⟩:=dV.i a q;obtain⟨g5,l6,rfl,e5,l⟩:=bq o;obtain⟨s,rfl⟩:=fp y e5 (f:=I) fun m x _ hx=>dV.i a hx;obtain⟨g6,rfl,w⟩:=Ac l;obtain⟨v,rfl⟩:=dV.aaE a w;exact⟨⟨v0,v1,v2,v3,t,s,v⟩,rfl⟩
theorem dV.blk {d:dV}(h:d.aak P=true) {n:Nat}{g:G}(l:Ok P n d.block g):∃x:Block,g=x.g:=by
 have hf:=h;have q:=dV.aar hf;have a:=hf;simp only[dV.aak,v5] at a;obtain⟨⟨⟨⟨⟨⟨⟨⟨⟨⟨_,k1⟩,s⟩,r⟩,y⟩,z⟩,p⟩,j⟩,k8⟩,k9⟩,k10⟩:=a;obtain⟨m,l0,w,rfl,b⟩:=kO k8 l;obtain⟨v,u,rfl,e,c⟩:=bq b;obtain⟨v0,rfl⟩:=fp j e (f:=Pk.g) fun m x _ o=>dV.ins' hf o;obtain⟨t,rfl,k⟩:=Ac c;obtain⟨v1,rfl⟩:=dV.trm hf k;exact⟨⟨v0,v1⟩,rfl⟩
theorem dV.fn {d:dV}(h:d.aak P=true) {n:Nat}{g:G}(hg:Ok P n d.func g):∃x:Pm,g=x.g:=by
 have hf:=h;have a:=dV.aar hf;have b:=hf;simp only[dV.aak,v5] at b;obtain⟨⟨⟨⟨⟨⟨⟨⟨⟨⟨_,k1⟩,k2⟩,k3⟩,k4⟩,k5⟩,k6⟩,k7⟩,k8⟩,k9⟩,k10⟩:=b;obtain⟨m,l0,hm,rfl,k⟩:=kO k10 hg;obtain⟨g0,l1,rfl,e0,l⟩:=bq k;obtain⟨v0,rfl⟩:=yN k1 e0;obtain⟨g1,l2,rfl,e1,r⟩:=bq l;obtain⟨v1,rfl⟩:=dV.i a e1;obtain⟨g2,l3,rfl,w,j⟩:=bq r;obtain⟨v2,rfl⟩:=dV.i a w;obtain⟨g3,l4,rfl,e3,e⟩:=bq j;obtain⟨v3,rfl⟩:=fp k4 e3 (f:=bh.g) fun m x _ c=>dV.bnd hf c;obtain⟨g4,l5,rfl,t,p⟩:=bq e;obtain⟨v,rfl⟩:=dV.i a t;obtain⟨g5,l6,rfl,e5,o⟩:=bq p;obtain⟨u,rfl⟩:=dV.ty' a e5;obtain⟨g6,l7,rfl,e6,q⟩:=bq o;obtain⟨y,rfl⟩:=dV.aaE a e6;obtain⟨g7,l8,rfl,e7,s⟩:=bq q;obtain⟨z,rfl⟩:=fp k9 e7 (f:=Block.g) fun m x _ c=>dV.blk hf c;obtain⟨g8,rfl,e8⟩:=Ac s;obtain⟨v8,rfl⟩:=fp k2 e8 (f:=I) fun m x _ c=>dV.i a c;exact⟨⟨v0,v1,v2,v3,v,u,y,z,v8⟩,rfl⟩
theorem dV.aaM {d:dV}(h:d.aam P=true) {n:Nat}{g:G}(l:Ok P n d.variant g):∃x:Variant,g=x.g:=by
 have h0:=h;have hf:=dV.aas h;have e:=dV.aar hf;have a:=hf;simp only[dV.aak,v5] at a;obtain⟨⟨⟨⟨⟨⟨⟨⟨⟨⟨_,k1⟩,t⟩,s⟩,k4⟩,k5⟩,q⟩,z⟩,k8⟩,k9⟩,k10⟩:=a;simp only[dV.aam,v5] at h;obtain⟨⟨⟨⟨⟨⟨⟨⟨⟨⟨h,y⟩,p2⟩,o⟩,p4⟩,u⟩,w⟩,r⟩,p⟩,p9⟩,k⟩:=h;obtain⟨m,l0,hm,rfl,b⟩:=kO o l;obtain⟨g0,l1,rfl,f,c⟩:=bq b;obtain⟨v0,rfl⟩:=yN k1 f;obtain⟨v,rfl,j⟩:=Ac c;obtain⟨v1,rfl⟩:=dV.aaE e j;exact⟨⟨v0,v1⟩,rfl⟩
theorem dV.dat {d:dV}(h:d.aam P=true) {n:Nat}{g:G}(v:Ok P n d.data g):∃x:Data,g=x.g:=by
 have h0:=h;have hf:=dV.aas h;have e:=dV.aar hf;have a:=hf;simp only[dV.aak,v5] at a;obtain⟨⟨⟨⟨⟨⟨⟨⟨⟨⟨_,k1⟩,k2⟩,k3⟩,k4⟩,k5⟩,k6⟩,k7⟩,k8⟩,k9⟩,k10⟩:=a;simp only[dV.aam,v5] at h;obtain⟨⟨⟨⟨⟨⟨⟨⟨⟨⟨h,p1⟩,p2⟩,p3⟩,y⟩,r⟩,p6⟩,p7⟩,p8⟩,p9⟩,u⟩:=h;obtain⟨m,l0,hm,rfl,j⟩:=kO r v;obtain⟨g0,l1,rfl,s,k⟩:=bq j;obtain⟨v0,rfl⟩:=yN k1 s;obtain⟨g1,l2,rfl,t,l⟩:=bq k;obtain⟨v1,rfl⟩:=dV.i e t;obtain⟨g2,l3,rfl,q,c⟩:=bq l;obtain⟨v2,rfl⟩:=dV.i e q;obtain⟨g3,l4,rfl,z,b⟩:=bq c;obtain⟨v3,rfl⟩:=fp y z (f:=Variant.g) fun m x _ w=>dV.aaM h0 w;obtain⟨g4,rfl,o⟩:=Ac b;obtain⟨p,rfl⟩:=dV.i e o;exact⟨⟨v0,v1,v2,v3,p⟩,rfl⟩
theorem dV.imp {d:dV}(h:d.aam P=true) {n:Nat}{g:G}(z:Ok P n d.impl g):∃x:Impl,g=x.g:=by
 have h0:=h;have hf:=dV.aas h;have a:=dV.aar hf;have b:=hf;simp only[dV.aak,v5] at b;obtain⟨⟨⟨⟨⟨⟨⟨⟨⟨⟨_,k1⟩,k2⟩,k3⟩,k4⟩,k5⟩,k6⟩,k7⟩,k8⟩,k9⟩,k10⟩:=b;simp only[dV.aam,v5] at h;obtain⟨⟨⟨⟨⟨⟨⟨⟨⟨⟨h,p1⟩,p2⟩,p3⟩,p4⟩,p5⟩,p6⟩,t⟩,p8⟩,p9⟩,y⟩:=h;obtain⟨m,l0,hm,rfl,j⟩:=kO t z;obtain⟨g0,l1,rfl,u,k⟩:=bq j;obtain⟨v0,rfl⟩:=dV.i a u;obtain⟨g1,l2,rfl,v,o⟩:=bq k;obtain⟨v1,rfl⟩:=dV.i a v;obtain⟨g2,l3,rfl,s,e⟩:=bq o;obtain⟨v2,rfl⟩:=dV.i a s;obtain⟨g3,l4,rfl,e3,c⟩:=bq e;obtain⟨v3,rfl⟩:=fp k4 e3 (f:=bh.g) fun m x _ hx=>dV.bnd hf hx;obtain⟨g4,l5,rfl,p,l⟩:=bq c;obtain⟨r,rfl⟩:=dV.ty' a p;obtain⟨g5,rfl,w⟩:=Ac l;obtain⟨q,rfl⟩:=dV.i a w;exact⟨⟨v0,v1,v2,v3,r,q⟩,rfl⟩
theorem dV.prg {d:dV}(h:d.aam P=true) {n:Nat}{g:G}(hg:Ok P n d.prog g):∃x:Prog,g=x.g:=by
 have h0:=h;have hf:=dV.aas h;have j:=dV.aar hf;have b:=hf;simp only[dV.aak,v5] at b;obtain⟨⟨⟨⟨⟨⟨⟨⟨⟨⟨_,k1⟩,u⟩,k3⟩,k4⟩,k5⟩,k6⟩,k7⟩,k8⟩,k9⟩,k10⟩:=b;simp only[dV.aam,v5] at h;obtain⟨⟨⟨⟨⟨⟨⟨⟨⟨⟨h,v⟩,p2⟩,p3⟩,p4⟩,p5⟩,p6⟩,p7⟩,w⟩,p9⟩,r⟩:=h;obtain⟨m,l0,hm,rfl,k⟩:=kO r hg;obtain⟨g0,l1,rfl,e0,o⟩:=bq k;obtain⟨v0,rfl⟩:=fp v e0 (f:=G.str) fun m x _ a=>yN k1 a;obtain⟨g1,l2,rfl,e1,t⟩:=bq o;obtain⟨v1,rfl⟩:=fp p2 e1 (f:=fun(l:List Int)=>G.sl 1 (l.map I)) fun m x _ a=>fp u a (f:=I) fun m x _ a=>dV.i j a;obtain⟨g2,l3,rfl,e2,e⟩:=bq t;obtain⟨v2,rfl⟩:=fp p6 e2 (f:=Data.g) fun m x _ a=>dV.dat h0 a;obtain⟨g3,l4,rfl,e3,c⟩:=bq e;obtain⟨v3,rfl⟩:=fp v e3 (f:=G.str) fun m x _ a=>yN k1 a;obtain⟨g4,l5,rfl,y,q⟩:=bq c;obtain⟨v4,rfl⟩:=fp u y (f:=I) fun m x _ a=>dV.i j a;obtain⟨g5,l6,rfl,e5,p⟩:=bq q;obtain⟨z,rfl⟩:=fp w e5 (f:=Impl.g) fun m x _ a=>dV.imp h0 a;obtain⟨g6,l7,rfl,e6,s⟩:=bq p;obtain⟨v6,rfl⟩:=fp p9 e6 (f:=Pm.g) fun m x _ a=>dV.fn hf a;obtain⟨g7,rfl,e7⟩:=Ac s;obtain⟨v7,rfl⟩:=dV.i j e7;exact⟨⟨v0,v1,v2,v3,v4,z,v6,v7⟩,rfl⟩
end
end Api
end Go.Fr
namespace Go.Fr.T
open Go Go.RowKit Go.Fr
mutual
def rL:G->List C
 | .int k n=>[.int k n]
 | .bool b=>[.bool b]
 | .str s=>[.str s]
 | .sl _ l=>[.sl (sM l)]
 | .st l=>lB l
def sM:List G->List (List C)
 | []=>[]
 | x::l=>rL x::sM l
def lB:List G->List C
 | []=>[]
 | x::l=>rL x++lB l
end
theorem yO:∀l:List G,sM l=l.map rL
 | []=>rfl
 | x::l=>by simp only[sM,aaX,yO l]
theorem CG {a b:List C}(h:eT a=true) (k:eT b=true):eT (a++b)=true:=by
 rw[nT] at *;intro c d;rcases aaU.1 d with d | d
 ·exact h c d
 ·exact k c d
mutual
theorem CH {F:aA}:∀{g:G}{cs:List Value},Rd F g cs->g.bulk<=maxLen->aB F [] (rL g) cs/\eT (rL g)=true
 | .int k n,cs,h,hb=>by
  simp only[Rd] at h;obtain⟨rfl,h⟩:=h;simp only[rL,aB,Rel];exact⟨⟨_,_,rfl,⟨rfl,h⟩,rfl⟩,rfl⟩
 | .bool b,cs,h,hb=>by
  simp only[Rd] at h;subst h;simp only[rL,aB,Rel];exact⟨⟨_,_,rfl,rfl,rfl⟩,rfl⟩
 | .str s,cs,h,hb=>by
  simp only[Rd] at h;subst h;simp only[G.bulk] at hb;simp only[rL,aB,Rel];exact⟨⟨_,_,rfl,⟨rfl,by omega⟩,rfl⟩,rfl⟩
 | .sl sz l,cs,h,hb=>by
  simp only[Rd] at h;obtain⟨a,c,rfl,h1,h2,h3,h4⟩:=h;simp only[G.bulk] at hb;have hl:(sM l).length=l.length:=by simp[yO]
  simp only[rL,aB,Rel];refine⟨⟨_,_,rfl,⟨a,c,by rw[hl],by rw[hl];exact h1,by rw[hl];omega,fun e=>?_,sz,Bj h4 (by omega)⟩,rfl⟩,rfl⟩;obtain⟨e1,e2⟩:=h3 e;subst e1;exact⟨rfl,e2⟩
 | .st l,cs,h,hb=>by
  simp only[Rd] at h;simp only[G.bulk] at hb;simp only[rL];exact yP h (by omega)
theorem Bj {F:aA}{a:Option Addr}{sz:Nat}:∀{i:Nat}{l:List G},tK F a sz i l->G.aai l<=maxLen->gK F a sz i (sM l)
 | _,[],_,_=>by simp only[sM,gK]
 | i,x::l,h,hb=>by
  simp only[tK] at h;obtain⟨⟨es,h1,h2,h3⟩,h4⟩:=h;simp only[G.aai] at hb;obtain⟨r1,r2⟩:=CH h3 (by omega);simp only[sM,gK];exact⟨⟨es,h1,h2,r2,r1⟩,Bj h4 (by omega)⟩
theorem yP {F:aA}:∀{l:List G}{cs:List Value},mr F l cs->G.aai l<=maxLen->aB F [] (lB l) cs/\eT (lB l)=true
 | [],cs,h,_=>by simp only[mr] at h;subst h;simp only[lB,aB];exact⟨trivial,rfl⟩
 | x::l,cs,h,hb=>by
  simp only[mr] at h;obtain⟨c1,c2,rfl,h1,h2⟩:=h;simp only[G.aai] at hb;obtain⟨r1,r2⟩:=CH h1 (by omega);obtain⟨q1,q2⟩:=yP h2 (by omega);simp only[lB];exact⟨r1.append q1,CG r2 q2⟩
end
open Api
abbrev IC (n:Int):C:=.int .i64 n
def EW (l:List Int):List (List C):=l.map fun n=>[IC n]
def Lv (l:List ByteArray):List (List C):=l.map fun s=>[C.str s]
mutual
def aI:Ty->List C
 | .mk k i l=>[IC k,IC i,.sl (IX l)]
def IX:List Ty->List (List C)
 | []=>[]
 | t::l=>aI t::IX l
end
theorem Eb:∀l:List Ty,IX l=l.map aI
 | []=>rfl
 | t::l=>by simp only[IX,aaX,Eb l]
theorem iJ (t:Ty):aI t=[IC t.kind,IC t.id,.sl (t.args.map aI)]:=by
 cases t;simp only[aI,Eb,Ty.kind,Ty.id,Ty.args]
def aZ (b:bh):List C:=[IC b.param,IC b.trait]
def Lw (x:Term):List C:=[IC x.kind,IC x.a,.sl (EW x.targets)]
def Se (x:Pk):List C:=[IC x.op,IC x.dst,IC x.a,IC x.b,IC x.n,.sl (EW x.args),.sl (x.types.map aI)]
def FK (x:Block):List C:=[.sl (x.code.map Se),IC x.fin.kind,IC x.fin.a,.sl (EW x.fin.targets)]
def Sf (f:Pm):List C:=[.str f.name,IC f.module,IC f.params,.sl (f.bounds.map aZ),IC f.arity,IC f.result.kind,IC f.result.id,.sl (f.result.args.map aI),.sl (f.locals.map aI),.sl (f.blocks.map FK),.sl (EW f.ties)]
def uh (x:Variant):List C:=[.str x.name,.sl (x.fields.map aI)]
def lg (d:Api.Data):List C:=[.str d.name,IC d.module,IC d.params,.sl (d.variants.map uh),IC d.drop]
def dH (x:Impl):List C:=[IC x.trait,IC x.module,IC x.params,.sl (x.bounds.map aZ),IC x.type.kind,IC x.type.id,.sl (x.type.args.map aI),IC x.func]
def kg (p:Prog):List C:=[.sl (Lv p.modules),.sl (p.uses.map fun l=>[.sl (EW l)]),.sl (p.datas.map lg),.sl (Lv p.traits),.sl (EW p.homes),.sl (p.impls.map dH),.sl (p.funcs.map Sf),IC p.main]
theorem jr {a:Type}{f:a->G}{h:a->List C}(hf:∀x,rL (f x)=h x) (l:List a):sM (l.map f)=l.map h:=by
 rw[yO,abR];exact abV fun x _=>hf x
theorem yQ (l:List Int):sM (l.map I)=EW l:=jr (fun _=>rfl) l
theorem Sg (l:List ByteArray):sM (l.map .str)=Lv l:=jr (fun _=>rfl) l
mutual
theorem yR:∀t:Ty,rL t.g=aI t
 | .mk k i l=>by simp only[Ty.g,rL,lB,aI,G8 l,abm,aa1,abp]
theorem G8:∀l:List Ty,sM (Ty.gs l)=IX l
 | []=>rfl
 | t::l=>by simp only[Ty.gs,sM,IX,yR t,G8 l]
end
theorem CI (l:List Ty):sM (l.map Ty.g)=l.map aI:=jr yR l
theorem Bk (b:bh):rL b.g=aZ b:=rfl
theorem Ly (x:Term):rL x.g=Lw x:=by simp only[Term.g,rL,lB,Lw,yQ,abm,aa1,abp]
theorem Pn (x:Pk):rL x.g=Se x:=by simp only[Pk.g,rL,lB,Se,yQ,CI,abm,aa1,abp]
theorem IY (x:Block):rL x.g=FK x:=by simp only[Block.g,rL,lB,FK,Ly,Lw,jr Pn,abm,aa1,abp]
theorem Po (f:Pm):rL f.g=Sf f:=by simp only[Pm.g,rL,lB,Sf,yR,iJ,CI,yQ,jr Bk,jr IY,abm,aa1,abp]
theorem Ec (x:Variant):rL x.g=uh x:=by simp only[Variant.g,rL,lB,uh,CI,abm,aa1,abp]
theorem LA (x:Api.Data):rL x.g=lg x:=by simp only[Data.g,rL,lB,lg,jr Ec,abm,aa1,abp]
theorem LB (x:Impl):rL x.g=dH x:=by simp only[Impl.g,rL,lB,dH,yR,iJ,jr Bk,abm,aa1,abp]
theorem LC (x:Prog):rL x.g=kg x:=by
 simp only[Prog.g,rL,lB,kg,yQ,Sg,jr LA,jr LB,jr Po,abm,aa1,abp];rw[jr (f:=fun l=>G.sl 1 (l.map I)) (h:=fun l=>[C.sl (EW l)]) (fun l=>by simp only[rL,yQ])]
theorem cL {l:List Ty}{k:Nat}{x:Ty}{K:List C->Prop}(a:l[k]?=some x) (h:K [IC x.kind,IC x.id,.sl (x.args.map aI)]):uY (l.map aI) (k:Int) 3 K:=FC a (iJ x) rfl h
end Go.Fr.T
namespace Go.Fr.T
open Go Go.RowKit Go.Fr Go.ChangeShapes Go.WideShapes Go.ChangeAt
def Ad:G->C
 | .int k n=>.int k n
 | .bool b=>.bool b
 | .str s=>.str s
 | .sl _ l=>.sl (sM l)
 | .st l=>.agg (lB l)
def QV (P:Program):List TypeId->List G->Prop
 | [],[]=>True
 | t::ts,g::gs=>(∃n,Ok P n t g)/\QV P ts gs
 | _,_=>False
section
variable {H:Type}{enc:TypeId×Value->H}{P:Program}{W:World}
theorem uj {F:aA}{L:Loc}{c:C}{v:Value}(h:aB F L [c] [v]):Rel F L c v:=by
 simp only[aB] at h;obtain⟨x,y,e,h1,a⟩:=h;injection e with e1 e2
 subst e1;exact h1
theorem Pr {S:List TypeId}(hS:flat P S=true) {t:TypeId}(u:t∈S) {r:Reach}{y:Nat}{x:Nat->Bool}{w:Bool}{v:Value}{d:DataW H}{ps:List MemPlace}(f:Value.okWide P W r y t v)
  (h:DataW.Trod enc P W 0 x w t v d ps) (hb:iI d<=maxLen):∃n g,Ok P n t g/\Rel (qC W) [] (Ad g) v/\g.bulk<=iI d:=by
 obtain⟨o,h⟩:=h;obtain⟨g,h1,z,s⟩:=Pj hS o t _ _ u h;refine⟨o,g,h1,?_,s⟩;have p:=(CH z (abv s hb)).1;have hf:=aaY.1 hS t u;cases o with
 | zero=>exact h1.elim
 | succ n =>
 simp only[Ls] at hf;simp only[Ok] at h1;split at hf
 ·rename_i j;obtain⟨b,rfl⟩:=okWide_bool j f;simp only[j] at h1;obtain⟨q,rfl⟩:=h1;exact uj p
 ·rename_i k j;obtain⟨m,rfl⟩:=okWide_int j f;simp only[j] at h1;obtain⟨q,rfl,_⟩:=h1;exact uj p
 ·rename_i j;obtain⟨m,rfl⟩:=okWide_string j f;simp only[j] at h1;obtain⟨q,rfl⟩:=h1;exact uj p
 ·rename_i e j;obtain⟨a,l,c,rfl⟩:=okWide_slice j f;simp only[j] at h1;obtain⟨q,rfl,_⟩:=h1;exact uj p
 ·rename_i fs j;simp only[Value.okWide,j] at f;obtain⟨cs,rfl,_,_⟩:=f;simp only[j] at h1;obtain⟨l,rfl,_⟩:=h1;simp only[Ad,Rel];exact⟨cs.toList,by simp,p⟩
 ·cases hf
theorem Bl {S:List TypeId}(hS:flat P S=true) {r:Reach}{s:Nat}{m:Nat->Bool}{k:Bool}:∀{ts:List TypeId}{a:List Value}{ds:List (DataW H)}{ps:List MemPlace},(∀t∈ts,t∈S) ->
  (∀(j:Nat) t v,ts[j]?=some t->a[j]?=some v->Value.okWide P W r s t v)->DataW.TrodAll enc P W 0 m k ts a ds ps->eL ds<=maxLen ->
  ∃gs,QV P ts gs/\aB (qC W) [] (gs.map Ad) a/\G.aai gs<=eL ds
 | [],[],[],_,_,_,_,_=>⟨[],trivial,by simp only[abC,aB],by simp[G.aai]⟩
 | t::ts,v::a,d::ds,ps,f,e,⟨p,q,h1,u,_⟩,hb=>by
  simp only[eL] at hb ⊢;obtain⟨n,g,o,w,x⟩:=Pr hS (f t (by simp)) (e 0 t v rfl rfl) h1 (by omega);obtain⟨gs,k1,l,y⟩:=Bl hS (fun t c=>f t (by simp[c])) (fun j t v c b=>e (j+1) t v (by simpa using c) (by simpa using b)) u (by omega);refine⟨g::gs,⟨⟨n,o⟩,k1⟩,?_,by simp only[G.aai];omega⟩;simp only[aaX,aB];exact⟨v,a,rfl,w,l⟩
 | [],_::_,_,_,_,_,h,_=>h.elim
 | [],[],_::_,_,_,_,h,_=>h.elim
 | _::_,[],_,_,_,_,h,_=>h.elim
 | _::_,_::_,[],_,_,_,h,_=>h.elim
theorem Ae {ts:List TypeId}(k:laidOutB P=true) (c:ts.all (fun t=>P.readableRec t&&decide (t<P.types.size))=true) {W':World}(hb:Below W.heap.size W W') {f:Nat->Bool} :
  ∀{a:List Value}{ds:List (DataW H)}{ps:List MemPlace},DataW.TrodAll enc P W 0 (fun _=>true) true ts a ds ps->(∀x∈ps,x.block<W.heap.size)->(∀x∈ps,f x.block=true)->DataW.TrodAll enc P W' 0 f true ts a ds ps:=by
 induction ts with
 | nil =>
  intro a ds ps h _ _
  match a,ds,h with
  | [],[],h=>exact h
 | cons t ts m =>
  intro a ds ps h h1 j
  match a,ds,h with
  | v::a,d::ds,⟨p,q,k1,l,e⟩ =>
   subst e;simp only[abd,v5,aaZ] at c;refine⟨p,q,WideElems.Trod_stays k c.1.1 c.1.2 k1 (fun x b=>hb.same (h1 x (by simp[b]))) (fun x b=>j x (by simp[b])),m (by simpa using c.2) l (fun x b=>h1 x (by simp[b])) (fun x b=>j x (by simp[b])),rfl⟩
theorem Af {f:Func}{s:ChangeSpec}{W W':World}{args:Array Value}{v:Value}{ds gs:List (DataW H)}{a pa pv:List MemPlace}
  (o:DataW.Whole enc P f.params.toList s.vars false W args.toList ds gs a)
  (k:∀(b:Nat) (m:Nat->Bool) (w:Bool),DataW.TrodAll enc P W' b m w f.resultTypes.toList (v.resultList f.resultTypes.size) (s.fn H (ds++gs)).results [])
  (d:∀m:Nat->Bool,(∀p∈a,m p.block=true)->DataW.TrodAll enc P W' 0 m true f.params.toList args.toList (s.fn H (ds++gs)).args pa)
  (c:∀m:Nat->Bool,(∀p∈a,m p.block=true)->DataW.TrodVars enc P W' m s.vars (s.fn H (ds++gs)).vars pv)
  (l:a=pa++pv) (hb:Below W.heap.size W W')
  (q:∀(j:Nat) (t:TypeId) (r:Value),f.resultTypes[j]?=some t->(v.resultList f.resultTypes.size)[j]?=some r->Value.okWide P W' .any 0 t r) :
  s.post enc P f false true false false W args v W':=by
 have h:∀p∈a,(fun b=>decide (b<W.heap.size)) p.block=true:=fun p e=>by simpa using o.lt p e
 have u:∀p∈a,p.block<W.heap.size:=fun p e=>o.lt p e;refine⟨ds,gs,a,[],pa,pv,o,k _ _ _,d _ h,c _ h,World.keptBut_mono (fun p e=>⟨e,?_⟩) (hb.frame (·∈a)),fun _=>?_⟩
 ·rw[l,aaU] at e;exact Or.inr e
 ·obtain⟨_,_,_,_,_,x,z⟩:=o;refine⟨q,_,_,([]++pa)++pv,⟨[]++pa,pv,trodAll_append (d _ (fun _ _=>rfl)) (k _ _ _),c _ (fun _ _=>rfl),rfl,?_,?_⟩,?_⟩
  ·intro b off e;have n:MemPlace.cell b off∈a:=by rw[l];simpa using e
   rw[hb.frozen (p:=⟨b,off,none⟩) (u _ n)];exact x b off n
  ·intro y;cases y
  ·intro p e _;rw[l];simpa using e
theorem entry {f:FuncId}{ts:List TypeId}{S:List TypeId}(hS:flat P S=true) (w:∀t∈ts,t∈S) {r:Reach}{s:Nat}{args:Array Value}{ds:List (DataW H)}{ps:List MemPlace}
  (d:∀(j:Nat) t v,ts[j]?=some t->args.toList[j]?=some v->Value.okWide P W r s t v) (h:DataW.TrodAll enc P W 0 (fun _=>true) true ts args.toList ds ps) (l:eL ds<=1048576)
  (u:s6 (qC W)) (law:∀gs,QV P ts gs->G.aai gs<=1048576->CallsT P f (gs.map Ad) [] (aU [] (.bool true))) :
  Calls P f args W fun e W'=>e=.returned (.bool true)/\Below W.heap.size W W':=by
 obtain⟨gs,k1,p,z⟩:=Bl hS w d h (abv l (by decide));have q:=(law gs k1 (by omega)).out (qC W) [] args.toList rfl (fun k=>by rw[show(inp []).get k=none from rfl,show(cJ []).get k=none from rfl];trivial) p;have he:∀k,(inp []).get k=none:=fun _=>rfl;have m:St (qC W) (inp []) W:=⟨fun b o h=>h,fun k o h=>(by rw[he] at h;cases h),fun k o g h=>(by rw[he] at h;cases h),fun k k' o o' g h=>(by rw[he] at h;cases h),u⟩;refine Calls.mono (q.run W m) ?_;rintro e W' ⟨v,F',Lo,rfl,x,a,Mo,c,y,q2,n,q4,rfl,rfl⟩;simp only[Rel] at n;subst n;exact⟨rfl,a.os,a.tape,a.output,a.size,fun k l=>a.same k l (by rintro⟨_,_,h,_⟩;cases h)⟩
theorem Ag {f:FuncId}{fn:Func}{s:ChangeSpec}{S:List TypeId}{tb:TypeId}(hl:laidOutB P=true) (hS:flat P S=true) (hm:fn.params.toList.all (fun t=>S.contains t&&(P.readableRec t&&decide (t<P.types.size)))=true)
  (d:fn.resultTypes=#[tb]) (m:P.underlying tb=some .bool) (a:s.vars=[])
  (law:∀gs,QV P fn.params.toList gs->G.aai gs<=1048576->CallsT P f (gs.map Ad) [] (aU [] (.bool true)))
  {r:Reach}{b0:Nat}{args:Array Value}{ds gs:List (DataW H)}{c:List MemPlace}(h:s.fn H ds={results:=[.lit (.bool true)],args:=ds})
  (o:∀(j:Nat) t v,fn.params[j]?=some t->args[j]?=some v->Value.okWide P W r b0 t v)
  (y:DataW.Whole enc P fn.params.toList s.vars false W args.toList ds gs c) (hk:eL ds<=1048576) (hG:s6 (qC W):=by exact trivial) :
  Calls P f args W fun e W'=>∃v,e=.returned v/\s.post enc P fn false true false false W args v W':=by
 have k:=y;rw[a] at y;obtain⟨p,q,hA,hV,rfl,an,ac⟩:=y;obtain⟨rfl,rfl⟩:=trodVars_none hV;have n:=aaY.1 hm;refine(entry hS (fun t u=>by have:=n t u;simp only[v5,List.contains_iff_mem] at this;exact this.1) (fun j t v h1 h2=>o j t v (by simpa using h1) (by simpa using h2)) hA hk hG law).mono ?_;rintro e W' ⟨rfl,hb⟩;refine⟨_,rfl,Af (pa:=p) (pv:=[]) k ?_ ?_ ?_ rfl hb (ok_one d rfl (okWide_bool_mk m _))⟩
 ·intro b z hd;simp only[abm,h,d];exact trodAll_cons_mk (shut_bool m _) trodAll_mk0
 ·intro z l;simp only[abm,h];exact Ae hl (aaY.2 fun t u=>by have:=n t u;simp only[v5] at this ⊢;exact this.2) hb hA (fun x w=>k.lt x (by simp[w])) (fun x w=>l x (by simp[w]))
 ·intro z l;rw[a];simp only[abm,h];exact rfl
end
end Go.Fr.T
namespace Go.Fr.T
open Go Go.RowKit Go.Fr Go.Fr.Api
theorem Ed {P:Program}{t:TypeId}{ts:List TypeId}{gs:List G}(h:QV P (t::ts) gs):∃g r n,gs=g::r/\Ok P n t g/\QV P ts r:=by
 cases gs with
 | nil=>exact h.elim
 | cons g r=>obtain⟨⟨n,h1⟩,a⟩:=h;exact⟨g,r,n,rfl,h1,a⟩
theorem Ps {P:Program}{gs:List G}(h:QV P [] gs):gs=[]:=by
 cases gs with
 | nil=>rfl
 | cons g r=>exact h.elim
theorem G9 {l:List G}:Ad (.st l)=.agg (rL (.st l)):=by simp only[Ad,rL]
theorem Pt (x:Ty):Ad x.g=.agg (aI x):=by
 rw[<-yR];cases x;exact G9
theorem IZ (x:Prog):Ad x.g=.agg (kg x):=by
 rw[<-LC];exact G9
theorem ul {a:Sort _}{p:a->Prop}{K:Prop}(h:∃x,p x) (H:∀x,p x->K):K:=h.elim H
theorem dP {a:Type}{l:List a}{k:Nat}{K:Prop}(h:k<l.length) (H:∀x,l[k]?=some x->x∈l->K):K:=H l[k] (aaO h) (List.getElem_mem h)
theorem aX {a:Type}{l:List a}{k:Nat}{K:Prop}(h:k<l.length) (H:∀x,l[k]?=some x->x∈l->l.drop k=x::l.drop (k+1)->K):K:=H l[k] (aaO h) (List.getElem_mem h) (ab6 h)
section
variable {P:Program}{L:TL}{ρ:aM}
def Such (p:Prop):List TO->C->Prop:=fun Mo v=>Mo=[]/\∃b,v=.bool b/\(b=true->p)
theorem TN {Lin:List TO}{v:C}{p:Prop}(b:Bool) (hb:aK Lin (List.range' 1000 Lin.length) []=true) (e:v.aat.ren (bB [] 1000)=.bool b) (a:b=true->p):gD Lin L v (Such p) :=
 ⟨[],[],L,v,v,[],rfl,.inl ⟨rfl,rfl⟩,rfl,rfl,hb,fun _=>⟨rfl,b,e,a⟩⟩
end
end Go.Fr.T
namespace Go.Fr.T
open Go Go.RowKit Go.Fr
end Go.Fr.T
