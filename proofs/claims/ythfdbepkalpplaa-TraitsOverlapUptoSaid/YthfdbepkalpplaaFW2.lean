/- Part of the proofs of the statements of this seat. -/
import Derived.Test.YthfdbepkalpplaaFW1
import Derived.Tactics
import Derived.Tactics2
import Derived.Defers
import Derived.Recover
import Derived.OneCell
import Derived.ChangeArms
import Derived.DataReads
import Derived.Carry
import Derived.ChangeSame
import Derived.WalkKit
import Derived.ProofKit
import Derived.OpenShut
set_option maxRecDepth 10000
set_option linter.unusedVariables false
set_option linter.unusedSimpArgs false
namespace Go.Fr.T
open Go Go.RowKit Go.Fr
section
variable {P:Program}{G:Nat->Option (Nat×TypeId)}{F:au}{L:Loc}{ρ:Env}{M:TL}{τ:aK}
def Both (G:Nat->Option (Nat×TypeId)) (K:TK):dm:=fun F L ρ=>∃M τ,TS G F L ρ M τ/\K M τ
theorem lm {k:Nat}{a:Option Addr}{c n:Nat}{t sz:Nat}{xs:List Value}(h:L.get k=some (.row (.slice a n c) t sz n xs)):aL F L (.rw k) (.v (.slice a n c)) :=
 ⟨_,rfl,by simp only[Rel];exact⟨a,c,t,sz,n,xs,rfl,h⟩⟩
theorem Qu {g:Nat}{F':au}{t:TypeId}{cs:List C}{a:List Value}{b:Nat×Nat}(c:F' g=some (.cells a.toArray t b)) (h1:eG cs=true) (d:ay F' [] cs a):aL F' L (.pt cs 0) (.v (.pointer (some ⟨g,0,none⟩))) :=
 ⟨g,0,0,a,.inl ⟨rfl,rfl⟩,⟨0,_,t,b,c,rfl,fun i v hi=>by simpa using hi⟩,h1,d⟩
theorem jm (b:∀j,aL F L (τ j) (ρ j)) {sz:Nat}:∀{xs:List X},pR τ sz xs=true->fQ L ρ sz xs=true/\aN F sz (uz τ xs) (cellsOf L ρ xs)/\(uz τ xs).length=xs.length
 | [],_=>⟨rfl,by simp only[uz,cellsOf,aN],rfl⟩
 | x::xs,h=>by
  simp only[pR] at h;split at h
  case h_2=>cases h
  rename_i h1 d e k;obtain⟨k1,l,f⟩:=jm b h;have a:=hU b h1;have c:(aM (val L ρ x)).length=sz:=by rw[a.len];exact bW d
  refine⟨by simp only[fQ,jc c];exact k1,?_,by simp only[uz,aa7,f]⟩;simp only[uz,cellsOf,aN];exact⟨_,_,rfl,c,nE e,kN (ji k a),l⟩
theorem fZ {t:Nat}(h:RZ t=true):t<1048576/\t≠0:=by
 unfold RZ at h;split at h
 ·cases h
 ·rename_i h1;have:=aa6 h;exact⟨by omega,fun e=>by subst e;simp at h1⟩
theorem FL {t:TypeId}{x:X}{k:Nat}{K:TK}(f:TS G F L ρ M τ) (m:M.get k=none) (l:(cS τ x).okc=true) (d:t<1048576/\t≠0) (h:K (M.set k (.box t (cJ (cS τ x)))) (bg (some k) (.own k 0) τ)) (g:Nat) :
  Both G K F (L.set k (.box g t (aM (val L ρ x)))) (put (some k) (.own k 0) ρ):=by
 have b:=bY f.tl m;have a:Ext L (L.set k (.box g t (aM (val L ρ x)))):=by
  intro j p e;refine⟨p,?_,Own.aah p⟩;rw[Loc.aac,fL (by rintro rfl;rw[b] at e;cases e)];exact e
 have h1:=f.new (au.le_refl F) b (o:=.box g t (aM (val L ρ x))) (to:=.box t (cJ (cS τ x))) ⟨⟨d.1,.inl rfl,d.2⟩,(hU f.env l).ext (au.le_refl F) a⟩;exact⟨_,_,h1.put (c:=.own k 0) (sv:=.own k 0) ⟨rfl,g,t,_,by rw[Loc.aac,fo rfl]⟩ (some k),h⟩
theorem z6 {t:TypeId}{zs:List Value}{k:Nat}{K:TK}(d:TS G F L ρ M τ) (e:M.get k=none) (a:t<1048576/\t≠0) (h:K (M.set k (.box t (zs.map rz))) (bg (some k) (.own k 0) τ)) (g:Nat) :
  Both G K F (L.set k (.box g t zs)) (put (some k) (.own k 0) ρ):=by
 have b:=bY d.tl e;have h1:=d.new (au.le_refl F) b (o:=.box g t zs) (to:=.box t (zs.map rz)) ⟨⟨a.1,.inl rfl,a.2⟩,kL zs⟩;exact⟨_,_,h1.put (c:=.own k 0) (sv:=.own k 0) ⟨rfl,g,t,_,by rw[Loc.aac,fo rfl]⟩ (some k),h⟩
theorem FM {e n sz:Nat}{xs:List X}{d:Option Nat}{K:TK}(a:TS G F L ρ M τ) (l:pR τ sz xs=true) (k:xs.length=n) (p:n<=maxLen) (h:K M (bg d (.slx (uz τ xs)) τ)) {g:Nat}{F':au}(b:F.le F')
  (o:F' g=some (.cells (cellsOf L ρ xs).toArray e (0,0))):Both G K F' L (put d (.v (.slice (some ⟨g,0,none⟩) n n)) ρ):=by
 obtain⟨k1,j,f⟩:=jm a.env l;have m:dG F' (some ⟨g,0,none⟩) 0 (cellsOf L ρ xs):=⟨_,_,_,_,rfl,o,rfl,fun i v hi=>by simpa using hi⟩;refine⟨_,_,(a.mono b).put (c:=.slx (uz τ xs)) ⟨_,rfl,?_⟩ d,h⟩;simp only[Rel];exact⟨⟨g,0,none⟩,by rw[f,k],by omega,sz,(j.mono b).frz m⟩
theorem ME {e n sz:Nat}{xs:List X}{k:Nat}{K:TK}(a:TS G F L ρ M τ) (f:pR τ sz xs=true) (p:xs.length=n) (j:n<=maxLen) (m:M.get k=none) (h:K (M.set k (.row e sz (uz τ xs))) (bg (some k) (.rw k) τ)) (g:Nat) :
  Both G K F (L.set k (.row (.slice (some ⟨g,0,none⟩) n n) e sz n (cellsOf L ρ xs))) (put (some k) (.v (.slice (some ⟨g,0,none⟩) n n)) ρ):=by
 obtain⟨k1,l,d⟩:=jm a.env f;have b:=bY a.tl m;have h1:=a.new (au.le_refl F) b (o:=.row (.slice (some ⟨g,0,none⟩) n n) e sz n (cellsOf L ρ xs)) (to:=.row e sz (uz τ xs)) ⟨rfl,rfl,by rw[d,p],⟨j,_,_,rfl,fun e=>(by cases e)⟩,l⟩;exact⟨_,_,h1.put (c:=.rw k) (lm (by rw[Loc.aac,fo rfl])) (some k),h⟩
theorem rR {e sz:Nat}{k:Nat}{els b:List (List C)}{d:Option Nat}{K:TK}(n:TS G F L ρ M τ) {s:Value}{xs f:List Value}(r:L.get k=some (.row s e sz els.length xs)) (q:aN F sz els xs) (p:aN F sz b f)
  (o:els.length+b.length<=maxLen) (h:K ((M.aad (C.kill k)).set k (.row e sz (els++b))) (bg d (.rw k) fun j=>(τ j).kill k)) {v:Value}(m:∃a c,v=.slice a (els.length+b.length) c/\(a=none->els.length+b.length=0)) :
  Both G K F (L.set k (.row v e sz (els.length+b.length) (xs++f))) (put d (.v v) ρ):=by
 obtain⟨a,c,rfl,l⟩:=m;have h1:=n.aay (k:=k) (o':=.row (.slice a (els.length+b.length) c) e sz (els.length+b.length) (xs++f)) (to:=.row e sz (els++b)) (fun g t cs e=>by rw[r] at e;injection e with e;cases e)
  ⟨rfl,rfl,by simp,⟨o,a,c,rfl,l⟩,q.append p⟩
 exact⟨_,_,h1.put (c:=.rw k) (lm (by rw[Loc.aac,fo rfl])) d,h⟩
theorem qa {e sz:Nat}{k:Nat}{b:List (List C)}{d:Option Nat}{K:TK}(j:TS G F L ρ M τ) {f:List Value}(p:M.get k=none) (n:aN F sz b f)
  (q:b.length<=maxLen) (h:K (M.set k (.row e sz b)) (bg d (.rw k) τ)) {v:Value}(m:∃a c,v=.slice a (0+b.length) c/\(a=none->0+b.length=0)) :
  Both G K F (L.set k (.row v e sz (0+b.length) ([]++f))) (put d (.v v) ρ):=by
 obtain⟨a,c,rfl,l⟩:=m;have h1:=j.new (au.le_refl F) (bY j.tl p) (o:=.row (.slice a (0+b.length) c) e sz (0+b.length) ([]++f)) (to:=.row e sz b) ⟨rfl,rfl,by simp,⟨by omega,a,c,rfl,l⟩,n⟩;exact⟨_,_,h1.put (c:=.rw k) (lm (by rw[Loc.aac,fo rfl])) d,h⟩
theorem tq {x:X}{k e sz:Nat}{els:List (List C)}(d:TS G F L ρ M τ) (p:cS τ x=.rw k) (q:M.get k=some (.row e sz els)) :
  ∃a c xs,ev ρ x=.v (.slice a els.length c)/\L.get k=some (.row (.slice a els.length c) e sz els.length xs)/\aN F sz els xs/\els.length<=maxLen:=by
 obtain⟨a,c,r,o,n,j,m,f⟩:=EG d.env p;obtain⟨v,xs,b,⟨h,_⟩,l⟩:=lY d.tl q;rw[f] at b;injection b with b
 injection b with q1 q2 q3 q4 q5
 subst q2 q3 q4 q5;exact⟨a,c,_,m,f,l,h⟩
set_option maxHeartbeats 1000000 in
theorem C4 {e sz b:Nat}{s x:X}{d:Option Nat}{K:TK}(l:TS G F L ρ M τ) (h:Mq e sz b (cS τ s) (cS τ x) d M τ K):∃sv xv,ev ρ s=.v sv/\ev ρ x=.v xv/\Fw F L e sz b sv xv fun L1 v=>Both G K F L1 (Fr.put d (.v v) ρ):=by
 have he:=l.env;simp only[Mq,fV] at h;split at h
 ·rename_i k f hs n;split at h
  case h_2=>exact h.elim
  rename_i e' bs els p;split at h
  case h_2=>exact h.elim
  rename_i h1 h2;obtain rfl:=aaO h1;obtain rfl:=aaO h2;obtain⟨g1,m,q,g4⟩:=h;obtain⟨a,c,xs,e1,e2,hr,hm⟩:=tq l hs p;obtain⟨a',r,ar,e3,e4,e5,e6,e7⟩:=lg he n;obtain⟨w,y1,y2,y3⟩:=jl e7 g1;exact⟨_,_,e1,e3,k,els.length,xs,f.length,w,.inl e2,⟨a',r,rfl,y1,y2.imp id .inl⟩,y3.ones,m,q,fun v y=>rR l e2 hr y3 m g4 y⟩
 ·rename_i f k hs n;split at h
  case h_2=>exact h.elim
  rename_i p;obtain⟨g1,m,q,g4⟩:=h;obtain⟨a',r,ar,e3,e4,e5,e6,e7⟩:=lg he n;obtain⟨w,y1,y2,y3⟩:=jl e7 g1;simp only[abJ] at m q;exact⟨_,_,s5 he hs,e3,k,0,[],f.length,w,.inr (.inl ⟨bY l.tl p,rfl,rfl,rfl⟩),⟨a',r,rfl,y1,y2.imp id .inl⟩,y3.ones,m,q,fun v y=>qa l p y3 (by omega) g4 y⟩
 ·rename_i els f k hs n;split at h
  case h_2=>exact h.elim
  rename_i p;obtain⟨g0,ba,g1,m,q,g4⟩:=h;obtain⟨a,ce,e1,hm,e2⟩:=Bu he hs;obtain⟨a',r,ar,e3,e4,e5,e6,e7⟩:=lg he n;obtain⟨w,y1,y2,y3⟩:=jl e7 g1;obtain⟨xs,x1,x2,x3⟩:=jl e2 ba;refine⟨_,_,e1,e3,k,els.length,xs,f.length,w,.inr (.inr ⟨bY l.tl p,a,rfl,g0,x1,x2⟩),⟨a',r,rfl,y1,y2.imp id .inl⟩,y3.ones,m,q,fun v y=>?_⟩;obtain⟨av,cv,rfl,hn⟩:=y;have h1:=l.new (au.le_refl F) (bY l.tl p) (o:=.row (.slice av (els.length+f.length) cv) e sz (els.length+f.length) (xs++w)) (to:=.row e sz (els++f)) ⟨rfl,rfl,by simp,⟨m,av,cv,rfl,hn⟩,x3.append y3⟩;exact⟨_,_,h1.put (c:=.rw k) (lm (by rw[Loc.aac,fo rfl])) _,g4⟩
 ·rename_i k k' hs n;have n:=Bt n;split at h
  case h_2=>exact h.elim
  rename_i e' bs els bo aw f p t;split at h
  case h_2=>exact h.elim
  rename_i h1 h2 h3;obtain rfl:=aaO h1;obtain rfl:=aaO h2;obtain rfl:=aaO h3;obtain⟨g1,m,q,g4⟩:=h;obtain⟨a,c,xs,e1,e2,hr,hm⟩:=tq l hs p;obtain⟨a',r,w,e3,e4,j,bk⟩:=tq l n t;refine⟨_,_,e1,e3,k,els.length,xs,f.length,w,.inl e2,⟨a',r,rfl,gZ j,?_⟩,j.ones,m,q,fun v y=>rR l e2 hr j m g4 y⟩;cases a' with
  | some ad=>exact .inr (.inr ⟨k',_,_,_,_,_,ad,r,e4,rfl,rfl,fun i u hu=>hu⟩)
  | none =>
   obtain⟨v,bc,z,⟨_,a2,c2,q2,q3⟩,q4⟩:=lY l.tl t;rw[e4] at z;injection z with z
   injection z with r1 r2 r3 r4 r5
   rw[<-r1] at q2;injection q2 with q2
   have hz:=q3 q2.symm;have hl:=gZ j;refine .inr (.inl ⟨hz,List.length_eq_zero_iff.1 (by rw[hl,hz];simp)⟩)
 ·rename_i k' k hs n;have n:=Bt n;split at h
  case h_2=>exact h.elim
  rename_i bo aw f p t;split at h
  case h_2=>exact h.elim
  rename_i h3;obtain rfl:=aaO h3;obtain⟨g1,m,q,g4⟩:=h;obtain⟨a',r,w,e3,e4,j,bk⟩:=tq l n t;simp only[abJ] at m q;refine⟨_,_,s5 he hs,e3,k,0,[],f.length,w,.inr (.inl ⟨bY l.tl p,rfl,rfl,rfl⟩),⟨a',r,rfl,gZ j,?_⟩,j.ones,m,q,fun v y=>qa l p j (by omega) g4 y⟩;cases a' with
  | some ad=>exact .inr (.inr ⟨k',_,_,_,_,_,ad,r,e4,rfl,rfl,fun i u hu=>hu⟩)
  | none =>
   obtain⟨v,bc,z,⟨_,a2,c2,q2,q3⟩,q4⟩:=lY l.tl t;rw[e4] at z;injection z with z
   injection z with r1 r2 r3 r4 r5
   rw[<-r1] at q2;injection q2 with q2
   have hz:=q3 q2.symm;have hl:=gZ j;refine .inr (.inl ⟨hz,List.length_eq_zero_iff.1 (by rw[hl,hz];simp)⟩)
 ·exact h.elim
theorem MF {e sz b:Nat}{zs:List Value}{s x:X}{d:Option Nat}{K:TK}(f:TS G F L ρ M τ) (h:bN P (.app e sz b zs s x) d M τ K):evalOp P (.app e sz b zs s x) d F L ρ (Both G K):=by
 obtain⟨sv,k,c,j,a⟩:=C4 f h;simp only[evalOp,c,j];exact a
theorem JH {e sz b:Nat}{zs:List Value}{s x:X}{d:Option Nat}{K:TK}(k:TS G F L ρ M τ) (h:bN P (.appX e sz b zs s x) d M τ K):evalOp P (.appX e sz b zs s x) d F L ρ (Both G K):=by
 obtain⟨sv,u,r,t,⟨q,n,xs,m,a,h1,f,l,o,j,p⟩⟩:=C4 k h;simp only[evalOp,r,t];exact⟨q,n,xs,m,a,h1,f,l,o,j,fun v c _=>p v c⟩
set_option maxHeartbeats 1000000 in
theorem JI {e sz b:Nat}{zs:List Value}{s x:X}{d:Option Nat}{K:TK}(j:TS G F L ρ M τ) (h:bN P (.appD e sz b zs s x) d M τ K):evalOp P (.appD e sz b zs s x) d F L ρ (Both G K):=by
 have z:=j.env;simp only[bN,fV,eX,eO] at h;simp only[evalOp];split at h
 ·rename_i k f u hx;split at h
  case h_2=>exact h.elim
  rename_i e' be els m;split at h
  case h_2=>exact h.elim
  rename_i h1 h2;obtain rfl:=aaO h1;obtain rfl:=aaO h2;obtain⟨y,l,p,q⟩:=h;obtain⟨a,c,xs,e1,e2,hr,hm⟩:=tq j u m;obtain⟨a',w,t,e3,e4,e5,e6,e7⟩:=lg z hx;obtain⟨n,y1,y2,y3⟩:=jl e7 y;rw[e1,e3];exact⟨k,els.length,xs,f.length,n,.inl e2,⟨a',w,rfl,y1,y2⟩,y3.ones,l,p,fun v r _=>rR j e2 hr y3 l q r⟩
 ·rename_i f k u hx;split at h
  case h_2=>exact h.elim
  rename_i m;obtain⟨y,l,p,q⟩:=h;obtain⟨a',w,t,e3,e4,e5,e6,e7⟩:=lg z hx;obtain⟨n,y1,y2,y3⟩:=jl e7 y;simp only[abJ] at l p;rw[s5 z u,e3];exact⟨k,0,[],f.length,n,.inr (.inl ⟨rfl,bY j.tl m,rfl,rfl,rfl⟩),⟨a',w,rfl,y1,y2⟩,y3.ones,l,p,fun v r _=>qa j m y3 (by omega) q r⟩
 ·rename_i els f k u hx;split at h
  case h_2=>exact h.elim
  rename_i m;obtain⟨g0,ae,y,l,p,q⟩:=h;obtain⟨a,aw,e1,hm,e2⟩:=Bu z u;obtain⟨a',w,t,e3,e4,e5,e6,e7⟩:=lg z hx;obtain⟨n,y1,y2,y3⟩:=jl e7 y;obtain⟨xs,x1,x2,x3⟩:=jl e2 ae;rw[e1,e3];refine⟨k,els.length,xs,f.length,n,.inr (.inr ⟨rfl,bY j.tl m,a,rfl,g0,x1,x2⟩),⟨a',w,rfl,y1,y2⟩,y3.ones,l,p,fun v r _=>?_⟩;obtain⟨av,cv,rfl,hn⟩:=r;have h1:=j.new (au.le_refl F) (bY j.tl m) (o:=.row (.slice av (els.length+f.length) cv) e sz (els.length+f.length) (xs++n)) (to:=.row e sz (els++f)) ⟨rfl,rfl,by simp,⟨l,av,cv,rfl,hn⟩,x3.append y3⟩;exact⟨_,_,h1.put (c:=.rw k) (lm (by rw[Loc.aac,fo rfl])) _,q⟩
 ·exact h.elim
theorem z7 {n:Nat}{y x:X}{d:Option Nat}{K:TK}(s:TS G F L ρ M τ) (h:storeT false n y x d M τ K):evalOp P (.store n y x) d F L ρ (Both G K):=by
 have he:=s.env;simp only[storeT,fV,eX,eO] at h;simp only[evalOp];split at h
 ·rename_i k off h1 h2 w hy;split at h
  case h_2=>exact h.elim
  rename_i t cs hk;split at h
  case h_2=>exact h.elim
  rename_i hl;obtain⟨g,ty,vs,hL,q,r⟩:=kS s.tl hk;have l:=hU he h1;have p:gQ (aM (val L ρ x)) n=true:=jc (by rw[l.len];exact bW h2);have ho:=wm (nF l w);rw[p,ho,(iY he hy).1];simp only[hL];have az:=(q.drop off).take n;rw[nZ r.2.2 (jc (by rw[az.len];exact bW hl))];have h4:=s.turn (o':=.box g ty (bO vs off (aM (val L ρ x)))) (to:=.box t (iX cs off (cJ (cS τ x)))) hL ⟨rfl,rfl⟩ (fun g' t' cs' e=>by injection e with a b c;subst a b;exact⟨_,rfl⟩)
   (fun L' hx=>⟨r,(mH q l).ext (au.le_refl F) hx⟩)
  exact⟨_,_,h4.put (c:=.und) (sv:=.v undef) ⟨_,rfl,by simp only[Rel]⟩ d,h⟩
 ·rename_i k j off h1 h2 w hy;split at h
  case h_2=>exact h.elim
  rename_i t sz els h0 hk hp;obtain⟨r0,es,r1,r2,r3⟩:=h;obtain⟨ad,t',f,m,c,ao,e1,e2⟩:=wk he hy;obtain⟨v,xs,e3,⟨hm,q6⟩,q⟩:=lY s.tl hk;rw[e2] at e3;injection e3 with e3
  injection e3 with q1 q2 q3 q4 q5
  subst q1 q2 q3 q4 q5;have l:=hU he h1;have o:(aM (val L ρ x)).length=n:=by rw[l.len];exact bW h2
  have p:gQ (aM (val L ρ x)) n=true:=jc o;have ho:=wm (nF l w);rw[p,ho,e1];have be:es.length=f:=by
   obtain⟨us,u1,_,u3,_⟩:=q.at r1;rw[<-u1,u3.len]
  have hn:off+n<=f:=aa6 r0;have u:=q.set (ds:=(cJ (cS τ x)).map C.can) (us:=aM (val L ρ x)) (off:=off) r1 (by rw[o];exact hn) (kN (ji hp l)) (nE w);have z:j<els.length:=(aaR.1 r1).1;have am:=gZ q;have h4:=s.turn (o':=.row (.slice (some ad) els.length c) t' f els.length (bO ao (j*f+off) (aM (val L ρ x)))) (to:=.row t' f (els.set j (iX es off ((cJ (cS τ x)).map C.can)))) e2 ⟨rfl,rfl,rfl⟩
   (fun g' bk cs' e=>by cases e) (fun L' hx=>⟨rfl,rfl,by simp,⟨hm,_,_,rfl,fun e=>(by cases e)⟩,u⟩)
  refine⟨k,_,_,_,_,_,ad,c,e2,rfl,rfl,?_,nF l w,_,_,h4.put (c:=.und) (sv:=.v undef) ⟨_,rfl,by simp only[Rel]⟩ d,r3 es r1⟩;rw[am,o];have:(j+1)*f<=els.length*f:=Nat.mul_le_mul_right _ z;rw[Nat.add_mul] at this;omega
 ·exact h.elim
theorem xG {n:Nat}{y x:X}{d:Option Nat}{K:TK}(l:TS G F L ρ M τ) (h:storeT true n y x d M τ K):evalOp P (.storeD n y x) d F L ρ (Both G K):=by
 have r:=l.env;simp only[storeT,fV,eX,eO] at h;simp only[evalOp];split at h
 ·rename_i k off h1 s z u;split at h
  case h_2=>exact h.elim
  rename_i t cs hk;split at h
  case h_2=>exact h.elim
  rename_i hl;obtain⟨g,ty,w,q,p,f⟩:=kS l.tl hk;have j:=hU r h1;have m:gQ (aM (val L ρ x)) n=true:=jc (by rw[j.len];exact bW s);have ho:=wm (nF j z);rw[m,ho,(iY r u).1];simp only[q];have o:=(p.drop off).take n;rw[nZ f.2.2 (jc (by rw[o.len];exact bW hl))];have h4:=l.turn (o':=.box g ty (bO w off (aM (val L ρ x)))) (to:=.box t (iX cs off (cJ (cS τ x)))) q ⟨rfl,rfl⟩ (fun g' t' cs' e=>by injection e with a b c;subst a b;exact⟨_,rfl⟩)
   (fun L' hx=>⟨f,(mH p j).ext (au.le_refl F) hx⟩)
  exact⟨_,_,h4.put (c:=.und) (sv:=.v undef) ⟨_,rfl,by simp only[Rel]⟩ d,h⟩
 ·exact h.elim
 ·exact h.elim
theorem Ht {e sz b:Nat}{zs:List Value}{l c:X}{d:Option Nat}{K:TK}(j:TS G F L ρ M τ) (h:bN P (.makeS e sz b zs l c) d M τ K):evalOp P (.makeS e sz b zs l c) d F L ρ (Both G K):=by
 have q:=j.env;simp only[bN,fV,eX,eO] at h;simp only[evalOp];split at h
 case h_2=>exact h.elim
 rename_i k1 n k2 m k y v;split at h
 case h_2=>exact h.elim
 rename_i hk h1 w;rw[(gA q y).1,(gA q v).1];have f:=bY j.tl hk;simp only[f];obtain⟨z,r,g3,p,t⟩:=h;refine⟨z,r,g3,p,fun g=>?_⟩;have u:ay F [] ((zs.map rz).map C.can) zs:=kN (kL zs);have a:∀i:Nat,aN F sz (List.replicate i ((zs.map rz).map C.can)) (List.replicate i zs).flatten:=by
  intro i
  induction i with
  | zero=>simp only[List.replicate_zero,List.flatten_nil,aN]
  | succ i s =>
   simp only[ab0,List.flatten_cons,aN];exact⟨zs,_,rfl,by have:=bW h1;simpa using this,nE w,u,s⟩
 have x:=j.new (au.le_refl F) f (o:=.row (.slice (some ⟨g,0,none⟩) n.toNat m.toNat) e sz n.toNat (List.replicate n.toNat zs).flatten) (to:=.row e sz (List.replicate n.toNat ((zs.map rz).map C.can)))
  ⟨rfl,rfl,by simp,⟨abz (Int.toNat_le_toNat r) p,_,_,rfl,fun e=>(by cases e)⟩,a _⟩
 exact⟨_,_,x.put (c:=.rw k) (lm (by rw[Loc.aac,fo rfl])) (some k),t⟩
end
section
variable {P:Program}{G:Nat->Option (Nat×TypeId)}{F:au}{L:Loc}{ρ:Env}{M:TL}{τ:aK}
theorem Bw:∀{ks:List Nat}{i j m:Nat},bh ks i j=some m->∃n,ks[n]?=some j/\m=i+n
 | [],_,_,_,h=>by simp[bh] at h
 | k::ks,i,j,m,h=>by
  simp only[bh] at h;cases a:Nat.beq j k with
  | true =>
   have:=aaO a;subst this;rw[a] at h;injection h with h
   exact⟨0,by simp,by omega⟩
  | false =>
   rw[a] at h;obtain⟨n,h1,b⟩:=Bw h;exact⟨n+1,by simpa using h1,by omega⟩
theorem nI {ko:List Nat}{j m:Nat}(h:aH ko j=some m):1000<=j/\ko[j-1000]?=some m:=by
 simp only[aH] at h;split at h
 ·rename_i h1;exact⟨aa6 h1,h⟩
 ·cases h
theorem cP:∀{l:List Nat},aP l=true->l.Nodup
 | [],_=>List.nodup_nil
 | k::l,h=>by
  simp only[aP] at h;split at h
  ·cases h
  ·rename_i h1;exact List.nodup_cons.2 ⟨fun a=>(by rw[cN.2 a] at h1;cases h1),cP h⟩
theorem JJ {L':Loc}{f:Nat->Option Nat}(d:∀j m,f j=some m->∀o,L.get j=some o->L'.get m=some o) (c:C) (v:Value) (k:c.leaf=true) (h:Rel F L c v):Rel F L' (wg f c) v:=by
 cases c<;>simp only[C.leaf,aa1] at k<;>simp only[wg]
 case rw j =>
  simp only[Rel] at h;obtain⟨a,c,t,sz,n,xs,rfl,h⟩:=h;cases b:f j with
  | none=>simp only[Rel]
  | some m=>simp only[Rel];exact⟨a,c,t,sz,n,xs,rfl,d j m b _ h⟩
 case own j off =>
  simp only[Rel] at h;obtain⟨g,t,cs,h,rfl⟩:=h;cases b:f j with
  | none=>simp only[Rel]
  | some m=>simp only[Rel];exact⟨g,t,cs,d j m b _ h,rfl⟩
 case mpr j =>
  simp only[Rel] at h;obtain⟨g,cs,h,rfl⟩:=h;cases b:f j with
  | none=>simp only[Rel]
  | some m=>simp only[Rel];exact⟨g,cs,d j m b _ h,rfl⟩
 case ownv=>exact h.elim
 case elr=>exact h.elim
 all_goals
  exact bD (au.le_refl F) (fun l e=>by rcases e with⟨off,e⟩ | e | e<;>cases e) rfl h
theorem Rel.ren {L':Loc}{f:Nat->Option Nat}(a:∀j m,f j=some m->∀o,L.get j=some o->L'.get m=some o) {c:C}{v:Value}(h:Rel F L c v):Rel F L' (c.ren f) v:=Rel.mp (JJ a) 3 h
theorem cE.ren {L':Loc}{f:Nat->Option Nat}(d:∀j m,f j=some m->∀o,L.get j=some o->L'.get m=some o):∀{o:TO}{p:Own},cE F L o p->cE F L' (o.aad (C.ren f)) p
 | .box t cs,.box g a b,r=>⟨r.1,r.2.map fun c _ v h=>h.ren d⟩
 | .row t sz els,.row v a e n xs,r=>r
 | .box _ _,.row ..,r=>r.elim
 | .row ..,.box ..,r=>r.elim
 | .map _,.row ..,r=>r.elim
 | .map es,.box g a b,r=>r
theorem j4 (e:bK F L M):∀{ks:List Nat}{Lin:List TO},M.sub ks=some Lin->∃Li,L.sub ks=some Li/\Li.length=Lin.length/\∀(i:Nat) o p,Lin[i]?=some o->Li[i]?=some p->cE F L o p
 | [],Lin,h=>by simp only[TL.sub,vz] at h;subst h;exact⟨[],rfl,rfl,by simp⟩
 | k::ks,Lin,h=>by
  simp only[TL.sub] at h;split at h
  case h_2=>cases h
  rename_i o l h1 m;injection h with h
  subst h;obtain⟨Li,q,j,r⟩:=j4 e m;rcases dR (e k) with⟨a,f⟩ | ⟨o',p,a,f,n⟩
  ·rw[h1] at a;cases a
  ·rw[h1] at a;injection a with a
   subst a;refine⟨p::Li,by simp only[Loc.sub,f,q],by simp[j],fun i b d hi c=>?_⟩;cases i with
   | zero=>simp only[aa3,vz] at hi c;subst hi;subst c;exact n
   | succ i=>exact r i b d (by simpa using hi) (by simpa using c)
theorem lp {ks:List Nat}{Li:List Own}(c:L.sub ks=some Li):∀j m,bh ks 1000 j=some m->∀o,L.get j=some o->(inp Li).get m=some o:=by
 intro j m h o a;obtain⟨n,h1,rfl⟩:=Bw h;obtain⟨_,b⟩:=cu c;rw[aF,fo (by omega),show 1000+n-1000=n by omega,<-b n j h1];exact a
theorem kT (e:bK F L M) {ks:List Nat}{Lin:List TO}{Li:List Own}(f:Li.length=Lin.length) (c:L.sub ks=some Li) (d:∀(i:Nat) o p,Lin[i]?=some o->Li[i]?=some p->cE F L o p) :
  bK F (inp Li) (cD (Lin.map (TO.aad (C.ren (bh ks 1000))))):=by
 intro k;rw[ck,aF];split
 ·rw[aa5];cases b:Lin[k-1000]? with
  | none =>
   have:Li[k-1000]?=none:=by rw[abx] at b ⊢;omega
   rw[this];trivial
  | some o =>
   have a:k-1000<Li.length:=by have:=(aaR.1 b).1;omega
   rw[aaN a];exact(d _ _ _ b (aaN a)).ren (lp c)
 ·trivial
def lq (L:Loc) (k:Nat):Loc:=match L.get k with | some (.row ..)=>L.del k | _=>L
def mg:List Nat->Loc->Loc
 | [],L=>L
 | k::ks,L=>mg ks (lq L k)
theorem uL (k:Nat):(∀c v,c.leaf=true->Rel F L c v->Rel F (lq L k) (fU k c) v)/\(∀c sv,c.leaf=true->aL F L c sv->aL F (lq L k) (fU k c) sv):=by
 by_cases a:∃v t sz n xs,L.get k=some (.row v t sz n xs)
 ·obtain⟨v,t,sz,n,xs,a⟩:=a;have e:lq L k=L.del k:=by simp only[lq,a]
  rw[e];have h1:∀g t cs,L.get k≠some (.box g t cs):=fun g t cs h=>by rw[a] at h;injection h with h;cases h
  have b:∀j,j≠k->∀o,L.get j=some o->∃o',(L.del k).get j=some o'/\Own.like o o':=fun j f o l=>⟨o,by rw[Loc.aaf,fL f];exact l,Own.aah o⟩;exact⟨nH h1 b (au.le_refl F),oD h1 b (au.le_refl F)⟩
 ·have e:lq L k=L:=by
   simp only[lq];split
   ·rename_i h;exact o5 ⟨_,_,_,_,_,h⟩ a
   ·rfl
  rw[e];refine⟨fun c v d h=>?_,fun c sv d h=>?_⟩
  ·cases c<;>simp only[fU]<;>first
    | exact h
    | exact h.elim
    | (split<;>first | exact h | (simp only[Rel];done))
  ·cases c<;>simp only[fU]<;>first
    | exact h
    | (split<;>first | exact h | trivial)
theorem Rel.kills:∀(ks:List Nat) {L:Loc}{c:C}{v:Value},Rel F L c v->Rel F (mg ks L) (C.kills ks c) v
 | [],L,c,v,h=>h
 | k::ks,L,c,v,h=>Rel.kills ks (Rel.mp (uL k).1 3 h)
theorem aL.kills:∀(ks:List Nat) {L:Loc}{c:C}{sv:SV},aL F L c sv->aL F (mg ks L) (C.kills ks c) sv
 | [],L,c,sv,h=>h
 | k::ks,L,c,sv,h=>aL.kills ks (aL.mp (uL k).1 (uL k).2 3 h)
theorem cE.kills (ks:List Nat) {L:Loc}:∀{o:TO}{p:Own},cE F L o p->cE F (mg ks L) (o.aad (C.kills ks)) p
 | .box t cs,.box g a b,r=>⟨r.1,r.2.map fun c _ v h=>h.kills ks⟩
 | .row t sz els,.row v a d n xs,r=>r
 | .box _ _,.row ..,r=>r.elim
 | .row ..,.box ..,r=>r.elim
 | .map _,.row ..,r=>r.elim
 | .map es,.box g a b,r=>r
theorem C5 {k j:Nat}{o:Own}(h:(lq L k).get j=some o):L.get j=some o/\(j=k->∃g t cs,o=.box g t cs):=by
 unfold lq at h;split at h
 ·rw[Loc.aaf] at h;split at h
  ·cases h
  ·rename_i a;exact⟨h,fun e=>o5 e a⟩
 ·rename_i b;refine⟨h,fun e=>?_⟩;subst e;cases o with
  | box g t cs=>exact⟨g,t,cs,rfl⟩
  | row v t sz n xs=>exact o5 h (b v t sz n xs)
theorem oE:∀{ks:List Nat}{L:Loc}{j:Nat}{o:Own},(mg ks L).get j=some o->L.get j=some o/\(j∈ks->∃g t cs,o=.box g t cs)
 | [],L,j,o,h=>⟨h,by simp⟩
 | k::ks,L,j,o,h=>by
  obtain⟨h1,a⟩:=oE (ks:=ks) h;obtain⟨b,c⟩:=C5 h1;exact⟨b,fun d=>by
   rcases aaT.1 d with e | e
   ·exact c e
   ·exact a e⟩
theorem xH (ks:List Nat) (M:TL) (k:Nat):(TL.kills ks M).get k=(M.get k).map (TO.aad (C.kills ks)):=by
 cases ks with
 | nil =>
  simp only[TL.kills];cases M.get k with
  | none=>rfl
  | some o =>
   cases o with
   | box t cs =>
    have e:(C.kills []:C->C)=id:=rfl;simp[TO.aad,e]
   | row t sz els=>rfl
   | map es=>rfl
 | cons a ks=>exact pY _ _ _
theorem xI (ks:List Nat) (τ:aK) (j:Nat):dh ks τ j=(τ j).kills ks:=by cases ks<;>rfl
def Bx:TO->Bool
 | .row _ _ _=>true
 | _=>false
theorem gj:∀{Lin:List TO}{ks ko:List Nat},aI Lin ks ko=true->∀(i:Nat) o,Lin[i]?=some o->Bx o=false->∃k,ks[i]?=some k/\ko[i]?=some k
 | [],_,_,_,i,o,e,_=>by simp at e
 | .box f d::l,[],ko,h,i,o,e,_=>by cases ko<;>simp[aI] at h
 | .box f d::l,k::ks,[],h,i,o,e,_=>by simp[aI] at h
 | .box f d::l,k::ks,b::ko,h,i,o,e,a=>by
  simp only[aI] at h;split at h
  case h_2=>cases h
  rename_i c;have:=aaO c;subst this;cases i with
  | zero=>exact⟨k,by simp,by simp⟩
  | succ i=>simpa using gj h i o (by simpa using e) a
 | .map es::l,[],ko,h,i,o,e,_=>by cases ko<;>simp[aI] at h
 | .map es::l,k::ks,[],h,i,o,e,_=>by simp[aI] at h
 | .map es::l,k::ks,b::ko,h,i,o,e,a=>by
  simp only[aI] at h;split at h
  case h_2=>cases h
  rename_i c;have:=aaO c;subst this;cases i with
  | zero=>exact⟨k,by simp,by simp⟩
  | succ i=>simpa using gj h i o (by simpa using e) a
 | .row ..::l,k::ks,b::ko,h,i,o,e,a=>by
  simp only[aI] at h;cases i with
  | zero =>
   simp only[aa3,vz] at e;subst e;cases a
  | succ i=>simpa using gj h i o (by simpa using e) a
 | .row ..::l,k::ks,[],h,i,o,e,a=>by
  simp only[aI] at h;cases i with
  | zero =>
   simp only[aa3,vz] at e;subst e;cases a
  | succ i =>
   obtain⟨b,h1,j⟩:=gj h i o (by simpa using e) a;simp at j
 | .row ..::l,[],ko,h,i,o,e,_=>by simp[aI] at h
theorem xJ {Lin:List TO}{ks ko:List Nat}(h:aI Lin ks ko=true) (i:Nat) (t:TypeId) (cs:List C) (e:Lin[i]?=some (.box t cs)):∃k,ks[i]?=some k/\ko[i]?=some k:=gj h i _ e rfl
theorem qF {M:TL}{ks:List Nat}:∀{ko:List Nat},jt M ks ko=true->∀k∈ko,k∈ks\/M.get k=none
 | [],_,k,a=>by simp at a
 | k0::ko,h,k,a=>by
  simp only[jt] at h;rcases aaT.1 a with e | e
  ·subst e;split at h
   ·rename_i h1;exact .inl (cN.1 h1)
   ·rename_i h1 b;exact .inr b
   ·cases h
  ·split at h
   ·exact qF h k e
   ·exact qF h k e
   ·cases h
theorem dW {ko:List Nat}{Lo:List Own}{L:Loc}(c:ko.Nodup) (e:ko.length=Lo.length) {i k:Nat}{o:Own}(b:ko[i]?=some k) (d:Lo[i]?=some o):(L.puts ko Lo).get k=some o:=by
 rcases cQ ko Lo L k c e with⟨_,a⟩ | ⟨f,h1,a,_⟩
 ·exact o5 (aaX b) a
 ·have:=zK c h1 b;subst this;rw[a,d]
theorem rS {k:Nat}{t sz:Nat}{els:List (List C)}(h:M.get k=some (.row t sz els)):∀{ks:List Nat},k∈ks->k∈rowsOf M ks
 | [],a=>by cases a
 | j::ks,a=>by
  simp only[rowsOf];rcases aaT.1 a with rfl | a
  ·rw[h];simp
  ·split
   ·exact abf _ (rS h a)
   ·exact rS h a
theorem xK {ks:List Nat}{k:Nat}{o:Own}(e:bK F L M) (f:k∈ks) (h:L.get k=some o) (hb:k∈rowsOf M ks->∃g t cs,o=.box g t cs):∃g t cs,o=.box g t cs:=by
 rcases dR (e k) with⟨d,a⟩ | ⟨q,p,d,a,c⟩
 ·rw[h] at a;cases a
 ·rw[h] at a;injection a with a
  subst a;cases q with
  | row t sz els=>exact hb (rS d f)
  | box t cs =>
   cases o with
   | row=>exact c.elim
   | box g b cs'=>exact⟨g,b,cs',rfl⟩
  | map es =>
   cases o with
   | row=>exact c.elim
   | box g b cs'=>exact⟨g,b,cs',rfl⟩
theorem qG {f:Nat}{args:List C}{vs:List Value}{ks ko:List Nat}{Lin:List TO}{R:List TO->C->Prop}{K:TL->aK->C->Prop}(y:TS G F L ρ M τ) (ha:ay F L args vs)
  (h1:M.sub ks=some Lin) (h2:aP ks=true) (h3:aP ko=true) (h4:jt M ks ko=true) (h5:aI Lin ks ko=true)
  (h6:CallsT P f (args.map fun c=>c.aaj.ren (bh ks 1000)) (Lin.map (TO.aad (C.ren (bh ks 1000)))) R)
  (h7:∀v Mo,R Mo v->Wf v->(∀o∈Mo,o.Wf)->ko.length=Mo.length/\K (((M.aae ks).kills (rowsOf M ks)).puts ko (Mo.map (TO.aad (C.ren (aH ko))))) (dh (rowsOf M ks) τ) (v.ren (aH ko)).slt) :
  dP P f vs F L (fun F' L' v=>∃M' al c,TS G F' L' ρ M' al/\aL F' L' c (.v v)/\K M' al c):=by
 obtain⟨Li,e1,e2,e3⟩:=j4 y.tl h1;have hn:=cP h2;have d:=cP h3;have ag:∀k,k∈ko->k∈ks\/L.get k=none:=fun k q=>(qF h4 k q).imp id fun e=>bY y.tl e;have ao:=cu e1;refine⟨ks,ko,Li,gC Li R,e1,hn,d,ag,h6.out F Li vs (by simp[e2]) (kT y.tl e2 e1 e3) ?_,?_⟩
 ·exact ha.map fun c _ v hc=>(iR hc).ren (lp e1)
 ·rintro v F' Lo hF ⟨Mo,c,q1,q2,q3,q4,q5⟩;have aE:∀o∈Mo,o.Wf:=by
   intro o w;obtain⟨i,hi⟩:=abb.1 w;have l:i<Lo.length:=by rw[<-q1];exact(aaR.1 hi).1
   have:=q2 (1000+i);rw[ck,aF,fo (by omega),fo (by omega),show 1000+i-1000=i by omega,hi,aaN l] at this;exact cE.wf this
  obtain⟨k1,k2⟩:=h7 c Mo q5 q3.wf aE;have b:ko.length=Lo.length:=by rw[k1,q1]
  have a:∀k g t cs,k∈ks->L.get k=some (.box g t cs)->∃cs',Loc.get ((L.aae ks).puts ko Lo) k=some (.box g t cs'):=by
   intro k g t cs q hg;obtain⟨i,hi⟩:=abb.1 q;have s:Li[i]?=some (.box g t cs):=by rw[<-ao.2 i k hi];exact hg
   have l:i<Lin.length:=by rw[<-e2];exact(aaR.1 s).1
   have hr:=e3 i _ _ (aaN l) s;cases hL:Lin[i] with
   | row=>rw[hL] at hr;exact hr.elim
   | box t' cs' =>
    obtain⟨k',n,b2⟩:=xJ h5 i t' cs' (by rw[aaN l,hL]);rw[hi] at n;injection n with n
    subst n;obtain⟨ad,ac⟩:=q4 i g t cs s;exact⟨ad,dW d b b2 ac⟩
   | map es =>
    obtain⟨k',n,b2⟩:=gj h5 i (.map es) (by rw[aaN l,hL]) rfl;rw[hi] at n;injection n with n
    subst n;obtain⟨ad,ac⟩:=q4 i g t cs s;exact⟨ad,dW d b b2 ac⟩
  refine⟨b,a,?_⟩;generalize u:(L.aae ks).puts ko Lo=L' at a
  -- what was there before
  have x:∀k,k∉ks->∀o,L.get k=some o->L'.get k=some o:=by
   intro k q o w;rw[<-u];rcases cQ ko Lo (L.aae ks) k d b with⟨a1,a2⟩ | ⟨i,a1,a2,a3⟩
   ·rw[a1,eL,fL q];exact w
   ·rcases ag k (aaX a1) with e | e
    ·exact o5 e q
    ·rw[w] at e;cases e
  have z:Ext (mg (rowsOf M ks) L) L':=by
   intro k o w;obtain⟨g1,g2⟩:=oE w
   by_cases q:k∈ks
   ·obtain⟨g,t,cs,rfl⟩:=xK y.tl q g1 g2;obtain⟨cs',h⟩:=a k g t cs q g1;exact⟨_,h,rfl,rfl⟩
   ·exact⟨o,x k q o g1,Own.aah o⟩
  have r:∀j m,aH ko j=some m->∀o,(inp Lo).get j=some o->L'.get m=some o:=by
   intro j m hj o w;obtain⟨a1,a2⟩:=nI hj;rw[aF,fo a1] at w;rw[<-u];exact dW d b a2 w
  refine⟨_,_,_,⟨fun k=>?_,fun j=>?_,fun k g t e=>?_,y.glob.mono hF⟩,kx (q3.ren r),k2⟩
  ·rcases nG ko (Mo.map (TO.aad (C.ren (aH ko)))) ((M.aae ks).kills (rowsOf M ks)) k d (by simp[k1]) with⟨a1,a2⟩ | ⟨i,a1,a2,a3⟩
   ·have ae:L'.get k=(L.aae ks).get k:=by
     rw[<-u];rcases cQ ko Lo (L.aae ks) k d b with⟨n,_⟩ | ⟨i,n,_,_⟩
     ·exact n
     ·exact o5 (aaX n) a2
    rw[a1,ae,xH,qE,eL];split
    ·trivial
    ·rcases dR (y.tl k) with⟨c1,c2⟩ | ⟨o,p,c1,c2,hr⟩
     ·rw[c1,c2];trivial
     ·rw[c1,c2];exact(hr.kills (rowsOf M ks)).ext hF z
   ·rw[a2,aa5];have l:i<Mo.length:=by simpa using a3
    have aa:i<Lo.length:=by omega
    have ae:L'.get k=some (Lo[i]):=by rw[<-u];exact dW d b a1 (aaN aa)
    rw[ae,aaN l];have:=q2 (1000+i);rw[ck,aF,fo (by omega),fo (by omega),show 1000+i-1000=i by omega,aaN l,aaN aa] at this;exact cE.ren r this
  ·rw[xI];exact((y.env j).kills (rowsOf M ks)).ext hF z
  ·obtain⟨cs,h⟩:=y.kp k g t e
   by_cases q:k∈ks
   ·exact a k g t cs q h
   ·exact⟨cs,x k q _ h⟩
theorem uM {f:Nat}{args:List C}{vs:List Value}{ks:List Nat}{Lin:List TO}{R:List TO->C->Prop}{K:TL->aK->C->Prop}(ht:TS G F L ρ M τ) (ha:ay F L args vs)
  (h1:M.sub ks=some Lin) (h2:aP ks=true) (h6:fq P f (args.map fun c=>c.aaj.ren (bh ks 1000)) (Lin.map (TO.aad (C.ren (bh ks 1000)))) R)
  (h7:∀v Mo,R Mo v->Wf v->(∀o∈Mo,o.Wf)->ks.length=Mo.length/\K ((M.aae ks).puts ks (Mo.map (TO.aad (C.ren (aH ks))))) τ (v.ren (aH ks)).slt) :
  dP P f vs F L (fun F' L' v=>∃M' ad c,TS G F' L' ρ M' ad/\aL F' L' c (.v v)/\K M' ad c):=by
 obtain⟨Li,e1,e2,e3⟩:=j4 ht.tl h1;have q:=cP h2;have ac:=cu e1;refine⟨ks,ks,Li,_,e1,q,q,fun k d=>.inl d,h6.out F Li vs (by simp[e2]) (kT ht.tl e2 e1 e3) ?_,?_⟩
 ·exact ha.map fun c _ v hc=>(iR hc).ren (lp e1)
 ·rintro v F' Lo hF ⟨⟨Mo,c,q1,q2,q3,q4,q5⟩,bp,am⟩;have aw:∀o∈Mo,o.Wf:=by
   intro o r;obtain⟨i,hi⟩:=abb.1 r;have s:i<Lo.length:=by rw[<-q1];exact(aaR.1 hi).1
   have:=q2 (1000+i);rw[ck,aF,fo (by omega),fo (by omega),show 1000+i-1000=i by omega,hi,aaN s] at this;exact cE.wf this
  obtain⟨k1,k2⟩:=h7 c Mo q5 q3.wf aw;have a:ks.length=Lo.length:=by rw[k1,q1]
  have b:∀k g t cs,k∈ks->L.get k=some (.box g t cs)->∃cs',Loc.get ((L.aae ks).puts ks Lo) k=some (.box g t cs'):=by
   intro k g t cs d hg;obtain⟨i,hi⟩:=abb.1 d;have y:Li[i]?=some (.box g t cs):=by rw[<-ac.2 i k hi];exact hg
   obtain⟨ar,ao⟩:=q4 i g t cs y;exact⟨ar,dW q a hi ao⟩
  refine⟨a,b,?_⟩;generalize l:(L.aae ks).puts ks Lo=L' at b;have u:∀k,k∉ks->∀o,L.get k=some o->L'.get k=some o:=by
   intro k d o r;rw[<-l];rcases cQ ks Lo (L.aae ks) k q a with⟨a1,z⟩ | ⟨i,a1,z,a3⟩
   ·rw[a1,eL,fL d];exact r
   ·exact o5 (aaX a1) d
  have w:Ext L L':=by
   intro k o r
   by_cases d:k∈ks
   ·obtain⟨i,hi⟩:=abb.1 d;have y:Li[i]?=some o:=by rw[<-ac.2 i k hi];exact r
    obtain⟨o',h1,h2⟩:=am i o y;exact⟨o',by rw[<-l];exact dW q a hi h1,h2⟩
   ·exact⟨o,u k d o r,Own.aah o⟩
  have n:∀j m,aH ks j=some m->∀o,(inp Lo).get j=some o->L'.get m=some o:=by
   intro j m hj o r;obtain⟨a1,z⟩:=nI hj;rw[aF,fo a1] at r;rw[<-l];exact dW q a z r
  refine⟨_,_,_,⟨fun k=>?_,fun j=>(ht.env j).ext hF w,fun k g t e=>?_,ht.glob.mono hF⟩,kx (q3.ren n),k2⟩
  ·rcases nG ks (Mo.map (TO.aad (C.ren (aH ks)))) (M.aae ks) k q (by simp[k1]) with⟨a1,z⟩ | ⟨i,a1,z,a3⟩
   ·have aa:L'.get k=(L.aae ks).get k:=by
     rw[<-l];rcases cQ ks Lo (L.aae ks) k q a with⟨b1,_⟩ | ⟨i,b1,_,_⟩
     ·exact b1
     ·exact o5 (aaX b1) z
    rw[a1,aa,qE,eL];split
    ·trivial
    ·rcases dR (ht.tl k) with⟨c1,c2⟩ | ⟨o,p,c1,c2,hr⟩
     ·rw[c1,c2];trivial
     ·rw[c1,c2];exact hr.ext hF w
   ·rw[z,aa5];have s:i<Mo.length:=by simpa using a3
    have x:i<Lo.length:=by omega
    have aa:L'.get k=some (Lo[i]):=by rw[<-l];exact dW q a a1 (aaN x)
    rw[aa,aaN s];have:=q2 (1000+i);rw[ck,aF,fo (by omega),fo (by omega),show 1000+i-1000=i by omega,aaN s,aaN x] at this;exact cE.ren n this
  ·obtain⟨cs,h⟩:=ht.kp k g t e
   by_cases d:k∈ks
   ·exact b k g t cs d h
   ·exact⟨cs,u k d _ h⟩
theorem qH {ks:List Nat}:∀{ko:List Nat},(∀k∈ko,k∈ks)->jt M ks ko=true
 | [],_=>rfl
 | k::ko,h=>by
  simp only[jt,cN.2 (h k (by simp))];exact qH fun j a=>h j (by simp[a])
def UX (hb:List (Nat×Nat)) (L:Loc):Prop:=∀k n,(k,n)∈hb->∃g t cs,L.get k=some (.box g t cs)/\cs.length=n
def EI (F':au) (L':Loc) (M':TL):Prop:=∀k o,M'.get k=some o->∃p,L'.get k=some p/\cE F' L' o p
theorem Aa {F':au}{L':Loc}{M':TL}(h:bK F' L' M'):EI F' L' M':=fun k o e=>by
 rcases dR (h k) with⟨a,b⟩ | ⟨o',p,a,b,c⟩
 ·rw[e] at a;cases a
 ·rw[e] at a;injection a with a
  subst a;exact⟨p,b,c⟩
def MG (PS:nD) (F':au) (L':Loc) (v:Value):Prop:=∀s,PS.st=some s->∃M',EI F' L' M'/\s M' v
theorem MG.no {PS:nD}(h:PS.st=none) {F':au}{L':Loc}{v:Value}:MG PS F' L' v:=fun s e=>by rw[h] at e;cases e
def yY (G:Nat->Option (Nat×TypeId)) (PS:nD) (F':au) (L':Loc) (v:Value):Prop:=Kp G L'/\PS.ps v/\UX PS.hb L'/\MG PS F' L' v
theorem C6:∀{hb:List (Nat×Nat)}{ks:List Nat},ju M ks hb=true->∀k n,(k,n)∈hb->k∉ks/\∃t cs,M.get k=some (.box t cs)/\cs.length=n
 | [],ks,_,k,n,h=>by cases h
 | (j,m)::l,ks,h,k,n,a=>by
  simp only[ju] at h;split at h
  case h_2=>cases h
  rename_i t cs h1 b;split at h
  case h_2=>cases h
  rename_i c;rcases aaT.1 a with e | a
  ·simp only[Prod.mk.injEq] at e;obtain⟨rfl,rfl⟩:=e;exact⟨fun d=>(by rw[cN.2 d] at h1;cases h1),t,cs,b,bW c⟩
  ·exact C6 h k n a
theorem MH {hb:List (Nat×Nat)}{ks:List Nat}{L':Loc}(c:bK F L M) (h:ju M ks hb=true) (j:∀k g t cs,k∉ks->L.get k=some (.box g t cs)->L'.get k=some (.box g t cs)):UX hb L':=by
 intro k n d;obtain⟨h1,t,cs,b,e⟩:=C6 h k n d;obtain⟨g,ty,a,l,f,_⟩:=kS c b;exact⟨g,ty,a,j k g ty a h1 l,by rw[f.len,e]⟩
theorem qI {ks ko:List Nat}{Lin:List TO}{Li:List Own}{R:List TO->C->Prop}{K:TL->aK->C->Prop}(ht:TS G F L ρ M τ)
  (h2:aP ks=true) (h3:aP ko=true) (h4:jt M ks ko=true) (h5:aI Lin ks ko=true) (e1:L.sub ks=some Li) (e2:Li.length=Lin.length) (e3:∀(i:Nat) o p,Lin[i]?=some o->Li[i]?=some p->cE F L o p)
  (h7:∀v Mo,R Mo v->Wf v->(∀o∈Mo,o.Wf)->ko.length=Mo.length/\K (((M.aae ks).kills (rowsOf M ks)).puts ko (Mo.map (TO.aad (C.ren (aH ko))))) (dh (rowsOf M ks) τ) (v.ren (aH ko)).slt) :
  ∀v F' Lo,F.le F'->gC Li R F' Lo v->ko.length=Lo.length/\(∀k g t cs,k∈ks->L.get k=some (.box g t cs)->∃cs',Loc.get ((L.aae ks).puts ko Lo) k=some (.box g t cs')) /\
   ∃M' ae c,TS G F' ((L.aae ks).puts ko Lo) ρ M' ae/\aL F' ((L.aae ks).puts ko Lo) c (.v v)/\K M' ae c:=by
 have hn:=cP h2;have f:=cP h3;have am:∀k,k∈ko->k∈ks\/L.get k=none:=fun k n=>(qF h4 k n).imp id fun e=>bY ht.tl e;have al:=cu e1;rintro v F' Lo hF ⟨Mo,c,q1,q2,q3,q4,q5⟩;have ar:∀o∈Mo,o.Wf:=by
  intro o u;obtain⟨i,hi⟩:=abb.1 u;have d:i<Lo.length:=by rw[<-q1];exact(aaR.1 hi).1
  have:=q2 (1000+i);rw[ck,aF,fo (by omega),fo (by omega),show 1000+i-1000=i by omega,hi,aaN d] at this;exact cE.wf this
 obtain⟨k1,k2⟩:=h7 c Mo q5 q3.wf ar;have b:ko.length=Lo.length:=by rw[k1,q1]
 have a:∀k g t cs,k∈ks->L.get k=some (.box g t cs)->∃cs',Loc.get ((L.aae ks).puts ko Lo) k=some (.box g t cs'):=by
  intro k g t cs n hg;obtain⟨i,hi⟩:=abb.1 n;have r:Li[i]?=some (.box g t cs):=by rw[<-al.2 i k hi];exact hg
  have d:i<Lin.length:=by rw[<-e2];exact(aaR.1 r).1
  have hr:=e3 i _ _ (aaN d) r;cases hL:Lin[i] with
  | row=>rw[hL] at hr;exact hr.elim
  | box t' cs' =>
   obtain⟨k',l,b2⟩:=xJ h5 i t' cs' (by rw[aaN d,hL]);rw[hi] at l;injection l with l
   subst l;obtain⟨ab,aa⟩:=q4 i g t cs r;exact⟨ab,dW f b b2 aa⟩
  | map es =>
   obtain⟨k',l,b2⟩:=gj h5 i (.map es) (by rw[aaN d,hL]) rfl;rw[hi] at l;injection l with l
   subst l;obtain⟨ab,aa⟩:=q4 i g t cs r;exact⟨ab,dW f b b2 aa⟩
 refine⟨b,a,?_⟩;generalize s:(L.aae ks).puts ko Lo=L' at a
 -- what was there before
 have w:∀k,k∉ks->∀o,L.get k=some o->L'.get k=some o:=by
  intro k n o u;rw[<-s];rcases cQ ko Lo (L.aae ks) k f b with⟨a1,z⟩ | ⟨i,a1,z,a3⟩
  ·rw[a1,eL,fL n];exact u
  ·rcases am k (aaX a1) with e | e
   ·exact o5 e n
   ·rw[u] at e;cases e
 have x:Ext (mg (rowsOf M ks) L) L':=by
  intro k o u;obtain⟨g1,g2⟩:=oE u
  by_cases n:k∈ks
  ·obtain⟨g,t,cs,rfl⟩:=xK ht.tl n g1 g2;obtain⟨cs',h⟩:=a k g t cs n g1;exact⟨_,h,rfl,rfl⟩
  ·exact⟨o,w k n o g1,Own.aah o⟩
 have q:∀j m,aH ko j=some m->∀o,(inp Lo).get j=some o->L'.get m=some o:=by
  intro j m hj o u;obtain⟨a1,z⟩:=nI hj;rw[aF,fo a1] at u;rw[<-s];exact dW f b z u
 refine⟨_,_,_,⟨fun k=>?_,fun j=>?_,fun k g t e=>?_,ht.glob.mono hF⟩,kx (q3.ren q),k2⟩
 ·rcases nG ko (Mo.map (TO.aad (C.ren (aH ko)))) ((M.aae ks).kills (rowsOf M ks)) k f (by simp[k1]) with⟨a1,z⟩ | ⟨i,a1,z,a3⟩
  ·have ac:L'.get k=(L.aae ks).get k:=by
    rw[<-s];rcases cQ ko Lo (L.aae ks) k f b with⟨l,_⟩ | ⟨i,l,_,_⟩
    ·exact l
    ·exact o5 (aaX l) z
   rw[a1,ac,xH,qE,eL];split
   ·trivial
   ·rcases dR (ht.tl k) with⟨c1,c2⟩ | ⟨o,p,c1,c2,hr⟩
    ·rw[c1,c2];trivial
    ·rw[c1,c2];exact(hr.kills (rowsOf M ks)).ext hF x
  ·rw[z,aa5];have d:i<Mo.length:=by simpa using a3
   have y:i<Lo.length:=by omega
   have ac:L'.get k=some (Lo[i]):=by rw[<-s];exact dW f b a1 (aaN y)
   rw[ac,aaN d];have:=q2 (1000+i);rw[ck,aF,fo (by omega),fo (by omega),show 1000+i-1000=i by omega,aaN d,aaN y] at this;exact cE.ren q this
 ·rw[xI];exact((ht.env j).kills (rowsOf M ks)).ext hF x
 ·obtain⟨cs,h⟩:=ht.kp k g t e
  by_cases n:k∈ks
  ·exact a k g t cs n h
  ·exact⟨cs,w k n _ h⟩
theorem xL {PS:nD}{Pp:Value->Prop}{f:Nat}{args:List C}{m:List Value}{ks ko:List Nat}{Lin:List TO}{R:List TO->C->Prop}{K:TL->aK->C->Prop}(a:TS G F L ρ M τ) (ha:ay F L args m)
  (h1:M.sub ks=some Lin) (x:aP ks=true) (y:aP ko=true) (z:jt M ks ko=true) (h5:aI Lin ks ko=true) (s:ju M ks PS.hb=true)
  (h6:CallsTX P f (args.map fun c=>c.aaj.ren (bh ks 1000)) (Lin.map (TO.aad (C.ren (bh ks 1000)))) R Pp) (l:∀v,Pp v->PS.ps v) (n:PS.st=none)
  (h7:∀v Mo,R Mo v->Wf v->(∀o∈Mo,o.Wf)->ko.length=Mo.length/\K (((M.aae ks).kills (rowsOf M ks)).puts ko (Mo.map (TO.aad (C.ren (aH ko))))) (dh (rowsOf M ks) τ) (v.ren (aH ko)).slt) :
  ∃Li,L.sub ks=some Li/\ks.Nodup/\ko.Nodup/\(∀k,k∈ko->k∈ks\/L.get k=none)/\nX P f m.toArray F Li (gC Li R) Pp/\(∀v F' L',wU ks L L'->Pp v->yY G PS F' L' v) /\
  ∀v F' Lo,F.le F'->gC Li R F' Lo v->ko.length=Lo.length/\(∀k g t cs,k∈ks->L.get k=some (.box g t cs)->∃cs',Loc.get ((L.aae ks).puts ko Lo) k=some (.box g t cs')) /\
   ∃M' b c,TS G F' ((L.aae ks).puts ko Lo) ρ M' b/\aL F' ((L.aae ks).puts ko Lo) c (.v v)/\K M' b c:=by
 obtain⟨Li,d,w,e3⟩:=j4 a.tl h1;have hn:=cP x;have r:=cP y;have p:∀k,k∈ko->k∈ks\/L.get k=none:=fun k u=>(qF z k u).imp id fun e=>bY a.tl e;have ab:=cu d;refine⟨Li,d,hn,r,p,h6.out F Li m (by simp[w]) (kT a.tl w d e3) ?_,fun v F' L' j hv=>⟨fun k g t e=>let⟨cs,h⟩:=a.kp k g t e;let⟨cs',h',_⟩:=j k g t cs h;⟨cs',h'⟩,l v hv,MH a.tl s fun k g t cs u e=>let⟨cs',h',q⟩:=j k g t cs e;by rw[h',q u],MG.no n⟩,?_⟩
 ·exact ha.map fun c _ v hc=>(iR hc).ren (lp d)
 ·exact qI a x y z h5 d w e3 h7
theorem Ab {PS:nD}{Pp:Value->Prop}{f:Nat}{args:List C}{h:List Value}{ks ko:List Nat}{Lin:List TO}{R:List TO->C->Prop}{K:TL->aK->C->Prop}(q:TS G F L ρ M τ) (l:ay F L args h)
  (h1:M.sub ks=some Lin) (n:aP ks=true) (w:aP ko=true) (x:jt M ks ko=true) (p:aI Lin ks ko=true) (e:ju M ks PS.hb=true)
  (y:CallsTX P f (args.map fun c=>c.aaj.ren (bh ks 1000)) (Lin.map (TO.aad (C.ren (bh ks 1000)))) R Pp) (b:∀v,Pp v->PS.ps v) (d:PS.st=none)
  (h7:∀v Mo,R Mo v->Wf v->(∀o∈Mo,o.Wf)->ko.length=Mo.length/\K (((M.aae ks).kills (rowsOf M ks)).puts ko (Mo.map (TO.aad (C.ren (aH ko))))) (dh (rowsOf M ks) τ) (v.ren (aH ko)).slt) :
  fJ P (yY G PS) f h F L (fun F' L' v=>∃M' a c,TS G F' L' ρ M' a/\aL F' L' c (.v v)/\K M' a c):=by
 obtain⟨Li,u,r,z,j,m,t,k⟩:=xL q l h1 n w x p e y b d h7;exact⟨ks,ko,Li,gC Li R,fun _ _=>Pp,u,r,z,j,m.toS,fun v F' Lo _ _ hb s=>t v F' _ hb s,k⟩
theorem jG:∀{Lin:List TO}{ks ko:List Nat},aI Lin ks ko=true->aI Lin ks ks=true
 | [],ks,ko,h=>by simp only[aI]
 | .box t cs::l,[],ko,h=>by simp only[aI] at h;cases h
 | .map es::l,[],ko,h=>by simp only[aI] at h;cases h
 | .row t sz els::l,[],ko,h=>by simp only[aI] at h;cases h
 | .box t cs::l,k::ks,[],h=>by simp only[aI] at h;cases h
 | .map es::l,k::ks,[],h=>by simp only[aI] at h;cases h
 | .box t cs::l,k::ks,a::ko,h=>by
  have e:Nat.beq k k=true:=by simp
  simp only[aI] at h ⊢;split at h
  ·rw[e];exact jG h
  ·cases h
 | .map es::l,k::ks,a::ko,h=>by
  have e:Nat.beq k k=true:=by simp
  simp only[aI] at h ⊢;split at h
  ·rw[e];exact jG h
  ·cases h
 | .row t sz els::l,k::ks,[],h=>by
  simp only[aI] at h ⊢;exact jG h
 | .row t sz els::l,k::ks,a::ko,h=>by
  simp only[aI] at h ⊢;exact jG h
theorem Ac {ps:Value->Prop}{hb:List (Nat×Nat)}{st:TL->Value->Prop}{PS:nD}{Pp:List TO->Value->Prop}{f:Nat}{args:List C}{vs:List Value}{ks ko:List Nat}{Lin:List TO}{R:List TO->C->Prop}{K:TL->aK->C->Prop}(l:TS G F L ρ M τ) (ha:ay F L args vs)
  (z:PS=⟨ps,hb,some st⟩) (h1:M.sub ks=some Lin) (j:aP ks=true) (h3:aP ko=true) (h4:jt M ks ko=true) (h5:aI Lin ks ko=true) (am:ju M ks hb=true)
  (h6:CallsTS P f (args.map fun c=>c.aaj.ren (bh ks 1000)) (Lin.map (TO.aad (C.ren (bh ks 1000)))) R Pp)
  (ab:∀v Mo,Pp Mo v->(∀o∈Mo,o.Wf)->ks.length=Mo.length->ps v/\st (((M.aae ks).kills (rowsOf M ks)).puts ks (Mo.map (TO.aad (C.ren (aH ks))))) v)
  (h7:∀v Mo,R Mo v->Wf v->(∀o∈Mo,o.Wf)->ko.length=Mo.length/\K (((M.aae ks).kills (rowsOf M ks)).puts ko (Mo.map (TO.aad (C.ren (aH ko))))) (dh (rowsOf M ks) τ) (v.ren (aH ko)).slt) :
  fJ P (yY G PS) f vs F L (fun F' L' v=>∃M' d c,TS G F' L' ρ M' d/\aL F' L' c (.v v)/\K M' d c):=by
 subst z;obtain⟨Li,m,x,e3⟩:=j4 l.tl h1;have hn:=cP j;have al:=cP h3;have ag:∀k,k∈ko->k∈ks\/L.get k=none:=fun k w=>(qF h4 k w).imp id fun e=>bY l.tl e;obtain⟨ad,y⟩:=cu m;refine⟨ks,ko,Li,gC Li R,_,m,hn,al,ag,h6.out F Li vs (by simp[x]) (kT l.tl x m e3) (ha.map fun c _ v hc=>(iR hc).ren (lp m)),?_,qI l j h3 h4 h5 m x e3 h7⟩;rintro v F' Lo hF r u ⟨Mo,q1,q2,q3⟩;have ac:∀o∈Mo,o.Wf:=by
  intro o ho;obtain⟨i,hi⟩:=abb.1 ho;have a:i<Lo.length:=by rw[<-q1];exact(aaR.1 hi).1
  have:=q2 (1000+i);rw[ck,aF,fo (by omega),fo (by omega),show 1000+i-1000=i by omega,hi,aaN a] at this;exact cE.wf this
 obtain⟨p1,p2⟩:=ab v Mo q3 ac (by omega);have p:gC Li (fun Mo' _=>Mo'=Mo) F' Lo undef:=by
  refine⟨Mo,.any,q1,q2,by simp only[Rel],fun i g t cs e=>?_,rfl⟩;have a:i<ks.length:=by rw[<-ad];exact(aaR.1 e).1
  have n:=y i _ (aaN a);rw[e] at n;obtain⟨cs',h,_⟩:=u _ g t cs n;have j:Loc.get ((L.aae ks).puts ks Lo) ks[i]=Lo[i]?:=by
   have b:i<Lo.length:=by omega
   rw[aaN b];exact dW hn r (aaN a) (aaN b)
  exact⟨cs',by rw[<-j];exact h⟩
 have aa:aI Lin ks ks=true:=jG h5;obtain⟨_,_,M',d,c,t1,_,rfl⟩:=qI (K:=fun M' _ _=>M'=((M.aae ks).kills (rowsOf M ks)).puts ks (Mo.map (TO.aad (C.ren (aH ks))))) l j j (qH fun k w=>w) aa m x e3
  (fun v' Mo' e _ _=>by subst e;exact⟨by omega,rfl⟩) undef F' Lo hF p
 exact⟨t1.kp,p1,MH l.tl am fun k g t cs w e=>(let⟨cs',h',q⟩:=u k g t cs e;by rw[h',q w]),fun s e=>by injection e with e;subst e;exact⟨_,Aa t1.tl,p2⟩⟩
theorem TS.same {L2:Loc}(a:TS G F L ρ M τ) (b:L.sameAs L2):TS G F L2 ρ M τ:=by
 have f:Ext L L2:=fun k o e=>⟨o,by rw[b k];exact e,Own.aah o⟩;refine⟨fun k=>?_,fun j=>(a.env j).ext (au.le_refl F) f,fun k g t e=>?_,a.glob⟩
 ·rcases dR (a.tl k) with⟨c,d⟩ | ⟨o,p,c,d,l⟩
  ·rw[b k,c,d];trivial
  ·rw[b k,c,d];exact l.ext (au.le_refl F) f
 ·obtain⟨cs,h⟩:=a.kp k g t e;exact⟨cs,by rw[b k];exact h⟩
theorem xM:∀{ks a:List Nat},pW ks a=true->∀k∈ks,k∉a
 | [],a,_,k,h=>by cases h
 | j::ks,a,h,k,b=>by
  simp only[pW] at h;split at h
  ·cases h
  ·rename_i c;rcases aaT.1 b with rfl | b
   ·intro d;rw[cN.2 d] at c;cases c
   ·exact xM h k b
theorem xN {PS:nD}{s:List Nat}{f:Nat}{args:List C}{q:List Value}{K:TL->aK->C->Prop}(z:TS G F L ρ M τ) (w:ay F L args q) (h:oC P PS s f args M τ K) (j:PS.st=none) :
  kF P (yY G PS) s f q F L (fun F' L' v=>∃M' b c,TS G F' L' ρ M' b/\aL F' L' c (.v v)/\K M' b c):=by
 obtain⟨ks,Lin,R,Pp,h1,n,h0,y,l,h6,d,h7⟩:=h;have h4:jt M ks ks=true:=qH (fun k hk=>hk);obtain⟨Li,q1,p,q3,q4,x,q6,u⟩:=xL z w h1 n n h4 y l h6 d j h7;refine⟨ks,Li,gC Li R,fun _ _=>Pp,q1,p,xM h0,x.toS,fun v F' L' Lo _ _ m hp=>q6 v F' L' m hp,fun v F' Lo hF r=>?_⟩;obtain⟨a1,a2,M',b,c,a3,a4,a5⟩:=u v F' Lo hF r;have a:=qB (L:=L) p a1;refine⟨a1,fun i g t cs e=>?_,fun _=>⟨M',b,c,a3.same a,a4.ext (au.le_refl F') fun k o e=>⟨o,by rw[a k];exact e,Own.aah o⟩,a5⟩⟩;obtain⟨Mo,c',_,_,_,b4,_⟩:=r;exact b4 i g t cs e
theorem vw {ps:Value->Prop}{hb:List (Nat×Nat)}{st:TL->Value->Prop}{PS:nD}{fb:List Nat}{f:Nat}{args:List C}{vs:List Value}{K:TL->aK->C->Prop}(u:TS G F L ρ M τ) (ha:ay F L args vs) (z:PS=⟨ps,hb,some st⟩) (h:sW P ps hb st fb f args M τ K) :
  kF P (yY G PS) fb f vs F L (fun F' L' v=>∃M' d c,TS G F' L' ρ M' d/\aL F' L' c (.v v)/\K M' d c):=by
 subst z;obtain⟨ks,Lin,R,Pp,h1,h2,h0,h5,ad,h6,al,h7⟩:=h;have h4:jt M ks ks=true:=qH (fun k b=>b);obtain⟨Li,w,e2,e3⟩:=j4 u.tl h1;have hn:=cP h2;obtain⟨bm,aE⟩:=cu w;refine⟨ks,Li,gC Li R,_,w,hn,xM h0,h6.out F Li vs (by simp[e2]) (kT u.tl e2 w e3) (ha.map fun c _ v hc=>(iR hc).ren (lp w)),?_,fun v F' Lo hF hR=>?_⟩
 ·rintro v F' L' Lo hF ac x ⟨Mo,q1,q2,q3⟩;have am:∀o∈Mo,o.Wf:=by
   intro o y;obtain⟨i,hi⟩:=abb.1 y;have l:i<Lo.length:=by rw[<-q1];exact(aaR.1 hi).1
   have:=q2 (1000+i);rw[ck,aF,fo (by omega),fo (by omega),show 1000+i-1000=i by omega,hi,aaN l] at this;exact cE.wf this
  obtain⟨y1,y2⟩:=cu ac;obtain⟨p1,p2⟩:=al v Mo q3 am (by omega);have p:∀j m,aH ks j=some m->∀o,(inp Lo).get j=some o->L'.get m=some o:=by
   intro j m hj o y;obtain⟨a1,r⟩:=nI hj;rw[aF,fo a1] at y;rw[y2 _ _ r];exact y
  refine⟨fun k g t e=>let⟨cs,h⟩:=u.kp k g t e;let⟨cs',h',_⟩:=x k g t cs h;⟨cs',h'⟩,p1,MH u.tl ad fun k g t cs b e=>(let⟨cs',h',q⟩:=x k g t cs e;by rw[h',q b]),fun s e=>?_⟩;injection e with e
  subst e;refine⟨_,fun k o b=>?_,p2⟩;rcases nG ks (Mo.map (TO.aad (C.ren (aH ks)))) [] k hn (by simp;omega) with⟨a1,r⟩ | ⟨i,a1,r,a3⟩
  ·rw[a1] at b;cases b
  ·rw[r,aa5] at b;have l:i<Mo.length:=by simpa using a3
   have n:i<Lo.length:=by omega
   rw[aaN l] at b;injection b with b
   subst b;refine⟨Lo[i],by rw[y2 _ _ a1];exact aaN n,?_⟩;have:=q2 (1000+i);rw[ck,aF,fo (by omega),fo (by omega),show 1000+i-1000=i by omega,aaN l,aaN n] at this;exact cE.ren p this
 ·obtain⟨a1,r,M',d,c,a3,a4,a5⟩:=qI u h2 h2 h4 h5 w e2 e3 h7 v F' Lo hF hR;have a:=qB (L:=L) hn a1;refine⟨a1,fun i g t cs e=>?_,fun _=>⟨M',d,c,a3.same a,a4.ext (au.le_refl F') fun k o e=>⟨o,by rw[a k];exact e,Own.aah o⟩,a5⟩⟩;obtain⟨Mo,c',_,_,_,b4,_⟩:=hR;exact b4 i g t cs e
end
section
variable {P:Program}{G:Nat->Option (Nat×TypeId)}{F:au}{L:Loc}{ρ:Env}{M:TL}{τ:aK}{a:Act}{w:World}
theorem C8 {F':au}(m:F.le F') {k:Nat}{a:Option Addr}{c:Nat}{t sz:Nat}{els:List (List C)}{xs:List Value}(r:L.get k=some (.row (.slice a els.length c) t sz els.length xs))
  (s:Rel F' (L.del k) (.sl els) (.slice a els.length c)):(∀d v,C.leaf d=true->Rel F L d v->Rel F' (L.del k) (mG k els d) v)/\(∀d sv,C.leaf d=true->aL F L d sv->aL F' (L.del k) (mG k els d) sv):=by
 have l:∀j,j≠k->∀o,L.get j=some o->∃o',(L.del k).get j=some o'/\Own.like o o':=fun j f o y=>⟨o,by rw[Loc.aaf,fL f];exact y,Own.aah o⟩;have b:∀g t cs,L.get k≠some (.box g t cs):=fun g t cs h=>by rw[r] at h;injection h with h;cases h
 constructor
 ·intro d v n h;cases d<;>simp only[C.leaf,aa1] at n
  case rw j =>
   simp only[mG];cases f:Nat.beq j k with
   | true =>
    have:=aaO f;subst this;simp only[Rel] at h;obtain⟨a',u,z,q,x,p,rfl,h⟩:=h;rw[r] at h;injection h with h
    injection h with q1 q2 q3 q4 q5
    rw[<-q1];exact s
   | false =>
    have:=nH b l m (.rw j) v rfl h;simpa only[fU,f] using this
  all_goals
   have:=nH b l m _ v rfl h;simpa only[fU,mG] using this
 ·intro d sv n h;cases d<;>simp only[C.leaf,aa1] at n
  case rw j =>
   simp only[mG];cases f:Nat.beq j k with
   | true =>
    have:=aaO f;subst this;simp only[aL,Rel] at h;obtain⟨v,e,a',u,z,q,x,p,rfl,h⟩:=h;rw[r] at h;injection h with h
    injection h with q1 q2 q3 q4 q5
    rw[<-q1] at e;exact⟨_,e,s⟩
   | false =>
    have:=oD b l m (.rw j) sv rfl h;simpa only[fU,f] using this
  all_goals
   have:=oD b l m _ sv rfl h;simpa only[fU,mG] using this
theorem cE.frz {F':au}(b:F.le F') {k:Nat}{els:List (List C)}(j:∀d v,C.leaf d=true->Rel F L d v->Rel F' (L.del k) (mG k els d) v):∀{o:TO}{p:Own},cE F L o p->cE F' (L.del k) (o.aad (C.frz k els)) p
 | .box t cs,.box g e f,r=>⟨r.1,r.2.map fun c _ v h=>Rel.mp j 3 h⟩
 | .row t sz els,.row v e l n xs,r=>⟨r.1,r.2.1,r.2.2.1,r.2.2.2.1,r.2.2.2.2.mono b⟩
 | .box _ _,.row ..,r=>r.elim
 | .row ..,.box ..,r=>r.elim
 | .map _,.row ..,r=>r.elim
 | .map es,.box g e f,r=>⟨r.1,r.2.mono b⟩
theorem rT {k:Nat}{t sz:Nat}{els:List (List C)}(z:St F L w) (he:aA L ρ a) (n:TS G F L ρ M τ) (hk:M.get k=some (.row t sz els)) :
  ∃F' L',St F' L' w/\aA L' ρ a/\Step F L w F' L' w/\TS G F' L' ρ ((M.del k).aad (C.frz k els)) (fun j=>(τ j).frz k els)/\(∀{c v},Rel F L c v->Rel F' L' (c.frz k els) v):=by
 obtain⟨v,xs,s,⟨hm,r,cv,rfl,x⟩,hr⟩:=lY n.tl hk;obtain⟨F',L',g1,g2,g3,f,b,rfl⟩:=qx (KK:=fun F' L'=>F.le F'/\P7 F' (.slice r els.length cv) sz els.length xs/\L'=L.del k) z he ⟨_,_,_,_,_,s,fun F' f b=>⟨f,b,rfl⟩⟩;have m:Rel F' (L.del k) (.sl els) (.slice r els.length cv):=by
  simp only[Rel];rcases b with⟨d,l,y⟩ | ⟨ad,c2,d,l,y⟩
  ·injection d with q1 q2 q3
   have:els=[]:=List.length_eq_zero_iff.1 q2;subst this;exact⟨r,cv,rfl,by simp,by simp,fun _=>⟨rfl,q3⟩,sz,by simp only[gu]⟩
  ·injection d with q1 q2 q3
   subst q1 q3;exact⟨some ad,cv,rfl,y,hm,fun e=>(by cases e),sz,(hr.mono f).frz l⟩
 obtain⟨u,l2⟩:=C8 f s m;refine⟨F',L.del k,g1,g2,g3,⟨fun j=>?_,fun j=>aL.mp u l2 3 (n.env j),fun j g t e=>?_,n.glob.mono f⟩,fun h=>Rel.mp u 3 h⟩
 ·rw[pY,TL.aaf,Loc.aaf];split
  ·trivial
  ·rcases dR (n.tl j) with⟨d,l⟩ | ⟨o,p,d,l,q⟩
   ·rw[d,l];trivial
   ·rw[d,l];exact q.frz f u
 ·obtain⟨cs,h⟩:=n.kp j g t e;exact⟨cs,by rw[Loc.aaf,fL (by rintro rfl;rw[s] at h;injection h with h;cases h)];exact h⟩
def xO (k g:Nat):SV->SV
 | .own b off=>match Nat.beq b k with | true=>.v (.pointer (some ⟨g,off,none⟩)) | false=>.own b off
 | .v x=>.v x
 | .el a i=>.el a i
theorem JK {F':au}(m:F.le F') {k g:Nat}{t:TypeId}{s:List Value}{es:List C}(u:L.get k=some (.box g t s)) (hg:F' g=some (.cells s.toArray t (0,0))) (h1:eG es=true) (z:ay F' [] es s) :
  (∀d v,C.leaf d=true->Rel F L d v->Rel F' (L.del k) (qC k es d) v)/\(∀d sv,C.leaf d=true->aL F L d sv->aL F' (L.del k) (qC k es d) (xO k g sv)):=by
 have r:∀j,j≠k->∀o,L.get j=some o->∃o',(L.del k).get j=some o'/\Own.like o o':=fun j f o ho=>⟨o,by rw[Loc.aaf,fL f];exact ho,Own.aah o⟩;have p:∀o,Mp F' g o o s:=fun o=>⟨0,_,t,(0,0),hg,by omega,fun i v hi=>by simpa using hi⟩;constructor
 ·intro d v hc h;cases d<;>simp only[C.leaf,aa1] at hc<;>simp only[qC]
  case own j off =>
   cases f:Nat.beq j k with
   | true =>
    have:=aaO f;subst this;simp only[Rel] at h ⊢;obtain⟨g',t',cs,e,rfl⟩:=h;rw[u] at e;injection e with e
    injection e with e1 e2 e3
    subst e1;exact⟨_,_,s,rfl,p off,h1,z⟩
   | false=>exact bD m (fun q e=>by
     rcases e with⟨off,e⟩ | e | e
     ·injection e with e;subst e;exact r j (gb f)
     ·cases e
     ·cases e) rfl h
  case rw j =>
   refine bD m (fun q e=>?_) rfl h;rcases e with⟨off,e⟩ | e | e
   ·cases e
   ·injection e with e
    subst e;refine r j ?_;rintro rfl;simp only[Rel] at h;obtain⟨a',c',t',an,n',am,rfl,h⟩:=h;rw[u] at h;injection h with h
    cases h
   ·cases e
  case mpr j =>
   cases f:Nat.beq j k with
   | true=>simp only[Rel]
   | false=>exact bD m (fun q e=>by
     rcases e with⟨off,e⟩ | e | e
     ·cases e
     ·cases e
     ·injection e with e;subst e;exact r j (gb f)) rfl h
  case ownv=>exact h.elim
  case elr=>exact h.elim
  all_goals
   exact bD m (fun q e=>by rcases e with⟨off,e⟩ | e | e<;>cases e) rfl h
 ·intro d sv hc h;have keep:∀{c:C},(∀j off,c≠.own j off)->c.leaf=true->c≠.any->aL F L c sv->xO k g sv=sv:=by
   intro c ag hl ab y;cases sv with
   | v x=>rfl
   | el a i=>rfl
   | own k' off =>
    exfalso;cases c<;>simp only[C.leaf,aa1] at hl<;>first
     | exact ag _ _ rfl
     | exact ab rfl
     | (obtain⟨v,e,_⟩:=y;cases e;done)
     | (obtain⟨b,o,j,us,e | e,_⟩:=y
        ·cases e.1
        ·cases e)
     | (obtain⟨ad,t,sz,n,c,xs,e,_⟩:=y;cases e;done)
     | (obtain⟨v,e | ⟨b,o,j,e,_⟩,_⟩:=y
        ·cases e
        ·cases e)
  cases d<;>simp only[C.leaf,aa1] at hc<;>simp only[qC]
  case any=>trivial
  case own j off =>
   obtain⟨rfl,g',t',cs,e⟩:=h;simp only[xO];cases f:Nat.beq j k with
   | true =>
    have:=aaO f;subst this;exact⟨g,off,0,s,.inl ⟨rfl,rfl⟩,p off,h1,z⟩
   | false =>
    obtain⟨o',q1,q2⟩:=r j (gb f) _ e;cases o' with
    | row=>exact q2.elim
    | box g2 t2 ar=>exact⟨rfl,g2,t2,ar,q1⟩
  case ownv j off =>
   rw[keep (c:=.ownv j off) (fun _ _ e=>by cases e) rfl (fun e=>by cases e) h];cases f:Nat.beq j k with
   | true =>
    have:=aaO f;subst this;obtain⟨v,ao,l⟩:=h;simp only[Rel] at l;obtain⟨g',t',cs,e,rfl⟩:=l;rw[u] at e;injection e with e
    injection e with e1 e2 e3
    subst e1;rcases ao with rfl | ⟨b,o,i,rfl,e⟩
    ·exact⟨g,off,0,s,.inl ⟨rfl,rfl⟩,p off,h1,z⟩
    ·injection e with e
     injection e with e
     injection e with q1 q2 q3
     subst q1 q2;exact⟨g,o,i,s,.inr rfl,p (o+i),h1,z⟩
   | false =>
    refine dB m (fun q e=>?_) rfl h;rcases e with⟨off,e⟩ | ⟨off,e⟩ | e | ⟨a,b,e⟩ | e<;>first | cases e;done | skip
    injection e with e
    subst e;exact r j (gb f)
  case rw j =>
   rw[keep (c:=.rw j) (fun _ _ e=>by cases e) rfl (fun e=>by cases e) h];refine dB m (fun q e=>?_) rfl h;rcases e with⟨off,e⟩ | ⟨off,e⟩ | e | ⟨a,b,e⟩ | e<;>first | cases e;done | skip
   injection e with e
   subst e;refine r j ?_;rintro rfl;obtain⟨v,_,l⟩:=h;simp only[Rel] at l;obtain⟨a',c',t',an,n',am,rfl,h⟩:=l;rw[u] at h;injection h with h
   cases h
  case elr j a b =>
   rw[keep (c:=.elr j a b) (fun _ _ e=>by cases e) rfl (fun e=>by cases e) h];refine dB m (fun q e=>?_) rfl h;rcases e with⟨off,e⟩ | ⟨off,e⟩ | e | ⟨a,b,e⟩ | e<;>first | cases e;done | skip
   injection e with e
   subst e;refine r j ?_;rintro rfl;obtain⟨ad,t,sz,n,c,xs,_,h⟩:=h;rw[u] at h;injection h with h
   cases h
  case mpr j =>
   rw[keep (c:=.mpr j) (fun _ _ e=>by cases e) rfl (fun e=>by cases e) h];cases f:Nat.beq j k with
   | true=>trivial
   | false =>
    refine dB m (fun q e=>?_) rfl h;rcases e with⟨off,e⟩ | ⟨off,e⟩ | e | ⟨a,b,e⟩ | e<;>first | cases e;done | skip
    injection e with e
    subst e;exact r j (gb f)
  all_goals
   rw[keep (fun _ _ e=>by cases e) rfl (fun e=>by cases e) h];exact dB m (fun q e=>by rcases e with⟨off,e⟩ | ⟨off,e⟩ | e | ⟨a,b,e⟩ | e<;>cases e) rfl h
theorem JL (k g:Nat) (ρ:Env) (j:Nat):wD k g ρ j=xO k g (ρ j):=by
 simp only[wD,xO];cases ρ j<;>rfl
theorem EJ {k:Nat}{t:TypeId}{cs:List C}(hs:St F L w) (he:aA L ρ a) (f:TS G F L ρ M τ) (hk:M.get k=some (.box t cs)) (h1:eG cs=true) (h2:iF cs=true) (hG:G k=none) :
  ∃F' L' ρ',St F' L' w/\aA L' ρ' a/\Step F L w F' L' w/\TS G F' L' ρ' ((M.del k).aad (C.frb k cs)) (fun j=>(τ j).frb k cs):=by
 obtain⟨g,ty,vs,x,hr,q⟩:=kS f.tl hk;obtain⟨F',l,y,g1,g2,g3⟩:=rJ hs he x;rw[jg q.2.2] at y;obtain⟨z,l2⟩:=JK (F:=F) l x y h1 ((ji h2 hr).mono l);refine⟨F',L.del k,_,g1,g2,g3,⟨fun j=>?_,fun j=>?_,fun j g t e=>?_,f.glob.mono l⟩⟩
 ·rw[pY,TL.aaf,Loc.aaf];split
  ·trivial
  ·rcases dR (f.tl j) with⟨s,u⟩ | ⟨o,p,s,u,b⟩
   ·rw[s,u];trivial
   ·rw[s,u];cases o with
    | row t sz els =>
     cases p with
     | box=>exact b.elim
     | row v t' av n xs=>exact⟨b.1,b.2.1,b.2.2.1,b.2.2.2.1,b.2.2.2.2.mono l⟩
    | box t cs =>
     cases p with
     | row=>exact b.elim
     | box g t' us=>exact⟨b.1,b.2.map fun c _ v h=>Rel.mp z 3 h⟩
    | map es =>
     cases p with
     | row=>exact b.elim
     | box g t' us=>exact⟨b.1,b.2.mono l⟩
 ·rw[JL];have m:=f.env j;cases d:(τ j).leaf with
  | true =>
   have e:(τ j).frb k cs=qC k cs (τ j):=wh d;simp only[e];exact l2 _ _ d m
  | false =>
   generalize ρ j=sv at m;generalize τ j=c at d m;have h':∃v,sv=.v v/\Rel F L c v:=by
    cases c<;>first | exact m | cases d
   obtain⟨v,rfl,hv⟩:=h';have r:Rel F' (L.del k) (c.frb k cs) v:=Rel.mp z 3 hv;cases c<;>first | exact⟨v,rfl,r⟩ | cases d
 ·obtain⟨cs,h⟩:=f.kp j g t e;exact⟨cs,by rw[Loc.aaf,fL (by rintro rfl;rw[hG] at e;cases e)];exact h⟩
theorem oF:∀{p:List Nat}{F:au}{L:Loc}{M:TL}{τ:aK}{args:List C}{f:List Value}{K:TL->aK->List C->Prop},St F L w->aA L ρ a->TS G F L ρ M τ->ay F L args f->xq p M τ args K ->
  ∃F' L' M' e b,St F' L' w/\aA L' ρ a/\Step F L w F' L' w/\TS G F' L' ρ M' e/\ay F' L' b f/\K M' e b
 | [],F,L,M,τ,args,f,K,n,o,m,j,h=>⟨F,L,M,τ,args,n,o,Step.refl _ _ _,m,j,h⟩
 | k::p,F,L,M,τ,args,f,K,n,o,m,j,h=>by
  simp only[xq] at h;split at h
  case h_2=>exact h.elim
  rename_i t sz els hk;obtain⟨F1,L1,z,g2,g3,u,s⟩:=rT n o m hk;obtain⟨F2,L2,M2,l,d,k1,r,q,x,k5,k6⟩:=oF z g2 u (j.map fun c _ v y=>s y) h;exact⟨F2,L2,M2,l,d,k1,r,g3.trans q,x,k5,k6⟩
def tu (L:Loc):TL->Loc
 | []=>[]
 | (k,o)::l=>(k,match L.get k with
  | some p=>p
  | none=>match o with
   | .row t sz _=>.row (.slice none 0 0) t sz 0 []
   | .box _ _=>.row (.slice none 0 0) 0 0 0 []
   | .map _=>.row (.slice none 0 0) 0 0 0 [])::tu L l
theorem lu:∀(M1:TL) (k:Nat),(tu L M1).get k=match M1.get k with
  | some o=>some (match L.get k with | some p=>p | none=>match o with | .row t sz _=>.row (.slice none 0 0) t sz 0 [] | .box _ _=>.row (.slice none 0 0) 0 0 0 [] | .map _=>.row (.slice none 0 0) 0 0 0 [])
  | none=>none
 | [],k=>rfl
 | (j,o)::l,k=>by
  simp only[tu,Loc.get,TL.get];cases h:Nat.beq j k with
  | true=>have:=aaO h;subst this;rfl
  | false=>exact lu l k
theorem C9:∀{l:TL}{M1:TL},gives M M1 l->∀{k o},l.get k=some o->(∃p,M.get k=some p/\UQ M M1 p o)\/(M.get k=none/\∃t sz,o=.row t sz [])
 | [],M1,h,k,o,e=>by cases e
 | (j,p)::l,M1,h,k,o,e=>by
  simp only[gives] at h;simp only[TL.get] at e;split at e
  ·rename_i b;have:=aaO b;subst this;injection e with e
   subst e;exact h.1
  ·exact C9 h.2 e
theorem uN (c:bK F L M) {M1:TL}:∀{l:TL},gives M M1 l->L.gives (tu L l)
 | [],h=>trivial
 | (j,p)::l,h=>by
  simp only[gives] at h;refine⟨?_,uN c h.2⟩;rcases h.1 with⟨q,b,m⟩ | ⟨b,t,sz,rfl⟩
  ·rcases dR (c j) with⟨d,e⟩ | ⟨o,f,d,e,k⟩
   ·rw[d] at b;cases b
   ·simp only[e];exact .inl trivial
  ·have:=bY c b;simp only[this];exact .inr ⟨trivial,t,sz,rfl⟩
theorem vA {L':Loc}{M1:TL}(t:∀k o,M1.get k≠none->L.get k=some o->L'.get k=some o):∀(n:Nat) {c:C}{v:Value},fp M1 n c=true->Rel F L c v->Rel F L' c v:=by
 have d:∀{c:C}{v:Value},c.leaf=true->qD M1 c=true->Rel F L c v->Rel F L' c v:=by
  intro c v f b h;refine bD (au.le_refl F) (fun k e o u=>⟨o,t k o ?_ u,Own.aah o⟩) f h;rcases e with⟨off,rfl⟩ | rfl | rfl
  ·simp only[qD] at b;intro e;rw[e] at b;cases b
  ·simp only[qD] at b;intro e;rw[e] at b;cases b
  ·simp only[qD] at b;intro e;rw[e] at b;cases b
 intro n
 induction n with
 | zero =>
  intro c v b h;cases f:c.leaf
  ·cases c<;>simp only[C.leaf,Bool.true_eq_false] at f<;>simp only[fp,aa1] at b
  ·refine d f ?_ h;cases c<;>simp only[C.leaf,aa1] at f<;>simpa only[fp] using b
 | succ n q =>
  intro c v b h;have all:∀{cs:List C}{l:List Value},cs.all (fp M1 n)=true->ay F L cs l->ay F L' cs l:=by
   intro cs l h1 j;have:=j.map (g:=id) (F':=F) (L':=L') (fun c f v r=>q (aaY.1 h1 c f) r);simpa using this
  cases f:c.leaf
  ·cases c<;>simp only[C.leaf,Bool.true_eq_false] at f<;>simp only[fp,xo] at b<;>simp only[Rel] at h ⊢
   ·obtain⟨p,m,h1,j,s⟩:=h;exact⟨p,m,h1,all b.1 j,all b.2 s⟩
   ·obtain⟨l,h1,j⟩:=h;exact⟨l,h1,all b j⟩
   ·obtain⟨l,h1,j⟩:=h;exact⟨l,h1,all b j⟩
  ·refine d f ?_ h;cases c<;>simp only[C.leaf,aa1] at f<;>simpa only[fp] using b
theorem qJ (j:bK F L M) {M1:TL}{c f:C}{v:Value}(h:Mn M M1 c f) (b:Rel F L c v):Rel F (tu L M1) f v:=by
 rcases h with rfl | ⟨rfl,l⟩ | ⟨rfl,rfl⟩ | ⟨rfl,k,t,sz,rfl,h1,d⟩ | ⟨els,rfl,rfl⟩
 ·simp only[Rel]
 ·refine vA (fun k o h1 d=>?_) 3 l b;rw[lu];cases e:M1.get k with
  | none=>exact o5 e h1
  | some q=>simp only[d]
 ·exact s9 (c:=.nils) (by simpa only[Rel] using b)
 ·simp only[Rel] at b ⊢;subst b;refine⟨none,0,t,sz,0,[],rfl,?_⟩;rw[lu,d];simp only[bY j h1]
 ·simpa only[Rel] using uK b
theorem Da (k:bK F L M) {M1:TL}:∀{cs cs':List C}{b:List Value},Jy M M1 cs cs'->ay F L cs b->ay F (tu L M1) cs' b
 | [],cs',b,h,d=>by simp only[Jy] at h;subst h;simpa only[ay] using d
 | c::cs,cs',b,h,d=>by
  simp only[Jy] at h;obtain⟨n,m,rfl,h1,l⟩:=h;simp only[ay] at d ⊢;obtain⟨v,e,rfl,f,j⟩:=d;exact⟨v,e,rfl,qJ k h1 f,Da k l j⟩
theorem MI (m:bK F L M) {M1:TL}{o o':TO}{p:Own}(h:UQ M M1 o o') (b:cE F L o p):cE F (tu L M1) o' p:=by
 rcases h with⟨rfl,d⟩ | ⟨t,cs,cs',rfl,rfl,h⟩
 ·cases o with
  | row t sz els=>cases p with
   | row=>exact b
   | box=>exact b.elim
  | map es=>cases p with
   | row=>exact b.elim
   | box=>exact b
  | box t cs=>cases p with
   | row=>exact b.elim
   | box g r n =>
    simp only[Pf] at d;refine⟨b.1,?_⟩;have:=b.2.map (g:=id) (F':=F) (L':=tu L M1) (fun c j v f=>vA (fun k o h1 l=>by
     rw[lu];cases e:M1.get k with
     | none=>exact o5 e h1
     | some q=>simp only[l]) 3 (aaY.1 d c j) f)
    simpa using this
 ·cases p with
  | row=>exact b.elim
  | box g r n=>exact⟨b.1,Da m h b.2⟩
theorem xP (c:bK F L M) {M1:TL}(h:gives M M1 M1):bK F (tu L M1) M1:=by
 intro k;rw[lu];cases e:M1.get k with
 | none=>trivial
 | some o =>
  rcases C9 h e with⟨q,b,l⟩ | ⟨b,t,sz,rfl⟩
  ·rcases dR (c k) with⟨d,f⟩ | ⟨q',p,d,f,j⟩
   ·rw[d] at b;cases b
   ·rw[d] at b;injection b with b
    subst b;simp only[f];exact MI c l j
  ·simp only[bY c b];exact⟨rfl,rfl,rfl,⟨by simp,none,0,rfl,fun _=>rfl⟩,by simp only[aN]⟩
theorem xQ (c:St F L w) (b:bK F L M) {M1:TL}(h:gives M M1 M1):St F (tu L M1) w/\Step F L w F (tu L M1) w:=⟨c.gives (uN b h),rK (uN b h)⟩
theorem mh:∀{l M1:TL},ou l M1=true->∀{k o},l.get k=some o->Bx o=false->∃o',M1.get k=some o'
 | [],M1,h,k,o,e,_=>by cases e
 | (j,.box p n)::l,M1,h,k,o,e,b=>by
  simp only[ou] at h;split at h
  case h_2=>cases h
  rename_i m f h1;simp only[TL.get] at e;split at e
  ·rename_i c;have:=aaO c;subst this;exact⟨_,h1⟩
  ·exact mh h e b
 | (j,.map es)::l,M1,h,k,o,e,b=>by
  simp only[ou] at h;split at h
  case h_2=>cases h
  rename_i d h1;simp only[TL.get] at e;split at e
  ·rename_i c;have:=aaO c;subst this;exact⟨_,h1⟩
  ·exact mh h e b
 | (j,.row ..)::l,M1,h,k,o,e,b=>by
  simp only[ou] at h;simp only[TL.get] at e;split at e
  ·injection e with e;subst e;cases b
  ·exact mh h e b
theorem xR:∀{l M1:TL},covers l M1=true->∀{k o},l.get k=some o->∃o',M1.get k=some o'
 | [],M1,h,k,o,e=>by cases e
 | (j,p)::l,M1,h,k,o,e=>by
  simp only[covers] at h;split at h
  case h_2=>cases h
  rename_i q h1;simp only[TL.get] at e;split at e
  ·rename_i b;have:=aaO b;subst this;exact⟨_,h1⟩
  ·exact xR h e
theorem JM {L':Loc}(c:aA L ρ a) (h:∀k g t cs,L.get k=some (.box g t cs)->∃cs',L'.get k=some (.box g t cs')):aA L' ρ a:=by
 refine⟨fun t=>?_,fun t k off e=>?_,c.el⟩
 ·rw[c.eq t];cases e:ρ t with
  | v x=>rfl
  | el a j=>rfl
  | own k off =>
   obtain⟨g,ty,cs,d⟩:=c.own t k off e;obtain⟨cs',b⟩:=h _ _ _ _ d;simp only[conc,d,b]
 ·obtain⟨g,ty,cs,d⟩:=c.own t k off e;obtain⟨cs',b⟩:=h _ _ _ _ d;exact⟨g,ty,cs',b⟩
theorem qb (n:St F L w) (r:aA L ρ a) (c:TS G F L ρ M τ) {M1:TL}(h:gives M M1 M1) (l:covers M M1=true) :
  St F (tu L M1) w/\aA (tu L M1) ρ a/\Step F L w F (tu L M1) w/\TS G F (tu L M1) ρ M1 τ/\Ext L (tu L M1):=by
 obtain⟨h1,m⟩:=xQ n c.tl h;have b:∀k o,L.get k=some o->(tu L M1).get k=some o:=by
  intro k o e;rcases dR (c.tl k) with⟨f,d⟩ | ⟨q,p,f,d,u⟩
  ·rw[d] at e;cases e
  ·obtain⟨o',s⟩:=xR l f;rw[lu,s];simp only[e]
 refine⟨h1,JM r fun k g t cs e=>⟨cs,b _ _ e⟩,m,⟨xP c.tl h,fun j=>(c.env j).ext (au.le_refl F) fun k o e=>⟨o,b k o e,Own.aah o⟩,fun k g t e=>?_,c.glob⟩,fun k o e=>⟨o,b k o e,Own.aah o⟩⟩;obtain⟨cs,h⟩:=c.kp k g t e;exact⟨cs,b _ _ h⟩
theorem Qv {F:au}{args:List C}{b:List Value}(ha:ay F L args b):ay F (inp []) (args.map fun c=>c.aaj.ren (bh [] 1000)) b :=
 ha.map fun c _ v d=>(iR d).ren (fun j m e=>by cases e)
theorem UY {F:au}{L:Loc}{args:List C}{f:List Value}{d:Nat}{o:Own}(k:L.get d=some o) (ha:ay F L args f):ay F (inp [o]) (args.map fun c=>c.aaj.ren (bh [d] 1000)) f :=
 ha.map fun c _ v h=>(iR h).ren (fun j m e o' b=>by
  obtain⟨n,h1,rfl⟩:=Bw e;cases n with
  | zero =>
   simp only[aa3,vz] at h1;subst h1;rw[k] at b;injection b with b
   subst b;rfl
  | succ n=>simp at h1)
theorem EK:bK F (inp []) (cD []):=fun k=>by rw[ck,aF];split<;>simp[xu]
theorem gC.aao {Li:List Own}{R:List TO->C->Prop}:∀F G L v,au.le F G->gC Li R F L v->gC Li R G L v:=by
 rintro F G L v b ⟨Mo,c,e,f,h,d,j⟩;exact⟨Mo,c,e,f.mono b,h.mono b,d,j⟩
theorem uO {f:Nat}{args:List C}{z:List Value}{d:Option Nat}{K:TL->aK->C->Prop}(r:TS G F L ρ M τ) (ha:ay F L args z) (h:uF P f args M τ d K) :
  dH P f z F L d (fun F' L' v=>∃M' aE c,TS G F' L' ρ M' aE/\aL F' L' c (.v v)/\K M' aE c):=by
 cases h with
 | frz R h k =>
  refine .frz (gC [] R) (h.out F [] z rfl EK (Qv ha)) ?_;rintro v F' Lo l ⟨Mo,c,q,u,b,q4,y⟩;obtain⟨rfl,k2⟩:=k c Mo y b.wf;have:Lo=[]:=List.length_eq_zero_iff.1 (by rw[<-q];rfl);subst this;exact⟨rfl,fun _=>⟨M,τ,_,r.mono l,kx (b.ext (au.le_refl F') (fun k o e=>by rw[aF] at e;split at e<;>simp at e)),k2⟩⟩
 | own R k h hd hk kk =>
  refine .own (gC [] R) k (h.out F [] z rfl EK (Qv ha)) hd (bY r.tl hk) ?_;rintro v F' Lo l ⟨Mo,c,q,u,b,q4,y⟩;have bm:∀o∈Mo,o.Wf:=by
   intro o ho;obtain⟨i,hi⟩:=abb.1 ho;have bu:i<Lo.length:=by rw[<-q];exact(aaR.1 hi).1
   have:=u (1000+i);rw[ck,aF,fo (by omega),fo (by omega),show 1000+i-1000=i by omega,hi,aaN bu] at this;exact cE.wf this
  obtain⟨o,rfl,k2⟩:=kk c Mo y b.wf bm
  match Lo,q with
  | [p],_ =>
   have n:∀j m,aH [k] j=some m->∀o,(inp [p]).get j=some o->(L.set k p).get m=some o:=by
    intro j m hj o ho;obtain⟨a1,a2⟩:=nI hj;rw[aF,fo a1] at ho;have:j-1000=0:=by have:=(aaR.1 a2).1;simp at this;omega
    rw[this] at ho a2;simp at ho a2;subst ho a2;rw[Loc.aac,fo rfl]
   have ao:=u 1000;rw[ck,aF,fo (by omega),fo (by omega)] at ao;refine⟨p,rfl,fun _=>⟨_,τ,_,r.new l (bY r.tl hk) (cE.ren n ao),kx (b.ren n),k2⟩⟩
 | row R kr t sz els ar hk h kk =>
  obtain⟨rv,xs,hL,⟨hm,av,cv,rfl,bz⟩,hr⟩:=lY r.tl hk;refine .row (fun F' Lo v=>Lo=[]/\gC [] R F' [] v) kr _ t sz els.length xs ⟨ar,fun F1 F2 L v bo s=>⟨s.1,gC.aao _ _ _ _ bo s.2⟩,fun w hs=>?_⟩ hL ?_
  ·have bp:aA (inp [.row (.slice av els.length cv) t sz els.length xs]) (fun _=>.v undef) (⟨#[],[]⟩:Act):=by
    refine⟨fun j=>?_,fun j k off e=>(by cases e),fun j a i e=>(by cases e)⟩;simp[conc]
   obtain⟨F2,L2,g1,_,g3,l,aa,rfl⟩:=qx (k:=1000) (KK:=fun F' L'=>F.le F'/\P7 F' (.slice av els.length cv) sz els.length xs/\L'=(inp [.row (.slice av els.length cv) t sz els.length xs]).del 1000) hs bp ⟨_,_,_,_,_,rfl,fun F' l aa=>⟨l,aa,rfl⟩⟩;have am:Rel F2 (L.del kr) (.sl els) (.slice av els.length cv):=by
    simp only[Rel];rcases aa with⟨e1,e2,e3⟩ | ⟨ad,c2,e1,e2,e3⟩
    ·injection e1 with q u b
     have:els=[]:=List.length_eq_zero_iff.1 u;subst this;exact⟨av,cv,rfl,by simp,by simp,fun _=>⟨rfl,b⟩,sz,by simp only[gu]⟩
    ·injection e1 with q u b
     subst q b;exact⟨some ad,cv,rfl,e3,hm,fun e=>(by cases e),sz,(hr.mono l).frz e2⟩
   obtain⟨l1,_⟩:=C8 l hL am;have bi:ay F2 (L.del kr) (args.map (C.frz kr els)) z:=ha.map fun c _ v hc=>Rel.mp l1 3 hc;have aw:=Qv bi;rw[abQ] at aw;refine((h.out F2 [] z rfl EK aw).run w g1).mono ?_;rintro e w' ⟨v,F',Lo,rfl,be,bs,s⟩;have bj:Lo=[]:=by
    obtain⟨Mo,c,q,u,b,q4,y⟩:=s;obtain⟨rfl,_⟩:=kk c Mo y b.wf;exact List.length_eq_zero_iff.1 (by rw[<-q];rfl)
   subst bj;exact⟨v,F',[],rfl,be,g3.trans bs,rfl,s⟩
  ·rintro v F' Lo l ⟨rfl,Mo,c,q,u,b,q4,y⟩;obtain⟨rfl,k2⟩:=kk c Mo y b.wf;refine⟨rfl,fun _=>⟨_,_,_,(r.mono l).aay (k:=kr) (o':=.row (.slice none 0 0) t sz 0 []) (to:=.row t sz []) (fun g t' cs e=>by rw[hL] at e;injection e with e;cases e) ⟨rfl,rfl,rfl,⟨aa9 _,none,0,rfl,fun _=>rfl⟩,by simp only[aN]⟩,kx (b.ext (au.le_refl F') (fun k o e=>by rw[aF] at e;split at e<;>simp at e)),k2⟩⟩
 | lent kr t sz els x hk h k =>
  obtain⟨rv,xs,hL,ac,hr⟩:=lY r.tl hk;refine .lent (fun F' v=>Rel F' (inp []) x v) kr rv t sz els.length xs (h.out F rv xs z ⟨rfl,rfl,rfl,ac,hr⟩ (UY hL ha)) hL fun v F' l s _=>?_;exact⟨M,τ,_,r.mono l,kx (s.ext (au.le_refl F') (fun k o e=>by rw[aF] at e;split at e<;>simp at e)),k s.wf⟩
def j5:dO->Bool
 | .call _ _=>true
 | .callV _ _=>true
 | _=>false
theorem TS.aap {F:au}{L:Loc}{ρ:Env}{M:TL}{τ:aK}{K:TK}{d:Option Nat}(e:TS G F L ρ M τ) {c:C}{sv:SV}(b:aL F L c sv) (h:K M (bg d c τ)):Both G K F L (Fr.put d sv ρ):=⟨_,_,e.put b d,h⟩
theorem jn (h:∀j,aL F L (τ j) (ρ j)) {e d:List C}{c b:List Value}(h1:ay F L e c) (f:ay F L d b) (args:List X):ay F L (e++eY τ args++d) (c.toArray.toList++aZ L ρ args++b.toArray.toList):=by
 simpa using(h1.append (dL h args)).append f
theorem dP.imp {f:Nat}{args:List Value}{F:au}{L:Loc}{K K':au->Loc->Value->Prop}(h:dP P f args F L K) (o:∀F' L' v,K F' L' v->K' F' L' v):dP P f args F L K':=by
 obtain⟨ks,ko,Lin,R,h1,d,k,m,e,n⟩:=h;exact⟨ks,ko,Lin,R,h1,d,k,m,e,fun v F' Lo l j=>let⟨a,b,c⟩:=n v F' Lo l j;⟨a,b,o _ _ _ c⟩⟩
theorem dH.imp' {f:Nat}{args:List Value}{F:au}{L:Loc}{d:Option Nat}{K K':au->Loc->Value->Prop}(h:dH P f args F L d K) (p:∀F' L' v,K F' L' v->K' F' L' v):dH P f args F L d K':=by
 cases h with
 | frz R h k=>exact .frz R h fun v F' Lo j e=>let⟨a,b⟩:=k v F' Lo j e;⟨a,fun l=>p _ _ _ (b l)⟩
 | own R k h s c m=>exact .own R k h s c fun v F' Lo j e=>let⟨o,a,b⟩:=m v F' Lo j e;⟨o,a,fun l=>p _ _ _ (b l)⟩
 | row R r q t sz n xs h c m=>exact .row R r q t sz n xs h c fun v F' Lo j e=>let⟨a,b⟩:=m v F' Lo j e;⟨a,fun l=>p _ _ _ (b l)⟩
 | lent R r q t sz n xs h c m=>exact .lent R r q t sz n xs h c fun v F' j e l=>p _ _ _ (m v F' j e l)
theorem JN {op:BinOp}{k:IntKind}{a b:Int}{K K':Value->Prop}(h:binI op k a b K) (c:∀v,K v->K' v):binI op k a b K':=by
 cases op<;>simp only[binI] at h ⊢<;>first
  | exact h.elim
  | exact⟨c _ h.out⟩
  | exact⟨h.ne,⟨c _ h.out.out⟩⟩
  | exact⟨h.ne,c _ h.out⟩
  | exact c _ h
theorem MJ {op:BinOp}{k:IntKind}{a b:Int}{K K':Value->Prop}(h:shI op k a b K) (c:∀v,K v->K' v):shI op k a b K':=by
 cases op<;>simp only[shI] at h ⊢<;>first
  | exact h.elim
  | exact⟨h.1,⟨c _ h.2.out⟩⟩
  | exact⟨h.1,c _ h.2⟩
theorem JO {op:BinOp}{a b:ByteArray}{K K':Value->Prop}(h:binS op a b K) (c:∀v,K v->K' v):binS op a b K':=by
 cases op<;>simp only[binS] at h ⊢<;>first
  | exact h.elim
  | exact c _ h
  | exact⟨h.1,c _ h.2⟩
theorem Db {o:dO}{V V':SV->Prop}{F:au}{L:Loc}{ρ:Env}(h:aJ o F L ρ V) (d:∀v,V v->V' v):aJ o F L ρ V':=by
 have load:∀{a:Option Addr}{j n:Nat}{g:List Value->SV},jV F L a j n (fun cs=>V (g cs))->jV F L a j n (fun cs=>V' (g cs)):=fun h=>⟨let⟨cs,h1,e,f⟩:=h.out;⟨cs,h1,e,d _ f⟩⟩;have loadD:∀{a:Option Addr}{j n:Nat}{g:List Value->SV},iV F a j n (fun cs=>V (g cs))->iV F a j n (fun cs=>V' (g cs)):=fun h=>⟨let⟨cs,h1,e,f⟩:=h.out;⟨cs,h1,e,d _ f⟩⟩;cases o<;>simp only[aJ] at h ⊢<;>first
  | exact h.elim
  | exact d _ h
  | skip
 case pick c a b =>
  generalize ev ρ c=z at h ⊢;split at h<;>first | exact h.elim | exact d _ h
 case build zs ps =>
  generalize built L ρ zs ps=z at h ⊢;split at h<;>first | exact h.elim | exact d _ h
 case load agg n x =>
  generalize ev ρ x=z at h ⊢;split at h
  ·rename_i k off;generalize L.get k=y at h ⊢;split at h
   ·rename_i t cs;generalize i9 t ((cs.drop off).take n) n=b at h ⊢;cases b
    ·exact h.elim
    ·exact d _ h
   ·exact h.elim
  ·exact load h
  ·exact load h
  ·exact h.elim
 case loadR agg n x =>
  generalize ev ρ x=z at h ⊢;split at h
  ·rename_i k off;generalize L.get k=y at h ⊢;split at h
   ·rename_i t cs;generalize i9 t ((cs.drop off).take n) n=b at h ⊢;cases b
    ·exact h.elim
    ·exact d _ h
   ·exact h.elim
  ·exact load h
  ·exact load h
  ·exact h.elim
 case loadD agg n x =>
  generalize ev ρ x=z at h ⊢;split at h
  ·rename_i k off;generalize L.get k=y at h ⊢;split at h
   ·rename_i t cs;generalize i9 t ((cs.drop off).take n) n=b at h ⊢;cases b
    ·exact h.elim
    ·exact d _ h
   ·exact h.elim
  ·exact loadD h
  ·exact loadD h
  ·exact h.elim
 case gload g =>
  obtain⟨v,t,s,h1,e⟩:=h;exact⟨v,t,s,h1,d _ e⟩
 case loadF agg n x =>
  generalize ev ρ x=z at h ⊢;split at h
  ·exact loadD h
  ·exact loadD h
  ·exact h.elim
 case loadK key agg n x =>
  generalize ev ρ x=z at h ⊢;split at h
  ·rename_i k off;generalize Nat.beq k key=q at h ⊢;cases q
   ·exact h.elim
   ·simp only[] at h ⊢;generalize L.get k=y at h ⊢;split at h
    ·rename_i t cs;generalize i9 t ((cs.drop off).take n) n=b at h ⊢;cases b
     ·exact h.elim
     ·exact d _ h
    ·exact h.elim
  ·exact h.elim
 case mlook str ok z0 x i =>
  generalize ev ρ x=z at h ⊢;split at h
  ·obtain⟨k,cs,h1,e,⟨f⟩⟩:=h;exact⟨k,cs,h1,e,⟨f.imp (fun⟨i,v,p,m⟩=>⟨i,v,p,d _ m⟩) fun⟨p,m⟩=>⟨p,d _ m⟩⟩⟩
  ·exact h.elim
 case mkif t x =>
  generalize ev ρ x=z at h ⊢;split at h<;>first | exact h.elim | exact d _ h
 case nilck x =>
  generalize ev ρ x=z at h ⊢;split at h<;>first
   | exact h.elim
   | exact d _ h
   | exact⟨h.1,d _ h.2⟩
   | (split at h
      ·exact⟨h.1,d _ h.2⟩
      ·exact h.elim)
 case bin op x y =>
  generalize ev ρ x=z at h ⊢;generalize ev ρ y=z' at h ⊢;split at h
  ·rename_i k a k' b;generalize IJ op=q at h ⊢;cases q
   ·generalize pB k k'=r at h ⊢;cases r
    ·exact h.elim
    ·exact JN h fun v=>d _
   ·exact MJ h fun v=>d _
  ·exact JO h fun v=>d _
  ·exact h.elim
 case eqB neg x y =>
  generalize ev ρ x=z at h ⊢;generalize ev ρ y=z' at h ⊢;split at h<;>first | exact h.elim | exact d _ h
 case eqS neg x y =>
  generalize ev ρ x=z at h ⊢;generalize ev ρ y=z' at h ⊢;split at h<;>first | exact h.elim | exact d _ h
 case tas t z x =>
  generalize ev ρ x=y at h ⊢;split at h<;>first
   | exact d _ h
   | (split at h<;>exact d _ h)
   | exact h.elim
 case eqN neg x =>
  generalize ev ρ x=z at h ⊢;split at h<;>first | exact h.elim | exact d _ h
 case eqA neg ks x y =>
  generalize ev ρ x=z at h ⊢;generalize ev ρ y=z' at h ⊢;split at h
  case h_2=>exact h.elim
  rename_i cs ds;generalize iO ks cs.toList ds.toList true=q at h ⊢;cases q with
  | none=>exact h.elim
  | some b=>exact d _ h
 case un op x =>
  generalize ev ρ x=z at h ⊢;split at h<;>first | exact h.elim | exact d _ h | exact⟨d _ h.out⟩
 case conv k x =>
  generalize ev ρ x=z at h ⊢;split at h<;>first | exact h.elim | exact⟨d _ h.out⟩
 case slc sz x lo hi =>
  generalize ev ρ x=z at h ⊢;split at h
  ·rename_i a n c;generalize mV ρ 0 lo=y at h ⊢;generalize mV ρ n hi=y' at h ⊢;split at h
   ·exact⟨h.lo,h.le,h.hi,d _ h.out⟩
   ·exact h.elim
  ·exact h.elim
 case fieldA off x =>
  generalize ev ρ x=z at h ⊢;split at h<;>first | exact h.elim | exact d _ h
 case idxA sz x i =>
  generalize ev ρ x=z at h ⊢;generalize ev ρ i=z' at h ⊢;split at h
  ·exact⟨h.ne,h.lo,h.hi,d _ h.out⟩
  ·exact h.elim
 case extr x i =>
  generalize ev ρ x=z at h ⊢;split at h
  ·rename_i u;generalize u.toList[i]?=y at h ⊢;cases y
   ·exact h.elim
   ·exact d _ h
  ·exact h.elim
 case len x =>
  generalize ev ρ x=z at h ⊢;split at h<;>first | exact h.elim | exact d _ h
 case mm mx args =>
  generalize args.map (ev ρ)=z at h ⊢;split at h
  ·rename_i k a l;generalize O5 mx a l=y at h ⊢;cases y
   ·exact h.elim
   ·exact d _ h
  ·exact h.elim
theorem Qw {o:dO}{d:Option Nat}{K:TK}{F:au}{L:Loc}{ρ:Env}{M:TL}{τ:aK}(b:TS G F L ρ M τ) (h:outT o M τ fun v=>K M (bg d v τ)):aJ o F L ρ (fun v=>Both G K F L (Fr.put d v ρ)) :=
 Db (UW b h) fun sv ⟨c,e,f⟩=>b.aap e f
set_option maxHeartbeats 1000000 in
theorem MK {F:au}{L:Loc}{ρ:Env}{K:dm}{n:Nat}{a x:X}{d:Option Nat}(h:evalOp P (.store n a x) d F L ρ K):evalOp P (.storeX n a x) d F L ρ K:=by
 simp only[evalOp] at h ⊢;split at h
 ·split at h
  ·split at h
   ·exact fun _=>h
   ·exact h.elim
  ·exact h.elim
 ·exact⟨let⟨k,v,t,sz,m,xs,ad,c,h1,h2,h3,h4,h5,h6⟩:=h.out;⟨k,v,t,sz,m,xs,ad,c,h1,h2,h3,h4,h5,fun _=>h6⟩⟩
 ·exact⟨let⟨k,v,t,sz,m,xs,ad,c,h1,h2,h3,h4,h5,h6⟩:=h.out;⟨k,v,t,sz,m,xs,ad,c,h1,h2,h3,h4,h5,fun _=>h6⟩⟩
 ·exact h.elim
theorem MN {str:Bool}{c:C}(h:Jw str c=true):(∃n,str=false/\c=.int .i64 n)\/∃s,str=true/\c=.str s:=by
 unfold Jw at h;split at h
 ·exact .inl ⟨_,rfl,rfl⟩
 ·exact .inr ⟨_,rfl,rfl⟩
 ·cases h
theorem FN {F:au}{str:Bool}{key c:C}{kv v:Value}(j:Rel F [] key kv) (n:Rel F [] c v):∀{es b:List (C×C)}{m:List Value},fC F es m->EB str key c es=some b->∃f,wC str kv v m=some f/\fC F b f
 | [],b,m,h,e=>by
  simp only[fC] at h;subst h;simp only[EB,vz] at e;subst e;exact⟨_,rfl,by simp only[fC];exact⟨kv,v,[],rfl,j,n,rfl⟩⟩
 | (k,d)::l,b,m,h,e=>by
  simp only[fC] at h;obtain⟨u,x,f,rfl,h1,q,p⟩:=h;simp only[EB] at e;split at e
  ·rename_i o;injection e with e
   subst e;exact⟨_,by simp only[wC,pX o j h1];rfl,by simp only[fC];exact⟨kv,v,f,rfl,j,n,p⟩⟩
  ·rename_i o;split at e
   case h_2=>cases e
   rename_i z r;injection e with e
   subst e;obtain⟨y,s,t⟩:=FN j n p r;exact⟨_,by simp only[wC,pX o j h1,s];rfl,by simp only[fC];exact⟨u,x,y,rfl,h1,q,t⟩⟩
  ·cases e
theorem Hu {F:au}{L:Loc}{c:C}{v:Value}(h:Rel F L c.cel v) (b:iF (cJ c)=true):Rel F [] c.cel.aaj v:=by
 have leaf:iF [c]=true->Rel F L c v->Rel F [] c v:=fun b h=>by
  have:=ji (L':=[]) b (show ay F L [c] [v] by simp only[ay];exact⟨v,[],rfl,h,rfl⟩);simp only[ay] at this;obtain⟨u,us,e,h1,_⟩:=this;injection e with e1 e2
  rw[e1];exact h1
 cases c
 case agg cs =>
  simp only[C.cel,cJ] at h b ⊢;refine iR ?_;simp only[Rel] at h ⊢;obtain⟨f,h1,d⟩:=h;exact⟨f,h1,ji b d⟩
 case ownv k o=>simp[cJ,iF,C.pure,C.aal] at b
 case elr k j o=>simp[cJ,iF,C.pure,C.aal] at b
 all_goals
  simp only[C.cel,cJ] at h b ⊢;exact iR (leaf b h)
theorem JP {o:dO}{d:Option Nat}{K:TK}{F:au}{L:Loc}{ρ:Env}{M:TL}{τ:aK}(ho:j5 o=false) (l:TS G F L ρ M τ) (h:bN P o d M τ K):evalOp P o d F L ρ (Both G K):=by
 have r:=l.env;cases o
 case call=>cases ho
 case callV=>cases ho
 case box t x =>
  simp only[bN,fV,eX,eO] at h;simp only[evalOp];split at h
  case h_2=>exact h.elim
  rename_i k;split at h
  case h_2=>exact h.elim
  rename_i q hc hb;simp only[bY l.tl q];exact fun g=>FL l q hc (fZ hb) h g
 case boxD t x =>
  simp only[bN,fV,eX,eO] at h;simp only[evalOp];split at h
  case h_2=>exact h.elim
  rename_i k;split at h
  case h_2=>exact h.elim
  rename_i q hc hb;simp only[bY l.tl q];exact fun g _=>FL l q hc (fZ hb) h g
 case boxF t x =>
  simp only[bN,fV,eX,eO] at h;simp only[evalOp];split at h
  case h_2=>exact h.elim
  rename_i h1 j m;intro g F' hF hg;exact(l.mono hF).aap (Qu hg (nE j) (kN ((ji m (hU r h1)).mono hF))) h
 case alloc t zs =>
  simp only[bN,fV,eX,eO] at h;simp only[evalOp];split at h
  case h_2=>exact h.elim
  rename_i k;split at h
  case h_2=>exact h.elim
  rename_i q hb;simp only[bY l.tl q];exact fun g=>z6 l q (fZ hb) h g
 case allocD t zs =>
  simp only[bN,fV,eX,eO] at h;simp only[evalOp];split at h
  case h_2=>exact h.elim
  rename_i k;split at h
  case h_2=>exact h.elim
  rename_i q hb;simp only[bY l.tl q];exact fun g _=>z6 l q (fZ hb) h g
 case mkF e n sz xs =>
  simp only[bN,fV,eX,eO] at h;simp only[evalOp];split at h
  case h_2=>exact h.elim
  rename_i h1 j m;rw[(jm r h1).1];exact fun g F' hF hg=>FM l h1 (aaO j) (aa6 m) h hF hg
 case mkFD e n sz xs =>
  simp only[bN,fV,eX,eO] at h;simp only[evalOp];split at h
  case h_2=>exact h.elim
  rename_i h1 j m;rw[(jm r h1).1];exact fun g F' hF hg _=>FM l h1 (aaO j) (aa6 m) h hF hg
 case mkR e n sz xs =>
  simp only[bN,fV,eX,eO] at h;simp only[evalOp];split at h
  case h_2=>exact h.elim
  rename_i k h1 j m;split at h
  case h_2=>exact h.elim
  rename_i q;rw[(jm r h1).1];simp only[bY l.tl q];exact fun g=>ME l h1 (aaO j) (aa6 m) q h g
 case makeS=>exact Ht l h
 case store n y x=>exact z7 l h
 case storeD n y x=>exact xG l h
 case storeK key n y x =>
  simp only[bN] at h;split at h
  case h_2=>exact h.elim
  rename_i k off hy;split at h
  case h_2=>exact h.elim
  rename_i hb;obtain⟨n',a',x',k',bz,g,t,cs,ho,e1,e2,e3,e4,e5,hK⟩:=iA (P:=P) rfl (xG l h);rcases ho with ho | ho
  ·injection ho with q1 q2 q3
   subst q1 q2 q3;rw[(iY r hy).1] at e3;injection e3 with q1 q2
   subst q1 q2;have hb:=aaO hb;subst hb;exact gX (.inr rfl) e1 e2 (iY r hy).1 e4 e5 hK
  ·cases ho
 case makeSD e sz n zs =>
  simp only[bN] at h;split at h
  case h_2=>exact h.elim
  rename_i k;split at h
  case h_2=>exact h.elim
  rename_i q h1 j m;have s:=bY l.tl q;have ab:zs.length=sz:=by have:=bW h1;simpa using this
  simp only[evalOp,s,jc ab,m];intro g _;have hz:ay F [] ((zs.map rz).map C.can) zs:=kN (kL zs);have an:eG (zs.map rz)=true->∀i:Nat,aN F sz (List.replicate i ((zs.map rz).map C.can)) (List.replicate i zs).flatten:=by
   intro j i
   induction i with
   | zero=>simp only[List.replicate_zero,List.flatten_nil,aN]
   | succ i ih =>
    simp only[ab0,List.flatten_cons,aN];exact⟨zs,_,rfl,ab,nE j,hz,ih⟩
  have z:∀i:Nat,i=n->aN F sz (List.replicate i ((zs.map rz).map C.can)) (List.replicate i zs).flatten:=by
   intro i hi;rw[abn] at j;rcases j with j | j
   ·have j:=aaO j;rw[hi,j];simp only[List.replicate_zero,List.flatten_nil,aN]
   ·exact an j i
  have m:=l.new (au.le_refl F) s (o:=.row (.slice (some ⟨g,0,none⟩) n n) e sz n (List.replicate n zs).flatten) (to:=.row e sz (List.replicate n ((zs.map rz).map C.can)))
   ⟨rfl,rfl,by simp,⟨aa6 m,_,_,rfl,fun e=>(by cases e)⟩,z _ rfl⟩
  exact⟨_,_,m.put (c:=.rw k) (lm (by rw[Loc.aac,fo rfl])) (some k),h⟩
 case makeSV e sz b zs x =>
  simp only[bN] at h;split at h
  case h_2=>exact h.elim
  rename_i ki n k hx;split at h
  case h_2=>exact h.elim
  rename_i q h1 j;have s:=bY l.tl q;have ab:zs.length=sz:=by have:=bW h1;simpa using this
  obtain⟨m1,_,m3,m4,h⟩:=h;have hv:val L ρ x=.int ki n:=by rw[val,(gA r hx).1];rfl
  have am:sJ b (val L ρ x)=true:=by
   rw[hv,sJ,xo,xo];exact⟨⟨Nat.ble_eq_true_of_le m3,Nat.ble_eq_true_of_le m4⟩,aaQ m1⟩
  have hc:lJ (val L ρ x)=n.toNat:=by rw[hv];rfl
  simp only[evalOp,s,jc ab,am];rw[hc];intro g _;have hz:ay F [] ((zs.map rz).map C.can) zs:=kN (kL zs);have z:∀i:Nat,aN F sz (List.replicate i ((zs.map rz).map C.can)) (List.replicate i zs).flatten:=by
   intro i
   induction i with
   | zero=>simp only[List.replicate_zero,List.flatten_nil,aN]
   | succ i ih =>
    simp only[ab0,List.flatten_cons,aN];exact⟨zs,_,rfl,ab,nE j,hz,ih⟩
  have m:=l.new (au.le_refl F) s (o:=.row (.slice (some ⟨g,0,none⟩) n.toNat n.toNat) e sz n.toNat (List.replicate n.toNat zs).flatten) (to:=.row e sz (List.replicate n.toNat ((zs.map rz).map C.can)))
   ⟨rfl,rfl,by simp,⟨m4,_,_,rfl,fun e=>(by cases e)⟩,z _⟩
  exact⟨_,_,m.put (c:=.rw k) (lm (by rw[Loc.aac,fo rfl])) (some k),h⟩
 case callD f args =>
  simp only[bN,fV,eX,eO] at h;simp only[evalOp];refine dH.imp' (uO l (dL r args) h) ?_;rintro F' L' v ⟨M',p,c,h1,j,m⟩;exact h1.aap j m
 case callVD f args =>
  simp only[bN,fV,eX,eO] at h;simp only[evalOp];split at h
  ·rename_i f' fi ca hx;obtain⟨bl,bd,e1,h1,j⟩:=uJ r hx;rw[e1];refine dH.imp' (uO l (jn r h1 j args) h) ?_;rintro F' L' v ⟨M',p,c,h1,j,m⟩;exact h1.aap j m
  ·rename_i nm c hx;split at h
   case h_2=>exact h.elim
   rename_i t c;obtain⟨u,e1,hr⟩:=xC r hx;simp only[Rel] at hr;obtain⟨u',rfl,hu⟩:=hr;obtain⟨f',hm,h⟩:=h;have e2:rE P (ev ρ f)=some (f',[u'],[]):=by rw[e1];simp only[rE,hm]
   rw[e2];have ao:ay F L (c::eY τ args) ([u']++aZ L ρ args++[]):=by
    rw[abm];simp only[aa2,abp,ay];exact⟨_,_,rfl,hu.lift,dL r args⟩
   refine dH.imp' (uO l ao h) ?_;rintro F' L' v ⟨M',p,c,h1,j,m⟩;exact h1.aap j m
  ·exact h.elim
 case callO f args =>
  simp only[bN,fV,eX,eO] at h;simp only[evalOp];cases h with
  | mk h =>
   obtain⟨ks,ko,Lin,R,h1,j,m,h4,h5,h6,h7⟩:=h;refine dP.imp (qG (K:=fun M' p v=>K M' (bg d v p)) l (dL r args) h1 j m h4 h5 h6 h7) ?_;rintro F' L' v ⟨M',p,c,h1,j,m⟩ _;exact h1.aap j m
  | inpl ks Lin R h1 j m h4 =>
   refine dP.imp (uM (K:=fun M' p v=>K M' (bg d v p)) l (dL r args) h1 j m h4) ?_;rintro F' L' v ⟨M',p,c,h1,j,m⟩ _;exact h1.aap j m
 case callVO f args =>
  simp only[bN,fV,eX,eO] at h;simp only[evalOp];split at h
  case h_2=>exact h.elim
  rename_i f' fi ca hx;obtain⟨bl,bd,e1,g1,g2⟩:=uJ r hx;rw[e1];cases h with
  | mk h =>
   obtain⟨ks,ko,Lin,R,h1,j,m,h4,h5,h6,h7⟩:=h;refine dP.imp (qG (K:=fun M' p v=>K M' (bg d v p)) l (jn r g1 g2 args) h1 j m h4 h5 h6 h7) ?_;rintro F' L' v ⟨M',p,c,h1,j,m⟩ _;exact h1.aap j m
  | inpl ks Lin R h1 j m h4 =>
   refine dP.imp (uM (K:=fun M' p v=>K M' (bg d v p)) l (jn r g1 g2 args) h1 j m h4) ?_;rintro F' L' v ⟨M',p,c,h1,j,m⟩ _;exact h1.aap j m
 case app=>exact MF l h
 case appX=>exact JH l h
 case appD=>exact JI l h
 case mkmap =>
  simp only[bN] at h;simp only[evalOp];split at h
  case h_2=>exact h.elim
  rename_i k;split at h
  case h_2=>exact h.elim
  rename_i q;have s:=bY l.tl q;simp only[s];intro g;have h1:=l.new (au.le_refl F) s (o:=.box g 0 []) (to:=.map []) ⟨rfl,rfl⟩;exact⟨_,_,h1.put (c:=.mpr k) (sv:=.v (.map (some g))) ⟨_,rfl,by simp only[Rel];exact⟨g,[],by rw[Loc.aac,fo rfl],rfl⟩⟩ (some k),h⟩
 case mrange=>exact h.elim
 case mnext=>exact h.elim
 case mentry=>exact h.elim
 case mupd str x i v =>
  simp only[bN] at h;simp only[evalOp];split at h
  case h_2=>exact h.elim
  rename_i k hx;split at h
  case h_2=>exact h.elim
  rename_i es q az am hp;obtain⟨bm,bb,h⟩:=h;obtain⟨g,cs,e1,e2⟩:=FJ r hx;obtain⟨g',vs,e3,hE⟩:=JG l.tl q;rw[e2] at e3;injection e3 with e3
  injection e3 with q1 q2 q3
  subst q1 q3;rw[e1];have ba:Rel F [] (cS τ i) (val L ρ i)/\eS str (val L ρ i) (val L ρ i)=some true:=by
   rcases MN az with⟨n,rfl,e⟩ | ⟨t,rfl,e⟩
   ·obtain⟨e2,w⟩:=gA r e;simp only[e,val,e2,conc,Rel,eS,decide_true];exact⟨⟨trivial,w⟩,trivial⟩
   ·obtain⟨e2,w⟩:=wj r e;simp only[e,val,e2,conc,Rel,eS,decide_true];exact⟨⟨trivial,w⟩,trivial⟩
  have bk:Rel F [] ((cS τ v).cel.aaj) (val L ρ v):=by
   have bs:=hU r am;have cm:=ji (L':=[]) hp bs;exact Hu (Bs r v) hp
  obtain⟨cs',al,bp⟩:=FN ba.1 bk hE bb;refine⟨k,cs,e2,hE.isMap,ba.2,cs',al,?_⟩;have h4:=l.turn (o':=.box g 0 cs') (to:=.map bm) e2 ⟨rfl,rfl⟩ (fun g' t' cr e=>by injection e with a b c;subst a b;exact⟨_,rfl⟩) (fun _ _=>⟨rfl,bp⟩);exact h4.aap (c:=.und) (sv:=.v undef) ⟨_,rfl,by simp only[Rel]⟩ h
 case storeX n a x=>exact MK (z7 l h)
 all_goals
  simp only[bN,fV,eX,eO] at h;simp only[evalOp];exact Qw (d:=d) (K:=K) l h
end
section
variable {P:Program}{PS:nD}{G:Nat->Option (Nat×TypeId)}{F:au}{L:Loc}{ρ:Env}{M:TL}{τ:aK}{a:Act}{w:World}{Q:Exit->Act->World->Prop}{o:Oper}
theorem j6 {L2:Loc}(d:aA L ρ a) (b:aA L2 ρ a):∀xs:List X,aZ L2 ρ xs=aZ L ρ xs
 | []=>rfl
 | x::xs=>by
  have:val L2 ρ x=val L ρ x:=by
   cases x with
   | t n=>exact(b.eq n).symm.trans (d.eq n)
   | c v=>rfl
   | fn f=>rfl
   | mt e n =>
    simp only[val,ev];cases ρ n<;>rfl
  simp only[aZ,this,j6 d b xs]
theorem mJ {f:Nat}{args:List C}{r:List Value}{K:TL->aK->C->Prop}(q:St F L w) (x:aA L ρ a) (p:TS G F L ρ M τ) (j:ay F L args r) (h:pV P f args M τ K) :
  ∃F' L',St F' L' w/\aA L' ρ a/\Step F L w F' L' w/\dP P f r F' L' (fun F' L' v=>∃M' b c,TS G F' L' ρ M' b/\aL F' L' c (.v v)/\K M' b c):=by
 cases h with
 | inpl ks Lin R h1 h2 h3 h4=>exact⟨F,L,q,x,Step.refl _ _ _,uM p j h1 h2 h3 h4⟩
 | mk h =>
 obtain⟨fz,ks,ko,h⟩:=h;obtain⟨F1,L1,M1,ae,d,s,y,u,l,k,M2,Lin,R,k1,e,m,z,t,n,k8,k9⟩:=oF q x p j h;rcases k1 with rfl | ⟨k1,k2⟩
 ·exact⟨F1,_,s,y,u,qG l k e m z t n k8 k9⟩
 ·obtain⟨e1,e2,e3,e4,e5⟩:=qb s y l k1 k2;exact⟨F1,_,e1,e2,u.trans e3,qG e4 (k.ext (au.le_refl F1) e5) e m z t n k8 k9⟩
theorem tw {f:Nat}{args:List C}{r:List Value}{K:TL->aK->C->Prop}(hs:St F L w) (he:aA L ρ a) (ht:TS G F L ρ M τ) (z:ay F L args r) (h:kR P PS f args M τ K) (d:PS.st=none) :
  ∃F' L',St F' L' w/\aA L' ρ a/\Step F L w F' L' w/\fJ P (yY G PS) f r F' L' (fun F' L' v=>∃M' e c,TS G F' L' ρ M' e/\aL F' L' c (.v v)/\K M' e c):=by
 obtain⟨fz,ks,ko,h⟩:=h;obtain⟨F1,L1,M1,ag,k,s,x,u,n,m,M2,Lin,R,Pp,k1,l,p,y,t,q,j,k8,b,k9⟩:=oF hs he ht z h;rcases k1 with rfl | ⟨k1,k2⟩
 ·exact⟨F1,_,s,x,u,Ab n m l p y t q j k8 b d k9⟩
 ·obtain⟨e1,e2,e3,e4,e5⟩:=qb s x n k1 k2;exact⟨F1,_,e1,e2,u.trans e3,Ab e4 (m.ext (au.le_refl F1) e5) l p y t q j k8 b d k9⟩
theorem tC {f:Nat}{args:List C}{s:List Value}{K:TL->aK->C->Prop}{st:TL->Value->Prop}(r:St F L w) (u:aA L ρ a) (q:TS G F L ρ M τ) (m:ay F L args s) (h:EC P PS.ps PS.hb st f args M τ K) (k:PS.st=some st) :
  ∃F' L',St F' L' w/\aA L' ρ a/\Step F L w F' L' w/\fJ P (yY G PS) f s F' L' (fun F' L' v=>∃M' e c,TS G F' L' ρ M' e/\aL F' L' c (.v v)/\K M' e c):=by
 obtain⟨ks,ko,M2,Lin,R,Pp,k1,l,n,x,t,p,j,k8,d,k9⟩:=h;have b:PS=⟨PS.ps,PS.hb,some st⟩:=by rw[<-k]
 rcases k1 with rfl | ⟨k1,y⟩
 ·exact⟨F,_,r,u,Step.refl _ _ _,Ac q m b l n x t p j k8 d k9⟩
 ·obtain⟨e1,e2,z,e4,e5⟩:=qb r u q k1 y;exact⟨F,_,e1,e2,z,Ac e4 (m.ext (au.le_refl F) e5) b l n x t p j k8 d k9⟩
theorem Ad:∀{cs:List C}{b us:List Value},xA cs=some us->ay F L cs b->b=us
 | [],b,us,h,r=>by simp only[xA,vz] at h;simp only[ay] at r;rw[r,<-h]
 | c::cs,b,us,h,r=>by
  simp only[ay] at r;obtain⟨v,e,rfl,d,f⟩:=r;cases c<;>simp only[xA,reduceCtorEq] at h
  all_goals
   split at h
   case h_2=>cases h
   rename_i k j;injection h with h
   subst h;rw[Ad j f];simp only[Rel] at d
   first
    | rw[d.1]
    | rw[d]
theorem JQ {c:C}{u v:Value}(h:C0 c=some u) (r:Rel F L c v):v=u/\∃t x,u=.iface t x:=by
 cases c<;>simp only[C0,reduceCtorEq] at h
 case ifc t c =>
  simp only[Rel] at r;obtain⟨x,rfl,r⟩:=r;cases c<;>simp only[C0,reduceCtorEq] at h
  case agg cs =>
   split at h
   case h_2=>cases h
   rename_i us b;injection h with h
   subst h;simp only[Rel] at r;obtain⟨d,rfl,r⟩:=r;rw[Ad b r];exact⟨rfl,_,_,rfl⟩
  all_goals
   injection h with h
   subst h;simp only[Rel] at r
   first
    | (obtain⟨rfl,_⟩:=r;exact⟨rfl,_,_,rfl⟩)
    | (subst r;exact⟨rfl,_,_,rfl⟩)
theorem br.from {F1:au}{L1:Loc}{K:dm}{a':Act}{w':World}(b:Step F L w F1 L1 w) (h:br F1 L1 w a K a' w'):br F L w a K a' w':=by
 obtain⟨F',L',ρ',h1,c,d,f,e,j⟩:=h;exact⟨F',L',ρ',h1,c,d,f,b.trans e,j⟩
theorem Hv {own:Bool}{s:dO}{K:TK}(hs:St F L w) (m:aA L ρ a) (e:TS G F L ρ M τ) (hd:∀k,o.dst=some k->k<a.tmps.size) (hl:gU P own o.op=some s)
  (b:bN P s o.dst M τ K):o.wp P a w (br F L w a (Both G K)) Q:=by
 by_cases hc:j5 s=true
 ·cases s<;>simp only[j5,aa1] at hc
  ·rename_i f args;simp only[bN,fV,eX,eO] at b;obtain⟨F1,L1,z,j,g3,p⟩:=mJ hs m e (dL e.env args) b;refine Oper.wp_mono (fun a' w'=>br.from g3) (fj z j hd hl ?_);simp only[evalOp];rw[j6 m j];exact dP.imp p fun F' L' v ⟨M',aa,c,h1,l,x⟩=>h1.aap l x
  ·rename_i fx args;simp only[bN,fV,eX,eO] at b;split at b
   ·rename_i f fi ca hx;obtain⟨bi,be,e1,h1,l⟩:=uJ e.env hx;obtain⟨F1,L1,z,j,g3,p⟩:=mJ hs m e (jn e.env h1 l args) b;refine Oper.wp_mono (fun a' w'=>br.from g3) (fj z j hd hl ?_);simp only[evalOp,e1,rE];rw[j6 m j];exact dP.imp p fun F' L' v ⟨M',aa,c,h1,l,x⟩=>h1.aap l x
   ·rename_i nm c hx;split at b
    case h_2=>exact b.elim
    rename_i t c;obtain⟨u,e1,hr⟩:=xC e.env hx;simp only[Rel] at hr;obtain⟨u',rfl,hu⟩:=hr;obtain⟨f',hm,b⟩:=b;have d:ay F L (c::eY τ args) ([u']++aZ L ρ args++[]):=by
     rw[abm];simp only[aa2,abp,ay];exact⟨_,_,rfl,hu.lift,dL e.env args⟩
    obtain⟨F1,L1,z,j,g3,p⟩:=mJ hs m e d b;refine Oper.wp_mono (fun a' w'=>br.from g3) (fj z j hd hl ?_);have e2:rE P (ev ρ fx)=some (f',[u'],[]):=by rw[e1];simp only[rE,hm]
    simp only[evalOp,e2];rw[j6 m j];exact dP.imp p fun F' L' v ⟨M',aa,c,h1,l,x⟩=>h1.aap l x
   ·rename_i t nm hx;split at b
    case h_2=>exact b.elim
    rename_i t' c am y n;have e1:=Mv e.env hx;obtain⟨f',hm,b⟩:=b;have r:=dL e.env args;rw[n] at r;simp only[ay,Rel] at r;obtain⟨v0,h,az,⟨u,rfl,hu⟩,q⟩:=r;have d:ay F L (c::am) (u::h):=by
     simp only[ay];exact⟨_,_,rfl,hu.lift,q⟩
    obtain⟨F1,L1,z,j,g3,p⟩:=mJ hs m e d b;refine Oper.wp_mono (fun a' w'=>br.from g3) (fj z j hd hl ?_);have hi:∃ms,P.underlying t=some (.interface ms):=by
     unfold Pg at y;split at y
     ·exact⟨_,by assumption⟩
     ·cases y
    obtain⟨ms,hi⟩:=hi;have e2:rE P (ev ρ fx)=none:=by rw[e1];rfl
    have e3:zB P (ev ρ fx) (aZ L1 ρ args)=some (f',u::h):=by
     rw[j6 m j,az,e1];simp only[zB,hi,hm]
    simp only[evalOp,e2,e3];exact dP.imp p fun F' L' v ⟨M',aa,c,h1,l,x⟩=>h1.aap l x
   ·exact b.elim
 ·exact fj hs m hd hl (JP (by simpa using hc) e b)
theorem Hw {own:Bool}{s:dO}{K:TK}(r:St F L w) (p:aA L ρ a) (j:TS G F L ρ M τ) (hd:∀k,o.dst=some k->k<a.tmps.size) (hl:gU P own o.op=some s)
  (d:uI P PS s o.dst M τ K) (hQ:∀v q w' F' L',rD v q->St F' L' w'->Step F L w F' L' w'->yY G PS F' L' v->Q (.panic q) a w'):o.wp P a w (br F L w a (Both G K)) Q:=by
 cases s<;>simp only[uI] at d<;>try (exact d.elim)
 ·rename_i f args;simp only[fV,eX,eO] at d;have key:∃F' L',St F' L' w/\aA L' ρ a/\Step F L w F' L' w/\fJ P (yY G PS) f (aZ L ρ args) F' L' (fun F' L' v=>∃M' h c,TS G F' L' ρ M' h/\aL F' L' c (.v v)/\K M' (bg o.dst c h)):=by
   split at d
   ·rename_i b;exact tw r p j (dL j.env args) d b
   ·rename_i st b;exact tC r p j (dL j.env args) d b
  obtain⟨F1,L1,g1,g2,z,g4⟩:=key;refine Oper.wp_mono (fun a' w'=>br.from z) (vq (PX:=yY G PS) g1 g2 hd hl ?_ fun v q w' F' L' qc q1 q2 q3=>hQ v q w' F' L' qc q1 (z.trans q2) q3);rw[j6 p g2];exact fJ.imp g4 fun F' L' v ⟨M',h,c,h1,l,n⟩=>h1.aap l n
 ·rename_i fx args;split at d
  case h_2=>exact d.elim
  rename_i f fi ca hx;simp only[fV,eX,eO] at d;obtain⟨av,ag,e1,h1,l⟩:=uJ j.env hx;have key:∃F' L',St F' L' w/\aA L' ρ a/\Step F L w F' L' w/\fJ P (yY G PS) f (av++aZ L ρ args++ag) F' L' (fun F' L' v=>∃M' h c,TS G F' L' ρ M' h/\aL F' L' c (.v v)/\K M' (bg o.dst c h)):=by
   split at d
   ·rename_i b;exact tw r p j (jn j.env h1 l args) d b
   ·rename_i st b;exact tC r p j (jn j.env h1 l args) d b
  obtain⟨F1,L1,g1,g2,z,g4⟩:=key;refine Oper.wp_mono (fun a' w'=>br.from z) (sS (PX:=yY G PS) g1 g2 hd hl e1 ?_ fun v q w' F' L' qc q1 q2 q3=>hQ v q w' F' L' qc q1 (z.trans q2) q3);rw[j6 p g2];exact fJ.imp g4 fun F' L' v ⟨M',h,c,h1,l,n⟩=>h1.aap l n
 ·rename_i x;have d:∃u,C0 (cS τ x)=some u/\ju M [] PS.hb=true/\PS.ps u/\∀s,PS.st=some s->s M u:=by
   split at d
   ·rename_i b;obtain⟨u,h1,m,l⟩:=d;exact⟨u,h1,m,l,fun s e=>by rw[b] at e;cases e⟩
   ·rename_i st b;obtain⟨u,h1,m,l,n⟩:=d;exact⟨u,h1,m,l,fun s e=>by rw[b] at e;injection e with e;subst e;exact n⟩
  obtain⟨u,h1,m,l,n⟩:=d;have hr:=lZ (dQ j.env x);have hc:(cS τ x).cel=cS τ x:=by
   cases e:cS τ x<;>rw[e] at h1<;>first | rfl | (simp only[C0,reduceCtorEq] at h1;done)
  rw[hc] at hr;obtain⟨e1,t,y,e2⟩:=JQ h1 hr;refine Hj (PX:=yY G PS) r p hl (t:=t) (u:=y) (e1.trans e2) ⟨j.kp,by rw[<-e2];exact l,MH j.tl m fun k g t cs _ e=>e,fun s e=>⟨M,Aa j.tl,by rw[<-e2];exact n s e⟩⟩ hQ
theorem EL (f:aA L ρ a) (b:TS G F L ρ M τ) (d:Option Nat):∃ρ',aA L ρ' a/\TS G F L ρ' M (rA d τ):=by
 cases d with
 | none=>exact⟨ρ,f,b⟩
 | some k =>
  have r:∀j,rA (some k) τ j=if j=k then(τ k).aaC else τ j:=by
   intro j;simp only[rA];cases h:Nat.beq j k with
   | true=>have:=aaO h;simp[this]
   | false=>have:=gb h;simp[this]
  by_cases c:∃m off,τ k=.ownv m off
  ·obtain⟨m,off,c⟩:=c;have n:=b.env k;rw[c] at n;simp only[aL,Rel] at n;obtain⟨v,l,g,t,cs,q,rfl⟩:=n;have s:conc L (ρ k)=.pointer (some ⟨g,off,none⟩):=l.conc;refine⟨Fr.put (some k) (.own m off) ρ,⟨fun p=>?_,fun p j o e=>?_,fun p u j e=>?_⟩,b.tl,fun j=>?_,b.kp,b.glob⟩
   ·rw[f.eq p,put_eq];simp only[];split
    ·rename_i h;subst h;rw[s];simp only[conc,q]
    ·rfl
   ·rw[put_eq] at e;simp only[] at e;split at e
    ·injection e with q1 q2;subst q1;exact⟨g,t,cs,q⟩
    ·exact f.own _ _ _ e
   ·rw[put_eq] at e;simp only[] at e;split at e
    ·cases e
    ·exact f.el _ _ _ e
   ·rw[r,put_eq];simp only[];split
    ·rw[c];exact⟨rfl,g,t,cs,q⟩
    ·exact b.env j
  ·refine⟨ρ,f,b.tl,fun j=>?_,b.kp,b.glob⟩;rw[r];split
   ·rename_i h;subst h;have:(τ j).aaC=τ j:=by
     cases e:τ j<;>first | rfl | exact o5 ⟨_,_,e⟩ c
    rw[this];exact b.env j
   ·exact b.env j
def tD (G:Nat->Option (Nat×TypeId)) (PS:nD) (ks:List Nat):Prop:=∀k∈ks,G k≠none->1000<=k\/fe (PS.hb.map (·.1)) k=true
theorem tD.left {ks b:List Nat}(h:tD G PS (ks++b)):tD G PS ks:=fun k c=>h k (aaU.2 (.inl c))
theorem tD.right {ks b:List Nat}(h:tD G PS (ks++b)):tD G PS b:=fun k c=>h k (aaU.2 (.inr c))
theorem lz:∀(a b:List ai),dc (a++b)=dc a++dc b
 | [],b=>rfl
 | .frz k::a,b=>by simp only[aa2,dc,lz a b]
 | .op _ _ _::a,b=>by simp only[aa2,dc,lz a b]
 | .pc _ _ _::a,b=>by simp only[aa2,dc,lz a b]
theorem Dc {k:Nat}{K:TK}{p:TL->aK->TK->Prop}(r:St F L w) (s:aA L ρ a) (q:TS G F L ρ M τ) (v:G k≠none->1000<=k\/fe (PS.hb.map (·.1)) k=true) (h:stepT P PS false (.frz k) p M τ K) :
  ∃F' L' ρ' M' b,St F' L' w/\aA L' ρ' a/\Step F L w F' L' w/\TS G F' L' ρ' M' b/\p M' b K:=by
 simp only[stepT,fV] at h;split at h
 ·rename_i t sz els n;obtain⟨F1,L1,j,m,l,d,_⟩:=rT r s q n;exact⟨F1,L1,ρ,_,_,j,m,l,d,h⟩
 ·rename_i t cs n;split at h
  case h_2=>exact h.elim
  rename_i z u e3 y;have f:G k=none:=by
   cases e:G k with
   | none=>rfl
   | some x =>
    rcases v (by rw[e];simp) with h1 | h1
    ·rw[Nat.blt_eq] at e3;omega
    ·rw[y] at h1;cases h1
  obtain⟨F1,L1,c,j,m,l,d⟩:=EJ r s q n z u f;exact⟨F1,L1,c,_,_,j,m,l,d,h⟩
 ·exact h.elim
theorem xS {A:cT}{r:Nat}{l:Array Oper}{K:TK}:∀(is:List Nat) {ss:List ai}{F:au}{L:Loc}{ρ:Env}{M:TL}{τ:aK}{a:Act}{w:World},pJ P A r l is=some ss->tD G PS (dc ss)->St F L w->aA L ρ a->TS G F L ρ M τ->a.tmps.size=A.n ->
  cZ P PS false ss M τ K->(∀a' w',dY A.n F L w a (dstsOf l is) (Both G K) a' w'->Q .normal a' w') ->
  (∀v ch a' w',rD v ch->ru A.n F L w a (dstsOf l is) (yY G PS) v a' w'->Q (.panic ch) a' w')->wpOps P l Q is a w:=by
 intro is
 induction is with
 | nil =>
  intro ss F L ρ M τ a w hl cd hs he ht hn q hQ bm;simp only[pJ,vz] at hl;subst hl;exact hQ a w ⟨F,L,ρ,hs,he,hn,rfl,Step.refl _ _ _,fun _ _=>rfl,M,τ,ht,q⟩
 | cons i is ih =>
  intro ss F L ρ M τ a w hl cd hs he ht hn q hQ bm;simp only[pJ] at hl;split at hl
  case h_1=>cases hl
  rename_i o hi;split at hl
  case h_2=>cases hl
  rename_i g s z hg co bt ba;injection hl with hl
  subst hl;have aw:∀(ks:List Nat) {x:ai}{F:au}{L:Loc}{ρ:Env}{M:TL}{τ:aK},tD G PS (dc (ks.map ai.frz++x::z))->St F L w->aA L ρ a->TS G F L ρ M τ->cZ P PS false (ks.map ai.frz++x::z) M τ K ->
    ∃F' L' ρ' M' ag,St F' L' w/\aA L' ρ' a/\Step F L w F' L' w/\TS G F' L' ρ' M' ag/\cZ P PS false (x::z) M' ag K:=by
   intro ks
   induction ks with
   | nil=>intro x F L ρ M τ _ hs he ht h;exact⟨F,L,ρ,M,τ,hs,he,Step.refl _ _ _,ht,h⟩
   | cons k ks da =>
    intro x F L ρ M τ hz hs he ht h;simp only[aaW,aa2,eH] at h;obtain⟨F1,L1,cp,M1,u,g1,g2,g3,g4,h⟩:=Dc hs he ht (hz k (by simp[dc])) h;obtain⟨F2,L2,cr,M2,cx,k1,k2,k3,k4,k5⟩:=da (fun j hj=>hz j (by simp only[aaW,aa2,dc];exact abf _ hj)) g1 g2 g4 h;exact⟨F2,L2,cr,M2,cx,k1,k2,g3.trans k3,k4,k5⟩
  have bp:tD G PS (dc z):=fun j hj=>cd j (by
   rw[lz];refine aaU.2 (.inr ?_);cases hp:vk A.pan r i<;>simp only[mQ,dc]<;>exact hj)
  obtain⟨F1,L1,cp,M1,u,cb,ac,an,m,q⟩:=aw _ cd hs he ht q
  clear aw he ht
  revert ac m
  generalize cp=ρ;intro ac m;have hd:∀k,o.dst=some k->k<a.tmps.size:=by
   intro k hk;rw[hk] at bt;rw[hn];have h2:Nat.blt k A.n=true:=bt;simpa using h2
  have bv:dstsOf l (i::is)=match o.dst with | some d=>d::dstsOf l is | none=>dstsOf l is:=by
   simp only[dstsOf,hi,Option.bind_some];rfl
  have ad:∀j,j∉dstsOf l (i::is)->o.dst≠some j/\j∉dstsOf l is:=by
   intro j hj;rw[bv] at hj;cases ho:o.dst with
   | none=>rw[ho] at hj;exact⟨by simp,hj⟩
   | some d =>
    rw[ho] at hj;simp only[aaT,not_or] at hj;exact⟨by simp;exact fun e=>hj.1 e.symm,hj.2⟩
  have after:∀{KK:Prop},o.wp P a w (fun a' w'=>br F1 L1 w a (Both G fun M' ag=>cZ P PS false z M' (rA o.dst ag) K) a' w') Q->o.wp P a w (wpOps P l Q is) Q:=by
   intro _ this;refine Oper.wp_mono ?_ (pK (asg:=[]) this);rintro a' w' ⟨⟨F',L',ρ',g1,g2,g3,g4,g5,M',ag,g6,g7⟩,cm⟩;obtain⟨cr,n1,n2⟩:=EL g2 g6 o.dst;refine ih ba bp g1 n1 n2 (by rw[g3,hn]) g7 ?_ ?_
   ·rintro ar av ⟨F'',L'',bc,k1,k2,k3,k4,k5,k6,k7⟩;refine hQ ar av ⟨F'',L'',bc,k1,k2,k3,k4.trans g4,(an.trans g5).trans k5,fun j hj=>?_,k7⟩;obtain⟨n1,n2⟩:=ad j hj;rw[k6 j n2,cm j n1]
   ·rintro v ch ar av kc ⟨F'',L'',k1,k2,k3,k4,k5,k6⟩;refine bm v ch ar av kc ⟨F'',L'',k1,(an.trans g5).trans k2,k3,k4.trans g4,fun j hj=>?_,k6⟩;obtain⟨n1,n2⟩:=ad j hj;rw[k5 j n2,cm j n1]
  have az:∀{u:aK},TS G F1 L1 ρ M1 u->bN P s o.dst M1 u (fun M' ag=>cZ P PS false z M' (rA o.dst ag) K)->o.wp P a w (wpOps P l Q is) Q:=by
   intro u m q;exact after (KK:=True) (Hv (Q:=Q) cb ac m hd co q)
  have ao:∀{u:aK},TS G F1 L1 ρ M1 u->uI P PS s o.dst M1 u (fun M' ag=>cZ P PS false z M' (rA o.dst ag) K)->o.wp P a w (wpOps P l Q is) Q:=by
   intro u m q;exact after (KK:=True) (Hw (Q:=Q) cb ac m hd co q fun v ch w' F' L' qc q1 q2 q3=>bm v ch a w' qc ⟨F',L',q1,an.trans q2,hn,rfl,fun _ _=>rfl,q3⟩)
  have skip:∀{u:aK},TS G F1 L1 ρ M1 u->cZ P PS false z M1 (bg o.dst .und u) K->wpOps P l Q is (a.put o.dst undef) w:=by
   intro u m q;have cy:=ac.put hd (v:=undef) (x:=.v undef) rfl cq eI (sL L1);refine ih ba bp cb cy (m.put (c:=.und) (sv:=.v undef) ⟨_,rfl,by simp only[Rel]⟩ o.dst) (by rw[jv,hn]) q ?_ ?_
   ·rintro ar av ⟨F'',L'',bc,k1,k2,k3,k4,k5,k6,k7⟩;refine hQ ar av ⟨F'',L'',bc,k1,k2,k3,k4.trans (gq _ _ _),an.trans k5,fun j hj=>?_,k7⟩;obtain⟨n1,n2⟩:=ad j hj;rw[k6 j n2,jY n1]
   ·rintro v ch ar av kc ⟨F'',L'',k1,k2,k3,k4,k5,k6⟩;refine bm v ch ar av kc ⟨F'',L'',k1,an.trans k2,k3,k4.trans (gq _ _ _),fun j hj=>?_,k6⟩;obtain⟨n1,n2⟩:=ad j hj;rw[k5 j n2,jY n1]
  simp only[wpOps,hi];cases cl:vk A.pan r i with
  | false =>
   rw[cl] at q;cases aa:o.guard with
   | none =>
    rw[aa] at hg;simp only[gW,vz] at hg;subst hg;simp only[mQ,eH,stepT] at q;rw[fo (by simp[Region.wanted,aa])];exact .inl (az m q)
   | some p =>
    obtain⟨j,y⟩:=p;rw[aa] at hg;simp only[gW] at hg;split at hg
    case h_2=>cases hg
    rename_i d aE;injection hg with hg
    subst hg;simp only[mQ,eH,stepT] at q;split at q
    ·rename_i b hb;have al:ρ d=.v (.bool b):=iQ (x:=.t d) m.env hb;have f:=ac.eq d;rw[al] at f;have hy:yielded l a.tmps j=some b:=by
      simp only[yielded,aE,Option.bind_some,qy f]
     have hw:Region.wanted o (yielded l a.tmps)=(b == y):=by
      simp only[Region.wanted,aa,hy];cases b<;>cases y<;>rfl
     have ae:TS G F1 L1 ρ M1 (bg (some d) (.bool b) u):=by
      have:=m.put (c:=.bool b) (sv:=.v (.bool b)) ⟨_,rfl,by simp only[Rel]⟩ (some d)
      rwa [kE al] at this
     rw[hw];cases b<;>simp only[yX] at q
     ·cases y
      ·exact .inl (az ae q)
      ·exact skip ae q
     ·cases y
      ·exact skip ae q
      ·exact .inl (az ae q)
    ·rename_i hb;have hr:=m.env d;rw[hb] at hr;simp only[aL,Rel] at hr;obtain⟨v,al,rfl⟩:=hr;have f:=ac.eq d;rw[al] at f;have hy:yielded l a.tmps j=none:=by
      simp only[yielded,aE,Option.bind_some];rw[aa4] at f;cases e:a.tmps[d]? with
      | none=>rfl
      | some v=>rw[e] at f;simp only[Option.getD_some,conc] at f;rw[f];rfl
     have hw:Region.wanted o (yielded l a.tmps)=false:=by
      simp only[Region.wanted,aa,hy];rfl
     rw[hw];exact skip m q
    ·exact q.elim
  | true =>
   rw[cl] at q;cases aa:o.guard with
   | none =>
    rw[aa] at hg;simp only[gW,vz] at hg;subst hg;simp only[mQ,eH,stepT] at q;rw[fo (by simp[Region.wanted,aa])];exact .inl (ao m q)
   | some p =>
    obtain⟨j,y⟩:=p;rw[aa] at hg;simp only[gW] at hg;split at hg
    case h_2=>cases hg
    rename_i d aE;injection hg with hg
    subst hg;simp only[mQ,eH,stepT] at q;split at q
    ·rename_i b _ hb;have al:ρ d=.v (.bool b):=iQ (x:=.t d) m.env hb;have f:=ac.eq d;rw[al] at f;have hy:yielded l a.tmps j=some b:=by
      simp only[yielded,aE,Option.bind_some,qy f]
     have hw:Region.wanted o (yielded l a.tmps)=(b == y):=by
      simp only[Region.wanted,aa,hy];cases b<;>cases y<;>rfl
     have ae:TS G F1 L1 ρ M1 (bg (some d) (.bool b) u):=by
      have:=m.put (c:=.bool b) (sv:=.v (.bool b)) ⟨_,rfl,by simp only[Rel]⟩ (some d)
      rwa [kE al] at this
     rw[hw];cases b<;>simp only[yX] at q
     ·cases y
      ·exact .inl (ao ae q)
      ·exact skip ae q
     ·cases y
      ·exact skip ae q
      ·exact .inl (ao ae q)
    ·rename_i hb;have hr:=m.env d;rw[hb] at hr;simp only[aL,Rel] at hr;obtain⟨v,al,rfl⟩:=hr;have f:=ac.eq d;rw[al] at f;have hy:yielded l a.tmps j=none:=by
      simp only[yielded,aE,Option.bind_some];rw[aa4] at f;cases e:a.tmps[d]? with
      | none=>rfl
      | some v=>rw[e] at f;simp only[Option.getD_some,conc] at f;rw[f];rfl
     have hw:Region.wanted o (yielded l a.tmps)=false:=by
      simp only[Region.wanted,aa,hy];rfl
     rw[hw];exact skip m q
    ·exact q.elim
theorem kO:aL F L .und (.v undef):=⟨_,rfl,by simp only[Rel]⟩
theorem xT {o:dO}{d:Option Nat}{F:au}{L:Loc}{ρ:Env}{K K':dm}(h:evalOp P o d F L ρ K) (p:∀F' L' ρ',K F' L' ρ'->K' F' L' ρ'):evalOp P o d F L ρ K':=by
 cases o
 case box t x =>
  simp only[evalOp] at h ⊢;cases d with
  | none=>exact h.elim
  | some k =>
   simp only[] at h ⊢;generalize L.get k=z at h ⊢;cases z with
   | none=>exact fun g=>p _ _ _ (h g)
   | some _=>exact h.elim
 case boxD t x =>
  simp only[evalOp] at h ⊢;cases d with
  | none=>exact h.elim
  | some k =>
   simp only[] at h ⊢;generalize L.get k=z at h ⊢;cases z with
   | none=>exact fun g r=>p _ _ _ (h g r)
   | some _=>exact h.elim
 case boxF t x=>exact fun g F' a b=>p _ _ _ (h g F' a b)
 case alloc t z =>
  simp only[evalOp] at h ⊢;cases d with
  | none=>exact h.elim
  | some k =>
   simp only[] at h ⊢;generalize L.get k=z at h ⊢;cases z with
   | none=>exact fun g=>p _ _ _ (h g)
   | some _=>exact h.elim
 case allocD t z =>
  simp only[evalOp] at h ⊢;cases d with
  | none=>exact h.elim
  | some k =>
   simp only[] at h ⊢;generalize L.get k=z at h ⊢;cases z with
   | none=>exact fun g r=>p _ _ _ (h g r)
   | some _=>exact h.elim
 case mkF e n sz xs =>
  simp only[evalOp] at h ⊢;generalize fQ L ρ sz xs=z at h ⊢;cases z with
  | true=>exact fun g F' a b=>p _ _ _ (h g F' a b)
  | false=>exact h.elim
 case mkFD e n sz xs =>
  simp only[evalOp] at h ⊢;generalize fQ L ρ sz xs=z at h ⊢;cases z with
  | true=>exact fun g F' a b c=>p _ _ _ (h g F' a b c)
  | false=>exact h.elim
 case mkR e n sz xs =>
  simp only[evalOp] at h ⊢;generalize fQ L ρ sz xs=z at h ⊢;cases z with
  | false=>exact h.elim
  | true =>
   cases d with
   | none=>exact h.elim
   | some k =>
    simp only[] at h ⊢;generalize L.get k=z at h ⊢;cases z with
    | none=>exact fun g=>p _ _ _ (h g)
    | some _=>exact h.elim
 case makeS e sz b zs l c =>
  simp only[evalOp] at h ⊢;generalize ev ρ l=z1 at h ⊢;generalize ev ρ c=z2 at h ⊢;split at h
  ·rename_i k;generalize L.get k=z at h ⊢;cases z with
   | none=>exact⟨h.lo,h.le,h.hi,h.max,fun g=>p _ _ _ (h.out g)⟩
   | some _=>exact h.elim
  ·exact h.elim
 case storeX n a x =>
  simp only[evalOp] at h ⊢;generalize gQ (aM (val L ρ x)) n=z1 at h ⊢;generalize jQ (aM (val L ρ x))=z2 at h ⊢;generalize ev ρ a=z3 at h ⊢;split at h
  ·rename_i k off;generalize L.get k=z at h ⊢;split at h
   ·rename_i t cs;generalize i9 t ((cs.drop off).take n) n=b at h ⊢;cases b
    ·exact h.elim
    ·exact fun r=>p _ _ _ (h r)
   ·exact h.elim
  ·exact⟨let⟨k,v,t,sz,m,xs,ad,c,h1,q,u,h4,y,h6⟩:=h.out;⟨k,v,t,sz,m,xs,ad,c,h1,q,u,h4,y,fun r=>p _ _ _ (h6 r)⟩⟩
  ·exact⟨let⟨k,v,t,sz,m,xs,ad,c,h1,q,u,h4,y,h6⟩:=h.out;⟨k,v,t,sz,m,xs,ad,c,h1,q,u,h4,y,fun r=>p _ _ _ (h6 r)⟩⟩
  ·exact h.elim
 case store n a x =>
  simp only[evalOp] at h ⊢;generalize gQ (aM (val L ρ x)) n=z1 at h ⊢;generalize jQ (aM (val L ρ x))=z2 at h ⊢;generalize ev ρ a=z3 at h ⊢;split at h
  ·rename_i k off;generalize L.get k=z at h ⊢;split at h
   ·rename_i t cs;generalize i9 t ((cs.drop off).take n) n=b at h ⊢;cases b
    ·exact h.elim
    ·exact p _ _ _ h
   ·exact h.elim
  ·exact⟨let⟨k,v,t,sz,m,xs,ad,c,h1,q,u,h4,y,h6⟩:=h.out;⟨k,v,t,sz,m,xs,ad,c,h1,q,u,h4,y,p _ _ _ h6⟩⟩
  ·exact⟨let⟨k,v,t,sz,m,xs,ad,c,h1,q,u,h4,y,h6⟩:=h.out;⟨k,v,t,sz,m,xs,ad,c,h1,q,u,h4,y,p _ _ _ h6⟩⟩
  ·exact h.elim
 case storeD n a x =>
  simp only[evalOp] at h ⊢;generalize gQ (aM (val L ρ x)) n=z1 at h ⊢;generalize jQ (aM (val L ρ x))=z2 at h ⊢;generalize ev ρ a=z3 at h ⊢;split at h
  ·rename_i k off;generalize L.get k=z at h ⊢;split at h
   ·rename_i t cs;generalize i9 t ((cs.drop off).take n) n=b at h ⊢;cases b
    ·exact h.elim
    ·exact p _ _ _ h
   ·exact h.elim
  ·exact h.elim
 case storeK key n a x =>
  obtain⟨n',a',x',k,off,g,t,cs,ho,e1,e2,e3,e4,e5,h⟩:=iA rfl h;exact gX ho e1 e2 e3 e4 e5 (p _ _ _ h)
 case makeSD e sz n zs =>
  simp only[evalOp] at h ⊢;cases d with
  | none=>exact h.elim
  | some k =>
   simp only[] at h ⊢;split at h
   ·exact fun g r=>p _ _ _ (h g r)
   ·exact h.elim
 case makeSV e sz b zs x =>
  simp only[evalOp] at h ⊢;cases d with
  | none=>exact h.elim
  | some k =>
   simp only[] at h ⊢;split at h
   ·exact fun g r=>p _ _ _ (h g r)
   ·exact h.elim
 case call f args =>
  simp only[evalOp] at h ⊢;exact dP.imp h fun _ _ _ h=>p _ _ _ h
 case callV f args =>
  simp only[evalOp] at h ⊢;generalize rE P (ev ρ f)=z at h ⊢;split at h
  ·exact dP.imp h fun _ _ _ h=>p _ _ _ h
  ·generalize zB P (ev ρ f) (aZ L ρ args)=z at h ⊢;split at h
   ·exact dP.imp h fun _ _ _ h=>p _ _ _ h
   ·exact h.elim
 case callO f args =>
  simp only[evalOp] at h ⊢;exact dP.imp h fun _ _ _ h r=>p _ _ _ (h r)
 case callVO f args =>
  simp only[evalOp] at h ⊢;generalize rE P (ev ρ f)=z at h ⊢;split at h
  ·exact dP.imp h fun _ _ _ h r=>p _ _ _ (h r)
  ·exact h.elim
 case callD f args =>
  simp only[evalOp] at h ⊢;exact dH.imp' h fun _ _ _ h=>p _ _ _ h
 case callVD f args =>
  simp only[evalOp] at h ⊢;generalize rE P (ev ρ f)=z at h ⊢;split at h
  ·exact dH.imp' h fun _ _ _ h=>p _ _ _ h
  ·exact h.elim
 case app e sz b zs s x =>
  simp only[evalOp] at h ⊢;generalize ev ρ s=z1 at h ⊢;generalize ev ρ x=z2 at h ⊢;split at h
  ·exact⟨let⟨kd,n,xs,m,news,h1,q,u,h4,y,h6⟩:=h.out;⟨kd,n,xs,m,news,h1,q,u,h4,y,fun v hv=>p _ _ _ (h6 v hv)⟩⟩
  ·exact h.elim
 case appX e sz b zs s x =>
  simp only[evalOp] at h ⊢;generalize ev ρ s=z1 at h ⊢;generalize ev ρ x=z2 at h ⊢;split at h
  ·exact⟨let⟨kd,n,xs,m,news,h1,q,u,h4,y,h6⟩:=h.out;⟨kd,n,xs,m,news,h1,q,u,h4,y,fun v hv r=>p _ _ _ (h6 v hv r)⟩⟩
  ·exact h.elim
 case appD e sz b zs s x =>
  simp only[evalOp] at h ⊢;generalize ev ρ s=z1 at h ⊢;generalize ev ρ x=z2 at h ⊢;split at h
  ·exact⟨let⟨kd,n,xs,m,news,h1,q,u,h4,y,h6⟩:=h.out;⟨kd,n,xs,m,news,h1,q,u,h4,y,fun v hv r=>p _ _ _ (h6 v hv r)⟩⟩
  ·exact h.elim
 case pan x=>simp only[evalOp] at h
 case dead=>simp only[evalOp] at h
 case mkmap =>
  simp only[evalOp] at h ⊢;cases d with
  | none=>exact h.elim
  | some k =>
   simp only[] at h ⊢;generalize L.get k=z at h ⊢;cases z with
   | none=>exact fun g=>p _ _ _ (h g)
   | some _=>exact h.elim
 case mupd str x i v =>
  simp only[evalOp] at h ⊢;generalize ev ρ x=z1 at h ⊢;split at h
  ·obtain⟨k,cs,h1,q,u,cs',h4,y⟩:=h;exact⟨k,cs,h1,q,u,cs',h4,p _ _ _ y⟩
  ·exact h.elim
 case mrange x =>
  simp only[evalOp] at h ⊢;generalize ev ρ x=z1 at h ⊢;split at h
  ·rename_i g k;generalize L.get k=z at h ⊢;cases z with
   | none =>
    obtain⟨km,cs,h1,q,u⟩:=h;exact⟨km,cs,h1,q,fun gi=>p _ _ _ (u gi)⟩
   | some _=>exact h.elim
  ·exact h.elim
 case mnext x =>
  simp only[evalOp] at h ⊢;generalize ev ρ x=z1 at h ⊢;split at h
  ·split at h
   ·rename_i hL;obtain⟨km,cs,h1,q,u,h4,y⟩:=h.out;exact⟨km,cs,h1,q,u,fun j e a b=>p _ _ _ (h4 j e a b),fun a=>p _ _ _ (y a)⟩
   ·exact h.elim
  ·exact h.elim
 case mentry x =>
  simp only[evalOp] at h ⊢;generalize ev ρ x=z1 at h ⊢;split at h
  ·split at h
   ·obtain⟨km,cs,j,e,h1,q,u,h4,y,h6⟩:=h.out;exact⟨km,cs,j,e,h1,q,u,h4,y,p _ _ _ h6⟩
   ·exact h.elim
  ·exact h.elim
 all_goals
  simp only[evalOp] at h ⊢;exact Db h fun v h=>p _ _ _ h
theorem EM {s s':dO}(h:drawn s=some s'):j5 s'=false:=by
 cases s<;>simp only[drawn,vz,reduceCtorEq] at h<;>subst h<;>rfl
theorem Df {bx:List Nat}{s s':dO}(h:og bx s=some s'):j5 s'=false:=by
 unfold og at h;split at h
 ·split at h
  ·split at h
   ·injection h with h;subst h;rfl
   ·cases h
  ·split at h
   ·split at h
    ·injection h with h;subst h;rfl
    ·cases h
   ·cases h
 ·injection h with h;subst h;rfl
 ·split at h<;>(injection h with h;subst h;rfl)
 ·split at h<;>(injection h with h;subst h;rfl)
 ·exact EM h
theorem Dg {fl bx:List Nat}{bk:List (Nat×Nat)}{s s':dO}(h:uq fl bk bx s=some s'):j5 s'=false:=by
 rcases wQ h with h | ⟨a,n,i,rfl,rfl⟩ | ⟨a,n,i,key,rfl,rfl⟩ | ⟨a,n,i,rfl,rfl⟩
 ·exact Df h
 ·rfl
 ·rfl
 ·rfl
theorem Dh {s s':dO}(h:wN s=some s'):j5 s'=false:=by
 cases s<;>simp only[wN,vz,reduceCtorEq] at h<;>subst h<;>rfl
theorem vB {A:cT}{e:Array Oper}:∀{is:List Nat}{ss:List ai},ef P A e is=some ss->∀s∈ss,(∃d o g,s=.op d o g/\j5 o=false)\/∃d o,s=.pc d o none/\Es o=true:=by
 intro is
 induction is with
 | nil=>intro ss h s c;simp only[ef,vz] at h;subst h;cases c
 | cons i is f =>
  intro ss h s c;simp only[ef] at h;split at h
  case h_2=>cases h
  rename_i l j h1 k;injection h with h
  subst h;rcases aaT.1 c with rfl | c
  ·unfold Bh at h1;split at h1
   case h_1=>cases h1
   split at h1
   case h_2=>cases h1
   split at h1
   ·split at h1
    case h_3=>cases h1
    ·injection h1 with h1
     exact .inr ⟨_,_,h1.symm,rfl⟩
    ·injection h1 with h1
     exact .inr ⟨_,_,h1.symm,rfl⟩
   ·split at h1
    ·split at h1
     case h_2=>cases h1
     rename_i s' b;injection h1 with h1
     exact .inl ⟨_,s',_,h1.symm,Dh b⟩
    ·split at h1
     case h_2=>cases h1
     rename_i s' b;split at h1
     case h_2=>cases h1
     injection h1 with h1
     exact .inl ⟨_,s',_,h1.symm,Dg b⟩
  ·exact f k s c
theorem Di:∀{ss:List ai},FD ss=true->∀d o g,ai.pc d o g∉ss
 | [],_,d,o,g,h=>by cases h
 | .op _ _ _::l,b,d,o,g,h=>by
  rcases aaT.1 h with h | h
  ·cases h
  ·exact Di (ss:=l) b d o g h
 | .frz _::l,b,d,o,g,h=>by cases b
 | .pc _ _ _::l,b,d,o,g,h=>by cases b
theorem Hy {A:cT}{b:Array Oper}{is:List Nat}{ss:List ai}(e:ef P A b is=some ss) (f:FD ss=true):∀s∈ss,∃d o g,s=.op d o g/\j5 o=false:=by
 intro s c;rcases vB e s c with h | ⟨d,o,rfl,_⟩
 ·exact h
 ·exact o5 c (Di f _ _ _)
theorem xU {K:TK}:∀(ss:List ai),(∀s∈ss,∃d o g,s=ai.op d o g/\j5 o=false)->∀{F:au}{L:Loc}{ρ:Env}{M:TL}{τ:aK},TS G F L ρ M τ->cZ P PS true ss M τ K->aQ P ss F L ρ (Both G K)
 | [],_,F,L,ρ,M,τ,e,h=>⟨M,τ,e,h⟩
 | s::ss,u,F,L,ρ,M,τ,e,h=>by
  obtain⟨d,o,g,rfl,ho⟩:=u s (by simp);have f:∀s∈ss,∃d o g,s=ai.op d o g/\j5 o=false:=fun s z=>u s (by simp[z]);have c:∀{ρ:Env}{τ:aK},TS G F L ρ M τ->bN P o d M τ (fun M' m=>cZ P PS true ss M' m K)->evalOp P o d F L ρ (fun F' L' ρ'=>aQ P ss F' L' ρ' (Both G K)):=by
   intro ρ τ e h;have:=JP ho e h;exact xT this fun F' L' ρ' ⟨M',m,h1,y⟩=>xU ss f h1 y
  cases g with
  | none =>
   simp only[eH,stepT] at h;simp only[aQ];exact c e h
  | some p =>
   obtain⟨s,l⟩:=p;simp only[eH,stepT] at h;simp only[aQ];split at h
   ·rename_i b hb;have k:ρ s=.v (.bool b):=iQ (x:=.t s) e.env hb;simp only[k];have j:∀n,b=n->TS G F L (Fr.put (some s) (.v (.bool n)) ρ) M (bg (some s) (.bool n) τ):=fun n _=>e.put fW (some s);have r:∀{ρ:Env}{τ:aK},TS G F L ρ M τ->TS G F L (Fr.put d (.v undef) ρ) M (bg d .und τ):=fun e=>e.put kO d;cases b<;>simp only[yX] at h ⊢<;>cases l<;>simp only[] at h ⊢
    ·exact c (j _ rfl) h
    ·exact xU ss f (r (j _ rfl)) h
    ·exact xU ss f (r (j _ rfl)) h
    ·exact c (j _ rfl) h
   ·rename_i hb;have q:=e.env s;rw[hb] at q;simp only[aL,Rel] at q;obtain⟨v,k,rfl⟩:=q;simp only[k,undef];exact xU ss f (e.put kO d) h
   ·exact h.elim
theorem uP:∀{ss:List ai},zW ss M=true->∀s∈ss,∀k,wV s=some k->M.get k=none
 | [],_,s,b,_,_=>by cases b
 | x::l,h,s,b,k,e=>by
  unfold zW at h;rcases aaT.1 b with rfl | b
  ·rw[e] at h;simp only[] at h;cases c:M.get k with
   | none=>rfl
   | some o=>rw[c] at h;cases h
  ·split at h
   ·exact uP h s b k e
   ·split at h
    ·exact uP h s b k e
    ·cases h
theorem oG {K:TK}{z:List Nat}:∀(ss:List ai),(∀s∈ss,(∃d o g,s=ai.op d o g/\j5 o=false)\/∃d o,s=ai.pc d o none/\Es o=true)->∀{F:au}{L:Loc}{ρ:Env}{M:TL}{τ:aK},TS G F L ρ M τ->j3 P PS z ss M τ K->aX P (yY G PS) z ss F L ρ (Both G K)
 | [],_,F,L,ρ,M,τ,e,h=>⟨M,τ,e,h⟩
 | s::ss,hc,F,L,ρ,M,τ,e,h=>by
  have m:∀s∈ss,(∃d o g,s=ai.op d o g/\j5 o=false)\/∃d o,s=ai.pc d o none/\Es o=true:=fun s hs=>hc s (by simp[hs]);rcases hc s (by simp) with⟨d,o,g,rfl,ho⟩ | ⟨d,o,rfl,ho⟩
  case inr =>
   cases o<;>simp only[Es,aa1] at ho
   ·rename_i f l;simp only[jE,zX,ED,fV,eX,eO] at h;simp only[aX,rN];split at h
    case h_1 =>
     rename_i st j;refine(vw e (dL e.env l) (show PS=⟨PS.ps,PS.hb,some st⟩ by rw[<-j]) h).imp fun F' L' v _ _ _ _ _ h=>?_;obtain⟨M',k,c,h1,n,y⟩:=h;exact oG ss m (h1.put n d) y
    rename_i j;refine(xN e (dL e.env l) h j).imp fun F' L' v _ _ _ _ _ h=>?_;obtain⟨M',k,c,h1,n,y⟩:=h;exact oG ss m (h1.put n d) y
   ·rename_i fx l;simp only[jE,zX,ED] at h;split at h
    case h_2=>exact h.elim
    rename_i f fi ca hx;simp only[fV,eX,eO] at h;obtain⟨ao,al,e1,h1,n⟩:=uJ e.env hx;simp only[aX,rN,e1];split at h
    case h_1 =>
     rename_i st j;refine(vw e (jn e.env h1 n l) (show PS=⟨PS.ps,PS.hb,some st⟩ by rw[<-j]) h).imp fun F' L' v _ _ _ _ _ h=>?_;obtain⟨M',k,c,h1,n,y⟩:=h;exact oG ss m (h1.put n d) y
    rename_i j;refine(xN e (jn e.env h1 n l) h j).imp fun F' L' v _ _ _ _ _ h=>?_;obtain⟨M',k,c,h1,n,y⟩:=h;exact oG ss m (h1.put n d) y
  have q:∀{ρ:Env}{τ:aK},TS G F L ρ M τ->bN P o d M τ (fun M' k=>j3 P PS z ss M' k K)->evalOp P o d F L ρ (fun F' L' ρ'=>aX P (yY G PS) z ss F' L' ρ' (Both G K)):=by
   intro ρ τ e h;have:=JP ho e h;exact xT this fun F' L' ρ' ⟨M',k,h1,n⟩=>oG ss m h1 n
  cases g with
  | none =>
   simp only[jE,zX,stepT] at h;exact⟨o,rfl,q e h⟩
  | some p =>
   obtain⟨s,aa⟩:=p;simp only[jE,zX,stepT] at h;simp only[aX,res];have hu:∀{ρ:Env}{τ:aK},TS G F L ρ M τ->TS G F L (Fr.put d (.v undef) ρ) M (bg d .und τ):=fun e=>e.put kO d;have skip:∀{ρ:Env}{τ:aK},TS G F L ρ M τ->j3 P PS z ss M (bg d .und τ) K->evalOp P gY d F L ρ (fun F' L' ρ'=>aX P (yY G PS) z ss F' L' ρ' (Both G K)):=by
    intro ρ τ e h;simp only[gY,evalOp,aJ,ev];exact oG ss m (hu e) h
   split at h
   ·rename_i b hb;have r:ρ s=.v (.bool b):=iQ (x:=.t s) e.env hb;have u:TS G F L ρ M (bg (some s) (.bool b) τ):=by
     have:=e.put (fW (b:=b)) (some s)
     rwa [Fr.kE r] at this
    simp only[r];cases b<;>simp only[yX] at h ⊢<;>cases aa<;>simp only[reduceCtorEq,↓reduceIte,vz,exists_eq_left'] at h ⊢
    ·exact q u h
    ·exact skip u h
    ·exact skip u h
    ·exact q u h
   ·rename_i hb;have hr:=e.env s;rw[hb] at hr;simp only[aL,Rel] at hr;obtain⟨v,r,rfl⟩:=hr;simp only[r,undef,vz,exists_eq_left'];exact skip e h
   ·exact h.elim
theorem Dj:∀(b:List Nat) (d:List C) (τ:aK) (j:Nat),pT b d τ j=τ j\/∃(i:Nat) (c:C),b[i]?=some j/\d[i]?=some c/\pT b d τ j=c
 | [],d,τ,j=>.inl rfl
 | k::b,[],τ,j=>.inl rfl
 | k::b,v::d,τ,j=>by
  simp only[pT,Bv];split
  ·rename_i h;subst h;exact .inr ⟨0,v,by simp,by simp,rfl⟩
  ·rcases Dj b d τ j with h | ⟨i,c,h1,e,f⟩
   ·exact .inl h
   ·exact .inr ⟨i+1,c,by simpa using h1,by simpa using e,f⟩
theorem Ae {M1:TL}:∀{b:List Nat}{d:List C}{τ:aK},mS M M1 b d τ->∀{i j:Nat}{c:C},b[i]?=some j->d[i]?=some c->Mn M M1 (τ j) c
 | [],d,τ,h,i,j,c,e,_=>by simp at e
 | k::b,[],τ,h,i,j,c,_,e=>by simp at e
 | k::b,v::d,τ,h,i,j,c,l,f=>by
  simp only[mS] at h;cases i with
  | zero=>simp at l f;subst l f;exact h.1
  | succ i=>exact Ae h.2 (by simpa using l) (by simpa using f)
theorem Af {M1:TL}(m:TS G F L ρ M τ):∀{f:List Nat}{c:List C},c.length=f.length->mS M M1 f c τ->gives M M1 M1->ul c
 | [],[],_,_,_=>by simp only[ul]
 | [],v::c,b,_,_=>by simp at b
 | k::f,[],b,_,_=>by simp at b
 | k::f,v::c,b,h,n=>by
  simp only[mS] at h;simp only[ul];refine⟨?_,Af m (by simpa using b) h.2 n⟩;have j:=lZ (m.env k);rcases h.1 with e | ⟨e,_⟩ | ⟨l,d⟩ | ⟨l,p,t,sz,d,_⟩ | ⟨els,l,d⟩
  ·rw[e];simp only[Wf]
  ·rw[e] at j;have:=j.wf
   revert this
   cases v<;>simp[C.cel,Wf]
  ·rw[d];simp[Wf,xh]
  ·rw[d];simp only[Wf]
  ·rw[l] at j;have:=(uK j).wf;rw[d];exact this
theorem Qx {M:TL}(c:bK F L M):∀{l:TL},(∀k o,l.get k=some o->M.get k=some o)->∀k o,l.get k=some o->o.Wf:=by
 intro l h k o e;rcases dR (c k) with⟨b,_⟩ | ⟨q,p,b,f,d⟩
 ·rw[h k o e] at b;cases b
 ·rw[h k o e] at b;injection b with b
  subst b;exact d.wf
theorem Hz {L':Loc}{F':au}(f:F.le F') (q:∀k g t cs,L.get k=some (.box g t cs)->∃cs',L'.get k=some (.box g t cs')) :
  (∀c v,C.leaf c=true->Rel F L c v->Rel F' L' (pQ c) v)/\(∀c sv,C.leaf c=true->aL F L c sv->aL F' L' (pQ c) sv):=by
 have hb:∀{k:Nat},(∃g t cs,L.get k=some (.box g t cs))->∀o,L.get k=some o->∃o',L'.get k=some o'/\Own.like o o':=by
  intro k m o l;obtain⟨g,t,cs,m⟩:=m;rw[m] at l;injection l with l
  subst l;obtain⟨cs',h⟩:=q k g t cs m;exact⟨_,h,rfl,rfl⟩
 constructor
 ·intro c v n h;cases c<;>simp only[C.leaf,aa1] at n<;>simp only[pQ]
  case rw=>simp only[Rel]
  case elr=>simp only[Rel]
  case own k off =>
   have d:=h;simp only[Rel] at d;obtain⟨g,t,cs,h1,_⟩:=d;refine bD f (fun j e=>?_) rfl h;rcases e with⟨off,e⟩ | e | e
   ·injection e with e e2;subst e;exact hb ⟨g,t,cs,h1⟩
   ·cases e
   ·cases e
  case mpr k =>
   have d:=h;simp only[Rel] at d;obtain⟨g,cs,h1,_⟩:=d;refine bD f (fun j e=>?_) rfl h;rcases e with⟨off,e⟩ | e | e
   ·cases e
   ·cases e
   ·injection e with e;subst e;exact hb ⟨g,0,cs,h1⟩
  all_goals
   exact bD f (fun p e=>by rcases e with⟨off,e⟩ | e | e<;>cases e) rfl h
 ·intro c sv n h;cases c<;>simp only[C.leaf,aa1] at n<;>simp only[pQ]
  case rw=>trivial
  case elr=>trivial
  case own k off =>
   have d:=h;simp only[aL] at d;refine dB f (fun j e=>?_) rfl h;rcases e with⟨off,e⟩ | ⟨off,e⟩ | e | ⟨a,b,e⟩ | e<;>first | cases e;done | skip
   injection e with e e2
   subst e;exact hb d.2
  case ownv k off =>
   have d:=h;simp only[aL,Rel] at d;obtain⟨v,_,g,t,cs,h1,_⟩:=d;refine dB f (fun j e=>?_) rfl h;rcases e with⟨off,e⟩ | ⟨off,e⟩ | e | ⟨a,b,e⟩ | e<;>first | cases e;done | skip
   injection e with e e2
   subst e;exact hb ⟨g,t,cs,h1⟩
  case mpr k =>
   have d:=h;simp only[aL,Rel] at d;obtain⟨v,_,g,cs,h1,_⟩:=d;refine dB f (fun j e=>?_) rfl h;rcases e with⟨off,e⟩ | ⟨off,e⟩ | e | ⟨a,b,e⟩ | e<;>first | cases e;done | skip
   injection e with e
   subst e;exact hb ⟨g,0,cs,h1⟩
  all_goals
   exact dB f (fun p e=>by rcases e with⟨off,e⟩ | ⟨off,e⟩ | e | ⟨a,b,e⟩ | e<;>cases e) rfl h
def JR (L:Loc) (c:C) (v:Value):SV:=match c with | .own k off=>.own k off | .ownv _ _=>.v v | _=>.v v
theorem qK {c:C}{v:Value}(h:Rel F L c v):aL F L c (JR L c v)/\conc L (JR L c v)=v/\(∀k off,JR L c v=.own k off->∃g t cs,L.get k=some (.box g t cs))/\(∀f j,JR L c v≠.el f j):=by
 cases c
 case own k off =>
  simp only[Rel] at h;obtain⟨g,t,cs,h,rfl⟩:=h;refine⟨⟨rfl,g,t,cs,h⟩,by simp only[JR,conc,h],fun l d e=>?_,fun f j e=>(by cases e)⟩;injection e with e1 e2
  subst e1;exact⟨g,t,cs,h⟩
 case pt es off =>
  simp only[Rel] at h;obtain⟨b,o,n,rfl,m,p⟩:=h;exact⟨⟨b,o,0,n,.inl ⟨rfl,rfl⟩,m,p⟩,rfl,fun l d e=>(by cases e),fun f j e=>(by cases e)⟩
 case ownv=>exact h.elim
 case elr=>exact h.elim
 case any=>exact⟨trivial,rfl,fun l d e=>(by cases e),fun f j e=>(by cases e)⟩
 all_goals
  exact⟨⟨v,rfl,h⟩,rfl,fun l d e=>(by cases e),fun f j e=>(by cases e)⟩
theorem JS {F0:au}{L0:Loc}{b:Env}{f:aK}{a0 a1:Act}{asg:List Nat}{p:List Nat}{q:List C}{L1:Loc}{F1:au}(d:aA L0 b a0) (u:∀j,aL F0 L0 (f j) (b j)) (hF:F0.le F1)
  (hb:∀k g t cs,L0.get k=some (.box g t cs)->∃cs',L1.get k=some (.box g t cs')) (s:∀j,j∉asg->a1.tmps.getD j undef=a0.tmps.getD j undef)
  (hv:∀(i j:Nat) c,p[i]?=some j->q[i]?=some c->Rel F1 L1 c (a1.tmps.getD j undef)) :
  ∃n,aA L1 n a1/\∀j,aL F1 L1 (pT p q (sZ asg f) j) (n j):=by
 have key:∀j,∃sv,aL F1 L1 (pT p q (sZ asg f) j) sv/\conc L1 sv=a1.tmps.getD j undef/\(∀k off,sv=.own k off->∃g t cs,L1.get k=some (.box g t cs))/\(∀m i,sv=.el m i->m≠none):=by
  intro j;rcases Dj p q (sZ asg f) j with h | ⟨i,c,h1,h2,h3⟩
  ·rw[h];simp only[sZ];split
   ·exact⟨.v (a1.tmps.getD j undef),trivial,rfl,fun _ _ e=>(by cases e),fun _ _ e=>(by cases e)⟩
   ·rename_i y;have hj:j∉asg:=fun h=>by rw[cN.2 h] at y;cases y
    obtain⟨u1,u2⟩:=Hz hF hb;refine⟨b j,aL.mp u1 u2 3 (u j),?_,?_,d.el j⟩
    ·rw[s j hj,d.eq j];cases e:b j with
     | v x=>rfl
     | el x i=>rfl
     | own k off =>
      obtain⟨g,t,cs,r⟩:=d.own j k off e;obtain⟨cs',l⟩:=hb _ _ _ _ r;simp only[conc,r,l]
    ·intro k off e;obtain⟨g,t,cs,r⟩:=d.own j k off e;obtain⟨cs',l⟩:=hb _ _ _ _ r;exact⟨g,t,cs',l⟩
  ·rw[h3];obtain⟨s1,s2,s3,z⟩:=qK (hv i j c h1 h2);exact⟨_,s1,s2,s3,fun m i e=>o5 e (z m i)⟩
 refine⟨fun j=>(key j).choose,⟨fun t=>?_,fun t k off e=>?_,fun t m j e=>?_⟩,fun j=>(key j).choose_spec.1⟩
 ·exact(key t).choose_spec.2.1.symm
 ·exact(key t).choose_spec.2.2.1 k off e
 ·exact(key t).choose_spec.2.2.2 m j e
theorem Ag {n:Nat}{F:au}{L:Loc}{w:World}{a:Act}{asg:List Nat}{K K':dm}{a':Act}{w':World}(h:dY n F L w a asg K a' w') (j:∀{F' L' ρ'},K F' L' ρ'->K' F' L' ρ'):dY n F L w a asg K' a' w':=by
 obtain⟨F',L',ρ',h1,b,d,e,c,f,k⟩:=h;exact⟨F',L',ρ',h1,b,d,e,c,f,j k⟩
theorem zh {P:Program}{PS:nD}{G:Nat->Option (Nat×TypeId)}{a:Act}{w:World}{b:List ai}{K:TK}:∀(ks:List Nat) {F:au}{L:Loc}{ρ:Env}{M:TL}{τ:aK},tD G PS ks->St F L w->aA L ρ a->TS G F L ρ M τ->cZ P PS false (ks.map ai.frz++b) M τ K ->
  ∃F' L' ρ' M' c,St F' L' w/\aA L' ρ' a/\Step F L w F' L' w/\TS G F' L' ρ' M' c/\cZ P PS false b M' c K:=by
 intro ks
 induction ks with
 | nil=>intro F L ρ M τ _ l n f h;exact⟨F,L,ρ,M,τ,l,n,Step.refl _ _ _,f,h⟩
 | cons k ks d =>
  intro F L ρ M τ p l n f h;simp only[aaW,aa2,eH] at h;obtain⟨F1,L1,s,M1,x,y,g2,z,t,h⟩:=Dc l n f (p k (by simp)) h;obtain⟨F2,L2,m,M2,e,k1,r,q,u,k5⟩:=d (fun j v=>p j (by simp[v])) y g2 t h;exact⟨F2,L2,m,M2,e,k1,r,z.trans q,u,k5⟩
theorem HA:∀{ks:List Nat}{ss:List ai},∀k∈ks,k∈fK (Ew ks (.regD ss))
 | [],_,k,h=>by cases h
 | j::l,ss,k,h=>by
  have:∀(l:List Nat),∀k∈l,k∈dc (l.map ai.frz):=by
   intro l
   induction l with
   | nil=>intro k h;cases h
   | cons j l b =>
    intro k h;simp only[aaW,dc,aaT] at h ⊢;exact h.imp id (b k)
  exact aaU.2 (.inl (this (j::l) k h))
theorem Dk {P:Program}{PS:nD}{G:Nat->Option (Nat×TypeId)}{ρ:Env}{a:Act}{w:World}{ss:List ai}{E:Nat->TK}{R N:TK}{F:au}{L:Loc}{M:TL}{τ:aK}:∀(ks:List Nat),tD G PS (fK (Ew ks (.regD ss)))->St F L w->aA L ρ a->TS G F L ρ M τ->evalTC P PS (Ew ks (.regD ss)) E R N M τ ->
  ∃F' L' ρ' M' b,St F' L' w/\aA L' ρ' a/\Step F L w F' L' w/\TS G F' L' ρ' M' b/\cZ P PS true ss M' b N
 | [],_,e,m,d,h=>⟨F,L,ρ,M,τ,e,m,Step.refl _ _ _,d,h⟩
 | k::l,n,e,m,d,h=>by
  have u:cZ P PS false ((k::l).map ai.frz++[]) M τ (fun M τ=>cZ P PS true ss M τ N):=by rw[abm];exact h
  obtain⟨F1,L1,c,M1,f,h1,q,s,t,r⟩:=zh (k::l) (fun j p=>n j (HA j p)) e m d u;exact⟨F1,L1,c,M1,f,h1,q,s,t,r⟩
theorem uQ {M:TL}:∀{ks:List Nat},rP M ks=true->∀k∈ks,∀o,M.get k=some o->Bx o=true
 | [],_,k,h,_,_=>by cases h
 | j::ks,c,k,h,o,e=>by
  simp only[rP] at c;split at c
  ·cases c
  ·cases c
  ·rename_i d b;rcases aaT.1 h with rfl | h
   ·cases o with
    | box t cs=>exact o5 e (d _ _)
    | map es=>exact o5 e (b _)
    | row=>rfl
   ·exact uQ c k h o e
theorem HC {M:TL}{ks:List Nat}(b:rP M ks=true) (k:Nat) (h:k∈ks) (t:TypeId) (cs:List C):M.get k≠some (.box t cs):=fun e=>by cases uQ b k h _ e
theorem EN {M:TL}{ks:List Nat}(b:rP M ks=true) (k:Nat) (h:k∈ks) (es:List (C×C)):M.get k≠some (.map es):=fun e=>by cases uQ b k h _ e
theorem fu {A:cT}:∀(c:Code) {sc:ax},low P A c=some sc->∀{G:Nat->Option (Nat×TypeId)}{E:Nat->TK}{R N:TK}{F:au}{L:Loc}{ρ:Env}{M:TL}{τ:aK}{a:Act}{w:World},tD G PS (fK sc)->St F L w->aA L ρ a->TS G F L ρ M τ->a.tmps.size=A.n ->
  evalTC P PS sc E R N M τ->c.wp P (QQ A.n F L w a (dI c) (yY G PS) (fun j=>Both G (E j)) (Both G R) (Both G N)) a w:=by
 intro c
 induction c with
 | skip =>
  intro sc b G E R N F L ρ M τ a w m hs he z hn d;simp only[low,vz] at b;subst b;exact wp_skip ⟨F,L,ρ,hs,he,hn,rfl,Step.refl _ _ _,fun _ _=>rfl,M,τ,z,d⟩
 | label l =>
  intro sc b G E R N F L ρ M τ a w m hs he z hn d;simp only[low,vz] at b;subst b;exact wp_label ⟨F,L,ρ,hs,he,hn,rfl,Step.refl _ _ _,fun _ _=>rfl,M,τ,z,d⟩
 | exit id =>
  intro sc b G E R N F L ρ M τ a w m hs he z hn d;simp only[low,vz] at b;subst b;exact wp_exit ⟨F,L,ρ,hs,he,hn,rfl,Step.refl _ _ _,fun _ _=>rfl,M,τ,z,d⟩
 | ret =>
  intro sc b G E R N F L ρ M τ a w m hs he z hn d;simp only[low,vz] at b;subst b;exact wp_ret ⟨F,L,ρ,hs,he,hn,rfl,Step.refl _ _ _,fun _ _=>rfl,M,τ,z,d⟩
 | region r el cX =>
  intro sc b G E R N F L ρ M τ a w m hs he z hn d;cases cX with
  | false =>
   simp only[low] at b;split at b
   case h_2=>cases b
   rename_i ss df;injection b with b;subst b
   simp only[kG,lV,kH,lW,kI,jF,kJ,kK,lX] at d;exact wp_region (xS _ df m hs he z hn d (fun a' w' h=>h) fun v ch a' w' hc h=>⟨v,hc,h⟩)
  | true =>
   simp only[low] at b;split at b
   case h_2=>cases b
   rename_i is cl ss h1 h2;have h4:CO A.ord r=is:=by simp only[CO,h1]
   rw[h4] at h2;split at b
   case h_2 =>
    split at b
    case h_2=>cases b
    rename_i h3;injection b with b;subst b
    rw[C3] at d;split at d
    case h_2=>exact d.elim
    rename_i cp;exact CZ h2 h3 hs he hn (fun s hs k e=>bY z.tl (uP cp s hs k e)) (oG ss (vB h2) z d) (fun a' w' h=>h) fun v ch a' w' F' L' gc g1 g2 g3 g4 g5 g6=>⟨v,gc,F',L',g1,g2,g3,g4,g5,g6⟩
   rename_i h0;split at b
   case h_2=>cases b
   rename_i h3;injection b with b;subst b
   obtain⟨F1,L1,ad,M1,an,aw,az,ag,ac,d⟩:=Dk _ m hs he z d;exact wT h2 h3 aw az hn (xU ss (Hy h2 h0) ac d) fun a' w' h=>dY.after (asg1:=[]) ag rfl (fun _ _=>rfl) h (fun _ h=>o5 h List.not_mem_nil) (fun _ h=>h)
 | seq x y bb bd =>
  intro sc b G E R N F L ρ M τ a w m hs he z hn d;simp only[low] at b;split at b
  case h_2=>cases b
  rename_i h1 h2;injection b with b;subst b
  simp only[kG,lV,kH,lW,kI,jF,kJ,kK,lX] at d;refine wp_seq (wp_mono (bb h1 m.left hs he z hn d) ?_);intro e a1 w1 u;cases e with
  | normal =>
   obtain⟨F1,L1,ad,g1,g2,g3,g4,g5,g6,M1,an,g7,g8⟩:=u;refine wp_mono (bd h2 m.right g1 g2 g7 g3 g8) ?_;intro e2 a2 w2 bz;cases e2<;>first
    | exact dY.after g5 g4 g6 bz (fun j h=>aaU.2 (.inl h)) (fun j h=>aaU.2 (.inr h))
    | exact(let⟨v,e,h⟩:=bz;⟨v,e,ru.after g5 g4 g6 h (fun j h=>aaU.2 (.inl h)) (fun j h=>aaU.2 (.inr h)) fun _ _ h=>h⟩)
    | exact bz
  | exit id=>exact u.mono fun j h=>aaU.2 (.inl h)
  | ret=>exact u.mono fun j h=>aaU.2 (.inl h)
  | goto l=>exact u
  | panic c=>exact(let⟨v,e,h⟩:=u;⟨v,e,h.mono fun j h=>aaU.2 (.inl h)⟩)
  | outgrown=>exact u
 | cond c x y bb bd =>
  intro sc b G E R N F L ρ M τ a w m hs he z hn d;simp only[low] at b;split at b
  case h_2=>cases b
  rename_i h0 h1 h2;injection b with b;subst b
  simp only[kG,lV,kH,lW,kI,jF,kJ,kK,lX] at d;split at d
  case h_2=>exact d.elim
  rename_i t ds;have hc:a.eval c=.bool t:=by rw[aD h0 he,cL (iQ z.env ds)]
  refine wp_cond hc ?_;cases t
  ·simp only[yX] at d;refine wp_mono (bd h2 m.right hs he z hn d) ?_;intro e a1 w1 u;cases e<;>first
    | exact u.mono fun j h=>aaU.2 (.inr h)
    | exact(let⟨v,e,h⟩:=u;⟨v,e,h.mono fun j h=>aaU.2 (.inr h)⟩)
    | exact u
  ·simp only[yX] at d;refine wp_mono (bb h1 m.left hs he z hn d) ?_;intro e a1 w1 u;cases e<;>first
    | exact u.mono fun j h=>aaU.2 (.inl h)
    | exact(let⟨v,e,h⟩:=u;⟨v,e,h.mono fun j h=>aaU.2 (.inl h)⟩)
    | exact u
 | block id x ih =>
  intro sc b G E R N F L ρ M τ a w m hs he z hn d;simp only[low] at b;split at b
  case h_2=>cases b
  rename_i h1;injection b with b;subst b
  simp only[kG,lV,kH,lW,kI,jF,kJ,kK,lX] at d;refine wp_block (wp_mono (ih h1 m hs he z hn d) ?_);intro e a1 w1 u;cases e with
  | exit j =>
   simp only[Exit.inBlock];simp only[QQ] at u
   by_cases hj:j=id
   ·subst hj;have hb:Nat.beq j j=true:=by simp
    rw[hb] at u;rw[fo rfl];exact u
   ·have hb:Nat.beq j id=false:=by
     cases h:Nat.beq j id with
     | true=>exact o5 (aaO h) hj
     | false=>rfl
    rw[hb] at u;rw[fL hj];exact u
  | normal=>exact u
  | ret=>exact u
  | goto l=>exact u
  | panic c=>exact u
  | outgrown=>exact u
 | loop x ih =>
  intro sc b G E R N F L ρ M τ a w m hs he z hn d;simp only[low] at b;split at b
  case h_2=>cases b
  rename_i sx h1;injection b with b;subst b
  simp only[kG,lV,kH,lW,kI,jF,kJ,kK,lX] at d;split at d
  case h_2=>exact d.elim
  rename_i cM;obtain⟨σ,x0,Inv,ls,lv,Lf,μ,i0,i1,i2,i3,i4,i5⟩:=d
  -- the boxes that there are,with their addresses
  let G1:Nat->Option (Nat×TypeId):=fun k=>match L.get k with | some (.box g t _)=>some (g,t) | _=>none
  have cx:∀k g t cs,L.get k=some (.box g t cs)->G1 k=some (g,t):=fun k g t cs e=>by simp only[G1,e]
  have bp:Kp G1 L:=by
   intro k g t e;simp only[G1] at e;split at e
   ·rename_i g' t' cs h;injection e with e
    injection e with e1 e2
    subst e1 e2;exact⟨cs,h⟩
   ·cases e
  have db:tD G1 PS (fK sx):=by
   intro k hk bu;exfalso;simp only[G1] at bu;split at bu
   ·rename_i g t cs e;have hr:=z.tl k;rw[e] at hr;cases e2:M.get k with
    | none=>rw[e2] at hr;exact hr
    | some o =>
     rw[e2] at hr;cases o with
     | row=>exact hr
     | box t' cs'=>exact HC cM k hk t' cs' e2
     | map es=>exact EN cM k hk es e2
   ·exact bu rfl
  have hG:∀{L':Loc},Kp G1 L'->Kp G L':=fun hk k g t e=>let⟨cs,h⟩:=z.kp k g t e;hk k g t (cx k g t cs h);have dd:∀{L':Loc},Kp G1 L'->∀k g t cs,L.get k=some (.box g t cs)->∃cs',L'.get k=some (.box g t cs'):=fun hk k g t cs h=>hk k g t (cx k g t cs h);have bm:∀{K:TK}{F' L' ρ'},Both G1 K F' L' ρ'->Both G K F' L' ρ':=fun⟨M',dE,h1,h2⟩=>⟨M',dE,⟨h1.tl,h1.env,hG h1.kp,h1.glob⟩,h2⟩;have dT:∀{F':au}{L':Loc}{M':TL},bK F' L' M'->(∀k o,M'.get k=some o->o.Wf):=fun h k o e=>Qx h (fun _ _ e=>e) k o e
  -- a round's end,or what is ahead of the first round,is a head
  have aE:∀(y:σ) (F1:au) (L1:Loc) (ad:Env) (M1:TL) (an:aK) (a1:Act) (w1:World),F.le F1->St F1 L1 w1->aA L1 ad a1->TS G1 F1 L1 ad M1 an->(∀j,j∉dI x->a1.tmps.getD j undef=a.tmps.getD j undef) ->
    mS M1 (Lf y) ls (lv y) an->gives M1 (Lf y) (Lf y)->∃L2,St F1 L2 w1/\Step F1 L1 w1 F1 L2 w1/\bK F1 L2 (Lf y)/\Kp G1 L2/\ul (lv y) /\
     ∃bk,aA L2 bk a1/\∀j,aL F1 L2 (pT ls (lv y) (sZ (dI x) τ) j) (bk j):=by
   intro y F1 L1 ad M1 an a1 w1 bi aw az ac dr hh hg;obtain⟨g1,g2⟩:=xQ aw ac.tl hg;have bj:Kp G1 (tu L1 (Lf y)):=by
    intro k g t e;obtain⟨cs,cY⟩:=ac.kp k g t e;obtain⟨ey,cr⟩:=bp k g t e;refine⟨cs,?_⟩;rcases dR (z.tl k) with⟨c1,c2⟩ | ⟨q,p,c1,c2,hr⟩
    ·rw[cr] at c2;cases c2
    ·rw[cr] at c2;injection c2 with c2
     subst c2;cases q with
     | row=>exact hr.elim
     | box t' cs' =>
      obtain⟨o2,e2⟩:=mh (i3 y) c1 rfl;rw[lu,e2];simp only[cY]
     | map es =>
      obtain⟨o2,e2⟩:=mh (i3 y) c1 rfl;rw[lu,e2];simp only[cY]
   refine⟨tu L1 (Lf y),g1,g2,xP ac.tl hg,bj,Af ac (i4 y) hh hg,JS he z.env bi (dd bj) dr ?_⟩;intro i j c e1 e2;have hr:=lZ (ac.env j);have hv:a1.tmps.getD j undef=conc L1 (ad j):=az.eq j;rw[hv];have da:=Ae hh e1 e2;rcases da with e | ⟨e,hk⟩ | ⟨e,e'⟩ | ⟨e,k',t',ec,e',q1,q2⟩ | ⟨els,e,e'⟩
   ·rw[e];simp only[Rel]
   ·have hc:(an j).cel=an j:=by
     rw[e];rw[e] at hr;cases c<;>first | rfl | (simp only[fp,qD,aa1] at hk;done)
    rw[hc] at hr;exact qJ ac.tl (.inr (.inl ⟨e,hk⟩)) hr
   ·rw[e] at hr;exact qJ ac.tl (.inr (.inr (.inl ⟨rfl,e'⟩))) hr
   ·rw[e] at hr;exact qJ ac.tl (.inr (.inr (.inr (.inl ⟨rfl,k',t',ec,e',q1,q2⟩)))) hr
   ·rw[e] at hr;exact qJ ac.tl (.inr (.inr (.inr (.inr ⟨els,rfl,e'⟩)))) hr
  refine uo (fun n a1 w1=>∃(y:σ) (F1:au) (L1:Loc),n=μ y/\F.le F1/\Inv y/\St F1 L1 w1/\a1.tmps.size=A.n/\a1.defers=a.defers/\Step F L w F1 L1 w1/\(∀j,j∉dI x->a1.tmps.getD j undef=a.tmps.getD j undef) /\
   bK F1 L1 (Lf y)/\Kp G1 L1/\ul (lv y)/\∃ad,aA L1 ad a1/\∀j,aL F1 L1 (pT ls (lv y) (sZ (dI x) τ) j) (ad j)) ?_ ?_
  ·obtain⟨L2,k1,k2,k3,k4,k5,k6⟩:=aE x0 F L ρ M τ a w (au.le_refl F) hs he ⟨z.tl,z.env,bp,z.glob⟩ (fun _ _=>rfl) i1 i2;exact⟨_,x0,F,L2,rfl,au.le_refl F,i0,k1,hn,rfl,k2,fun _ _=>rfl,k3,k4,k5,k6⟩
  ·rintro n a1 w1 ⟨y,F1,L1,rfl,bi,cz,aw,dp,bc,ag,av,bl,bj,dC,ad,az,bt⟩;refine wp_mono (ih h1 db aw az (⟨bl,bt,bj,aw.glob⟩:TS G1 F1 L1 ad (Lf y) (pT ls (lv y) (sZ (dI x) τ))) dp (i5 y cz dC (dT bl))) ?_;intro e a2 w2 u;cases e with
   | normal =>
    obtain⟨F2,L2,bk,g1,g2,g3,g4,g5,g6,M2,dk,g7,y',k1,k2,k3,k4⟩:=u;have bo:∀j,j∉dI x->a2.tmps.getD j undef=a.tmps.getD j undef:=fun j hj=>by rw[g6 j hj,av j hj]
    obtain⟨L3,q1,q2,q3,q4,q5,q6⟩:=aE y' F2 L2 bk M2 dk a2 w2 (au.le_trans bi g5.le) g1 g2 g7 bo k2 k3;exact⟨μ y',k4,y',F2,L3,rfl,au.le_trans bi g5.le,k1,q1,g3,g4.trans bc,(ag.trans g5).trans q2,bo,q3,q4,q5,q6⟩
   | exit j=>exact dY.after ag bc av (Ag u bm) (fun j h=>h) (fun j h=>h)
   | ret=>exact dY.after ag bc av (Ag u bm) (fun j h=>h) (fun j h=>h)
   | goto l=>exact u
   | panic c=>exact(let⟨v,e,h⟩:=u;⟨v,e,ru.after ag bc av h (fun j h=>h) (fun j h=>h) fun F' L' h=>⟨hG h.1,h.2⟩⟩)
   | outgrown=>exact u
 | rangeFunc f ps x y bb bd=>intro sc b;simp only[low] at b;cases b
 | scope x ih =>
  intro sc b G E R N F L ρ M τ a w m hs he z hn d;simp only[low] at b;refine wp_scope_straight (wp_mono (ih b m hs he z hn d) ?_);intro e a1 w1 u;cases e<;>exact u
 | goto l=>intro sc b;simp only[low] at b;cases b
 | refuse eu=>intro sc b;simp only[low] at b;cases b
end
section
variable {P:Program}{G:Nat->Option (Nat×TypeId)}{F:au}{L:Loc}{ρ:Env}{M:TL}{τ:aK}{a:Act}{w:World}
theorem qL (e:TS G F L ρ M τ):∀{rs:List RV}{K:List C->Prop},gF M τ rs K->mW L ρ rs (fun c=>∃cs,ay F L cs c/\K cs)
 | [],K,h=>⟨[],by simp only[ay],h⟩
 | (t,none)::l,K,h=>by
  simp only[gF] at h;simp only[mW];refine retV_imp (qL e h) ?_;rintro c ⟨cs,h1,m⟩;exact⟨_,by simp only[ay];exact⟨_,_,rfl,lZ (e.env t),h1⟩,m⟩
 | (t,some (agg,n))::l,K,h=>by
  simp only[gF] at h;simp only[mW];split at h
  case h_2=>exact h.elim
  rename_i k off d;split at h
  case h_2=>exact h.elim
  rename_i ty cs p;split at h
  case h_2=>exact h.elim
  rename_i q;obtain⟨o,_⟩:=iY (x:=.t t) e.env d;have o:ρ t=.own k off:=o;obtain⟨g,ty,c,s,r,j⟩:=kS e.tl p;have f:=(r.drop off).take n;simp only[o,s,nZ j.2.2 (jc (show((c.drop off).take n).length=n by rw[f.len];exact bW q))];refine retV_imp (qL e h) ?_;rintro us ⟨ds,h1,m⟩;refine⟨_,?_,m⟩;simp only[ay];have:=lZ (eC (agg:=agg) f);exact⟨_,_,rfl,this,h1⟩
where
 retV_imp {L:Loc}{ρ:Env}:∀{rs:List RV}{K K':List Value->Prop},mW L ρ rs K->(∀c,K c->K' c)->mW L ρ rs K'
 | [],K,K',h,d=>d _ h
 | (t,none)::l,K,K',h,d=>by
  simp only[mW] at h ⊢;exact retV_imp h fun c=>d _
 | (t,some (agg,n))::l,K,K',h,d=>by
  simp only[mW] at h ⊢;generalize ρ t=z at h ⊢;split at h
  case h_2=>exact h.elim
  rename_i k off;generalize L.get k=y at h ⊢;split at h
  case h_2=>exact h.elim
  rename_i ty cs;generalize i9 ty ((cs.drop off).take n) n=b at h ⊢;cases b
  ·exact h.elim
  ·exact retV_imp h fun c=>d _
theorem FO {cs:List C}{b:List Value}(h:ay F L cs b):Rel F L (gD cs) (fR b):=by
 match cs,b,h with
 | [],b,h =>
  simp only[ay] at h;subst h;simp only[gD,fR,Rel];exact⟨[],rfl,by simp only[ay]⟩
 | [c],b,h =>
  simp only[ay] at h;obtain⟨v,d,rfl,h1,rfl⟩:=h;exact h1
 | c1::j::cs,b,h =>
  have e:=h;simp only[ay] at e;obtain⟨v,d,rfl,h1,v2,f,rfl,k⟩:=e;simp only[gD,fR,Rel];exact⟨_,rfl,h⟩
theorem nJ:∀(l:List C) (k j:Nat),jM k l j=if k<=j then(l[j-k]?).getD .und else .und
 | [],k,j=>by simp[jM]
 | v::l,k,j=>by
  simp only[jM,Bv]
  by_cases h:j=k
  ·subst h;simp
  ·rw[fL h,nJ l (k+1) j]
   by_cases h1:k<=j
   ·rw[fo (by omega),fo h1,show j-k=(j-(k+1))+1 by omega,abk]
   ·rw[fL (by omega),fL h1]
theorem Dl {c:C}{v:Value}(h:Rel F L c v):Rel F L c.aat v:=by
 cases c<;>first
  | exact h
  | exact s9 (c:=.nils) h
  | exact uK h
  | (simp only[Rel] at h
     obtain⟨d,h1,b⟩:=h;simp only[C.aat,Rel]
     first
      | exact⟨d,h1,kN b⟩
      | exact⟨d,h1,b.map fun c _ v=>iR⟩)
theorem rU {F':au}{L':Loc}{w':World}{Li:List Own}(j:St F' L' w') (c:Step F (inp Li) w F' L' w') (hb:∀(i:Nat) g t cs,Li[i]?=some (.box g t cs)->∃cs',L'.get (1000+i)=some (.box g t cs')) :
  ∃Lo,St F' (inp Lo) w'/\Step F (inp Li) w F' (inp Lo) w'/\Lo.length=Li.length/\∀(i:Nat) g t cs,Li[i]?=some (.box g t cs)->∃cs',Lo[i]?=some (.box g t cs'):=by
 let Lo:List Own:=Li.mapIdx fun i o=>match o with
  | .box _ _ _=>match L'.get (1000+i) with | some p=>p | none=>.row (.slice none 0 0) 0 0 0 []
  | .row _ t sz _ _=>.row (.slice none 0 0) t sz 0 []
 have get:∀k p,(inp Lo).get k=some p->L'.get k=some p\/∃t sz,p=.row (.slice none 0 0) t sz 0 []:=by
  intro k p e;rw[aF] at e;split at e
  case isFalse=>cases e
  rename_i y;simp only[Lo,List.getElem?_mapIdx] at e;cases h:Li[k-1000]? with
  | none=>rw[h] at e;cases e
  | some o =>
   rw[h] at e;simp only[abl,vz] at e;cases o with
   | box g t cs =>
    simp only at e;rw[show 1000+(k-1000)=k by omega] at e;cases l:L'.get k with
    | none=>rw[l] at e;exact .inr ⟨0,0,e.symm⟩
    | some q=>rw[l] at e;exact .inl (by rw[<-e])
   | row v t sz n xs=>exact .inr ⟨t,sz,e.symm⟩
 refine⟨Lo,⟨j.frz,fun k o e=>?_,fun k o g e d=>?_,fun k m o o' g e x d f=>?_,j.glob⟩,⟨c.le,c.os,c.tape,c.output,c.size,c.same,c.frz,fun b r=>c.own b ?_⟩,by simp[Lo],fun i g t cs hi=>?_⟩
 ·rcases get k o e with h | ⟨t,sz,rfl⟩
  ·exact j.own k o h
  ·exact World.ownsRow_nil w' 0 t sz
 ·rcases get k o e with h | ⟨t,sz,rfl⟩
  ·exact j.off k o g h d
  ·cases d
 ·rcases get k o e with h | ⟨t,sz,rfl⟩<;>rcases get m o' x with s | ⟨z,u,rfl⟩
  ·exact j.sep k m o o' g h s d f
  ·cases f
  ·cases d
  ·cases d
 ·obtain⟨k,o,e,d⟩:=r;rcases get k o e with h | ⟨t,sz,rfl⟩
  ·exact⟨k,o,h,d⟩
  ·cases d
 ·obtain⟨cs',h⟩:=hb i g t cs hi;exact⟨cs',by simp only[Lo,List.getElem?_mapIdx,hi,abl,h]⟩
theorem Ah {n:Nat}{asg:List Nat}{fn:Func}{rs:List RV}{Lin:List TO}{Li:List Own}{R:List TO->C->Prop}{a0 a':Act}{w':World}(x:mF P fn.results.toList=some rs) (hl:Li.length=Lin.length) (ad:bK F (inp Li) (cD Lin))
  (ar:∀k g t cs,(inp Li).get k=some (.box g t cs)->G k=some (g,t)) (hq:dY n F (inp Li) w a0 asg (Both G (fun L ρ=>gF L ρ rs fun vs=>f9 Lin L (gD vs) R)) a' w') :
  a'.defers=a0.defers/\∃v,(results fn a'.tmps).run P w'=.ok v w'/\∃F' Lo,St F' (inp Lo) w'/\Step F (inp Li) w F' (inp Lo) w'/\gC Li R F' Lo v:=by
 obtain⟨F',L',ρ',g1,g2,g3,g4,g5,g6,M',cx,g7,aa⟩:=hq;obtain⟨us,hm,cs,be,⟨fz,ko,hK⟩⟩:=nA g1 g2 x (qL g7 aa);have ag:TS G F' L' ρ' M' (fun _=>.any):=⟨g7.tl,fun _=>trivial,g7.kp,g7.glob⟩;obtain⟨F2,L2,M2,bv,bb,k1,k2,k3,m,k5,M3,c2,c3,Mo,q1,aE,q4,q5,q6,q7⟩:=oF g1 g2 ag (by simp only[ay];exact⟨_,[],rfl,FO be,rfl⟩) hK;subst q1;simp only[ay] at k5;obtain⟨v,cl,ev,hv,rfl⟩:=k5;injection ev with ev _
 subst ev;have ae:∃L3,St F2 L3 w'/\Step F2 L2 w' F2 L3 w'/\bK F2 L3 M3/\Rel F2 L3 c3 (fR us)/\∀k g t cs,L2.get k=some (.box g t cs)->M3.get k≠none->L3.get k=some (.box g t cs):=by
  rcases aE with⟨rfl,rfl⟩ | ⟨q2,q3⟩
  ·exact⟨L2,k1,Step.refl _ _ _,m.tl,hv,fun k g t cs h _=>h⟩
  ·obtain⟨b1,b2⟩:=xQ k1 m.tl q2;refine⟨_,b1,b2,xP m.tl q2,qJ m.tl q3 hv,fun k g t cs h l=>?_⟩;rw[lu];cases e:M3.get k with
   | none=>exact o5 e l
   | some o=>simp only[h]
 obtain⟨L3,b1,b2,f,s,bd⟩:=ae;obtain⟨Lo,q,d2,d3⟩:=j4 f q4;have al:=cP q5;have bc:∀k g t,G k=some (g,t)->∃cs,(M3.get k≠none->L3.get k=some (.box g t cs)):=by
  intro k g t e;obtain⟨cs,h⟩:=m.kp k g t e;exact⟨cs,fun l=>bd _ _ _ _ h l⟩
 refine⟨g4,fR us,?_,F2,Lo,b1.handed q al,?_,Mo.map (TO.aad (C.ren (bh ko 1000))),c3.aat.ren (bh ko 1000),by simp[d2],kT f d2 q d3,(Dl s).ren (lp q),?_,q7 (by simp only[ul];exact⟨s.wf,trivial⟩)⟩
 ·rw[oq];rw[Array.mapM_eq_mapM_toList];simp only[Sem.run_bind,Sem.run_map];rw[hm];simp only[Result.andThen_ok,Sem.run_pure];congr 1
  match us with
  | []=>rfl
  | [t]=>rfl
  | t::u::r =>
   simp only[fR];rw[dif_neg (by simp)]
 ·have c:=(g5.trans k3).trans b2;obtain⟨x1,x2⟩:=cu q;refine⟨c.le,c.os,c.tape,c.output,c.size,c.same,c.frz,fun b hb=>c.own b ?_⟩;obtain⟨j,p,e,hb⟩:=hb;rw[aF] at e;split at e
  case isFalse=>cases e
  have d:j-1000<Lo.length:=(aaR.1 e).1;have hk:ko[j-1000]?=some (ko[j-1000]'(by omega)):=aaN (by omega);exact⟨_,p,by rw[x2 _ _ hk];exact e,hb⟩
 ·intro i g t cs hi;have d:i<Lin.length:=by rw[<-hl];exact(aaR.1 hi).1
  have z:(inp Li).get (1000+i)=some (.box g t cs):=by rw[aF,fo (by omega),show 1000+i-1000=i by omega];exact hi
  have hr:=ad (1000+i);rw[ck,fo (by omega),show 1000+i-1000=i by omega,z,aaN d] at hr;have aw:Bx Lin[i]=false:=by
   cases ac:Lin[i] with
   | row=>rw[ac] at hr;exact hr.elim
   | box t' cs'=>rfl
   | map es=>rfl
  ·obtain⟨k',y1,y2⟩:=gj q6 i _ (aaN d) aw;rw[List.getElem?_range' d] at y1;injection y1 with y1
   obtain⟨x1,x2⟩:=cu q;obtain⟨z1,z2⟩:=xE q4;have y:i<Mo.length:=by rw[z1];exact(aaR.1 y2).1
   have am:M3.get k'≠none:=by rw[z2 i k' y2,aaN y];simp
   have bi:k'=1000+i:=by omega
   subst bi;obtain⟨av,h2⟩:=bc _ g t (ar _ _ _ _ z);exact⟨av,by rw[<-x2 i _ y2];exact h2 am⟩
theorem aU {Pp:Value->Prop}{f:FuncId}{fn:Func}{sc:ax}{A:cT}{rs:List RV}{args:List C}{Lin:List TO}{R:List TO->C->Prop}(hf:P.funcs[f]?=some fn) (b:aB P A fn=some (sc,A.n,rs,false)) (r:Nat.ble args.length A.n=true)
  (h:ul args->(∀o∈Lin,o.Wf)->evalTC P ⟨Pp,[],none⟩ sc (fun _ _ _=>False) (fun L ρ=>gF L ρ rs fun d=>f9 Lin L (gD d) R) (fun L ρ=>gF L ρ rs fun d=>f9 Lin L (gD d) R) (cD Lin) (jM 0 args)):CallsTX P f args Lin R Pp:=by
 unfold aB at b;split at b
 case h_2=>cases b
 rename_i c hb;split at b
 case h_2=>cases b
 rename_i bj am y ab;injection b with b
 injection b with e1 e2
 injection e2 with e2 e3
 injection e3 with e3 hname
 subst e1 e3;refine⟨fun F Li d hl s ha=>⟨⟨fn,hf,by rw[hb];rfl,hname⟩,gC.aao,fun w hs=>?_⟩⟩;refine calls_of_wp hf hb ?_;have an:∀o∈Lin,o.Wf:=by
  intro o ho;obtain⟨i,hi⟩:=abb.1 ho;have:=s (1000+i);rw[ck,aF,fo (by omega),fo (by omega),show 1000+i-1000=i by omega,hi] at this;cases e:Li[i]? with
  | none=>rw[e] at this;exact this.elim
  | some p=>rw[e] at this;exact cE.wf this
 have h:=h ha.wf an;have ac:=ha.len;have r:=aa6 r
 -- the frame
 have key:∀j,∃sv,aL F (inp Li) (jM 0 args j) sv/\conc (inp Li) sv=(d.toArray++Array.replicate (fn.ntmps-d.toArray.size) undef).getD j undef/\(∀k off,sv=.own k off->∃g t cs,(inp Li).get k=some (.box g t cs))/\(∀x i,sv=.el x i->x≠none):=by
  intro j;rw[nJ];simp only[aa9,abj,Nat.sub_zero,aa4];cases e:args[j]? with
  | some c =>
   have u:j<d.length:=by rw[ac];exact(aaR.1 e).1
   obtain⟨s1,s2,s3,s4⟩:=qK (ha.at e (aaN u));refine⟨_,s1,?_,s3,fun x i e=>o5 e (s4 x i)⟩;rw[s2,Array.getElem?_append_left (by simpa using u)];simp[u]
  | none =>
   have av:d.length<=j:=by rw[ac];exact abx.1 e
   refine⟨.v undef,kO,?_,fun _ _ e=>(by cases e),fun _ _ e=>(by cases e)⟩;rw[Array.getElem?_append_right (by simpa using av)];simp only[Array.getElem?_replicate,conc];split<;>rfl
 let z:Env:=fun j=>(key j).choose
 have he:aA (inp Li) z {tmps:=d.toArray++Array.replicate (fn.ntmps-d.toArray.size) undef,defers:=[]} :=
  ⟨fun t=>(key t).choose_spec.2.1.symm,fun t k off e=>(key t).choose_spec.2.2.1 k off e,fun t x j e=>(key t).choose_spec.2.2.2 x j e⟩
 let G:Nat->Option (Nat×TypeId):=fun k=>match(inp Li).get k with | some (.box g t _)=>some (g,t) | _=>none
 have aa:∀k g t cs,(inp Li).get k=some (.box g t cs)->G k=some (g,t):=fun k g t cs e=>by simp only[G,e]
 have ar:Kp G (inp Li):=by
  intro k g t e;simp only[G] at e;split at e
  ·rename_i g' t' cs h;injection e with e
   injection e with e1 e2
   subst e1 e2;exact⟨cs,h⟩
  ·cases e
 have ae:∀k,G k≠none->1000<=k:=by
  intro k m;simp only[G] at m;split at m
  ·rename_i g t cs h;rw[aF] at h;split at h
   ·assumption
   ·cases h
  ·exact o5 rfl m
 have ht:TS G F (inp Li) z (cD Lin) (jM 0 args):=⟨s,fun j=>(key j).choose_spec.1,ar,hs.glob⟩;refine wp_mono (fu c y (fun k _ m=>.inl (ae k m)) hs he ht (by simp[e2];omega) h) ?_;intro e a' w' q;have fin:∀{a0:Act},a0.defers=[]->dY A.n F (inp Li) w a0 (dI c) (Both G (fun L ρ=>gF L ρ am fun d=>f9 Lin L (gD d) R)) a' w'->a'.defers=[]/\∃v,(results fn a'.tmps).run P w'=.ok v w' /\
   ∃v' F' Lo,Ending.returned v=.returned v'/\St F' (inp Lo) w'/\Step F (inp Li) w F' (inp Lo) w'/\gC Li R F' Lo v':=by
  intro a0 ao q;obtain⟨k1,v,k2,F',Lo,k3,k4,k5⟩:=Ah ab hl s aa q;exact⟨k1.trans ao,v,k2,v,F',Lo,rfl,k3,k4,k5⟩
 cases e with
 | normal=>exact(let⟨h1,v,h2,h3⟩:=fin rfl q;⟨h1,v,h2,.inl h3⟩)
 | ret=>exact(let⟨h1,v,h2,h3⟩:=fin rfl q;⟨h1,v,h2,.inl h3⟩)
 | exit j=>obtain⟨F',L',ρ',_,_,_,_,_,_,M',bs,_,h⟩:=q;exact h.elim
 | goto l=>exact q.elim
 | panic c =>
  obtain⟨v,ag,F',L',g1,g2,g3,g4,g5,kp,hp,_⟩:=q;obtain⟨Lo,q1,q2,q3,q4⟩:=rU g1 g2 (fun i g t cs hi=>kp (1000+i) g t (aa _ g t cs (by rw[aF,fo (by omega),show 1000+i-1000=i by omega];exact hi)));exact⟨g4,.inr ⟨v,_,F',Lo,rfl,ag,q1,q2,q3,q4,hp⟩⟩
 | outgrown=>exact q.elim
theorem CallsTX.noPan {f:Nat}{args:List C}{Lin:List TO}{R:List TO->C->Prop}(h:CallsTX P f args Lin R fun _=>False):CallsT P f args Lin R :=
 ⟨fun F Li j h1 b c=>let k:=h.out F Li j h1 b c;⟨k.ent,k.mono,fun w d=>(k.run w d).mono fun e w' q=>q.elim id fun⟨_,_,_,_,_,_,_,_,_,_,q⟩=>q.elim⟩⟩
theorem af {f:FuncId}{fn:Func}{e:ax}{A:cT}{rs:List RV}{args:List C}{Lin:List TO}{R:List TO->C->Prop}(j:P.funcs[f]?=some fn) (b:aB P A fn=some (e,A.n,rs,false)) (c:Nat.ble args.length A.n=true)
  (h:ul args->(∀o∈Lin,o.Wf)->evalTC P ⟨fun _=>False,[],none⟩ e (fun _ _ _=>False) (fun L ρ=>gF L ρ rs fun d=>f9 Lin L (gD d) R) (fun L ρ=>gF L ρ rs fun d=>f9 Lin L (gD d) R) (cD Lin) (jM 0 args)):CallsT P f args Lin R :=
 (aU j b c h).noPan
end
section
variable {P:Program}{L:TL}{ρ:aK}
def aT (Lo:List TO) (x:C):List TO->C->Prop:=fun Mo v=>Mo=Lo/\v=x
theorem bf {f:Nat}{args a:List C}{K:TL->aK->C->Prop}{x:C}(h:CallsT P f a [] (aT [] x)) (e:(args.map fun c=>c.aaj.ren (bh [] 1000))=a) (k:Wf x->K L ρ (x.ren (aH [])).slt):pV P f args L ρ K:=by
 subst e;exact .mk ⟨[],[],[],L,[],_,.inl rfl,rfl,rfl,rfl,rfl,rfl,h,fun v Mo ⟨d,j⟩ b _=>by subst d j;exact⟨rfl,k b⟩⟩
theorem bJ {f:Nat}{args a:List C}{K:TL->aK->C->Prop}{d:Option Nat}{x:C}(h:CallsT P f a [] (aT [] x)) (j:(args.map fun c=>c.aaj.ren (bh [] 1000))=a) (k:Wf x->K L ρ x.slt):uF P f args L ρ d K:=by
 subst j;exact .frz _ h fun v Mo ⟨e,l⟩ b=>by subst e l;exact⟨rfl,k b⟩
theorem callO (ks ko:List Nat) {f:Nat}{args a:List C}{K:TL->aK->C->Prop}{x:C}{Lin Lin' Lo:List TO}(h:CallsT P f a Lin' (aT Lo x)) (m:L.sub ks=some Lin)
  (d:(aP ks&&aP ko&&jt L ks ko&&aI Lin ks ko)=true) (e:(args.map fun c=>c.aaj.ren (bh ks 1000))=a) (p:Lin.map (TO.aad (C.ren (bh ks 1000)))=Lin') (j:ko.length=Lo.length)
  (k:Wf x->(∀o∈Lo,o.Wf)->K (((L.aae ks).kills (rowsOf L ks)).puts ko (Lo.map (TO.aad (C.ren (aH ko))))) (dh (rowsOf L ks) ρ) (x.ren (aH ko)).slt):pV P f args L ρ K:=by
 subst e p;simp only[xo] at d;obtain⟨⟨⟨q,n⟩,c3⟩,c4⟩:=d;exact .mk ⟨[],ks,ko,L,Lin,_,.inl rfl,m,q,n,c3,c4,h,fun v Mo ⟨r,s⟩ l b=>by subst r s;exact⟨j,k l b⟩⟩
theorem xV (ks ko:List Nat) {f:Nat}{args a:List C}{K:TL->aK->C->Prop}{x:C}{Lin Lin' Lo:List TO}(h:CallsT P f a Lin' (aT Lo x)) (m:L.sub ks=some Lin)
  (d:(aP ks&&aP ko&&jt L ks ko&&aI Lin ks ko)=true) (e:(args.map fun c=>c.aaj.ren (bh ks 1000))=a) (p:Lin.map (TO.aad (C.ren (bh ks 1000)))=Lin') (j:ko.length=Lo.length)
  (k:Wf x->(∀o∈Lo,o.Wf)->K (((L.aae ks).kills (rowsOf L ks)).puts ko (Lo.map (TO.aad (C.ren (aH ko))))) (dh (rowsOf L ks) ρ) (x.ren (aH ko)).slt):Bo P f args L ρ K:=by
 subst e p;simp only[xo] at d;obtain⟨⟨⟨q,n⟩,c3⟩,c4⟩:=d;exact .mk ⟨ks,ko,Lin,_,m,q,n,c3,c4,h,fun v Mo ⟨r,s⟩ l b=>by subst r s;exact⟨j,k l b⟩⟩
theorem JT (b ks ko:List Nat) {f:Nat}{args a:List C}{K:TL->aK->C->Prop}{x:C}{Lo Lin':List TO}(h:CallsT P f a Lin' (aT Lo x))
  (q:xq b L ρ args fun L ρ args=>∃Lin,L.sub ks=some Lin/\(aP ks&&aP ko&&jt L ks ko&&aI Lin ks ko)=true/\(args.map fun c=>c.aaj.ren (bh ks 1000))=a/\Lin.map (TO.aad (C.ren (bh ks 1000)))=Lin'/\ko.length=Lo.length /\
   (Wf x->(∀o∈Lo,o.Wf)->K (((L.aae ks).kills (rowsOf L ks)).puts ko (Lo.map (TO.aad (C.ren (aH ko))))) (dh (rowsOf L ks) ρ) (x.ren (aH ko)).slt)):pV P f args L ρ K:=by
 refine .mk ⟨b,ks,ko,?_⟩;refine frzK_imp q ?_;rintro L ρ args ⟨Lin,n,j,rfl,rfl,l,k⟩;simp only[xo] at j;obtain⟨⟨⟨r,p⟩,c3⟩,c4⟩:=j;exact⟨L,Lin,_,.inl rfl,n,r,p,c3,c4,h,fun v Mo ⟨s,t⟩ m d=>by subst s t;exact⟨l,k m d⟩⟩
where
 frzK_imp:∀{b:List Nat}{L:TL}{ρ:aK}{args:List C}{K K':TL->aK->List C->Prop},xq b L ρ args K->(∀L ρ args,K L ρ args->K' L ρ args)->xq b L ρ args K'
  | [],L,ρ,args,K,K',h,e=>e _ _ _ h
  | k::b,L,ρ,args,K,K',h,e=>by
   simp only[xq] at h ⊢;generalize L.get k=z at h ⊢;split at h
   ·exact frzK_imp h e
   ·exact h.elim
theorem aC {Lin:List TO}{v x:C}(hb:aI Lin (List.range' 1000 Lin.length) []=true) (e:v.aat.ren (bh [] 1000)=x):f9 Lin L v (aT [] x) :=
 ⟨[],[],L,v,v,[],rfl,.inl ⟨rfl,rfl⟩,rfl,rfl,hb,fun _=>⟨rfl,e⟩⟩
theorem bq (ko:List Nat) {Lin Mo Lo:List TO}{v x:C}(b:L.sub ko=some Mo) (a:(aP ko&&aI Lin (List.range' 1000 Lin.length) ko)=true) (c:Mo.map (TO.aad (C.ren (bh ko 1000)))=Lo) (e:v.aat.ren (bh ko 1000)=x):f9 Lin L v (aT Lo x):=by
 simp only[xo] at a;exact⟨[],ko,L,v,v,Mo,rfl,.inl ⟨rfl,rfl⟩,b,a.1,a.2,fun _=>⟨c,e⟩⟩
theorem UZ (k t sz:Nat) {Lin:List TO}(b:L=[]) (hb:aI Lin (List.range' 1000 Lin.length) [k]=true):f9 Lin L .nils (aT [.row t sz []] (.rw 1000)):=by
 subst b;have a:Nat.beq k k=true:=by simp
 refine⟨[],[k],[(k,.row t sz [])],.nils,.rw k,[.row t sz []],rfl,.inr ⟨⟨.inr ⟨rfl,t,sz,rfl⟩,trivial⟩,.inr (.inr (.inr (.inl ⟨rfl,k,t,sz,rfl,rfl,?_⟩)))⟩,?_,rfl,hb,fun _=>⟨rfl,?_⟩⟩
 ·simp only[TL.get,a]
 ·simp only[TL.sub,TL.get,a]
 ·simp only[C.aat,C.ren,C.mp,wg,bh,a]
theorem HE (b ko:List Nat) {Lin Lo:List TO}{v x:C}(f:xq b L (fun _=>.any) [v] fun L _ d=>∃c Mo,d=[c]/\L.sub ko=some Mo/\(aP ko&&aI Lin (List.range' 1000 Lin.length) ko)=true/\Mo.map (TO.aad (C.ren (bh ko 1000)))=Lo/\c.aat.ren (bh ko 1000)=x):f9 Lin L v (aT Lo x):=by
 refine⟨b,ko,?_⟩;refine JT.frzK_imp f ?_;rintro L ρ d ⟨c,Mo,rfl,h,a,j,e⟩;simp only[xo] at a;exact⟨L,c,c,Mo,rfl,.inl ⟨rfl,rfl⟩,h,a.1,a.2,fun _=>⟨j,e⟩⟩
theorem cA {d:Type}{b:TL->aK->TK->Prop}{asg:List Nat}(n:Nat) (l:Nat) (f:List Nat) (c:d) (e:d->List C) (Lf:d->TL) (Inv:Nat->d->Prop) (h0:Inv 0 c) (v:Mn L (Lf c) (ρ l) (.int .i64 0)) (r:mS L (Lf c) f (e c) ρ)
  (u:gives L (Lf c) (Lf c)) (hb:∀s,ou L (Lf s)=true) (t:∀s,(e s).length=f.length)
  (h:∀(k:Nat) s,k<=n->Inv k s->ul (e s)->(∀j o,(Lf s).get j=some o->o.Wf)->(k:Int)<=9223372036854775807->b (Lf s) (pT (l::f) (.int .i64 k::e s) (sZ asg ρ)) fun L' ρ' =>
   ∃a:Nat×d,(a.1<=n/\Inv a.1 a.2)/\mS L' (Lf a.2) (l::f) (.int .i64 a.1::e a.2) ρ'/\gives L' (Lf a.2) (Lf a.2)/\n-a.1<n-k):zY b asg L ρ:=by
 refine⟨Nat×d,(0,c),fun x=>x.1<=n/\Inv x.1 x.2,l::f,fun x=>.int .i64 x.1::e x.2,fun x=>Lf x.2,fun x=>n-x.1,⟨aa9 _,h0⟩,⟨v,r⟩,u,fun x=>hb x.2,fun x=>by simp[t],?_⟩;rintro⟨k,s⟩ ⟨q,hi⟩ m p;simp only[ul,Wf] at m;exact h k s q hi m.2 p (wf_i64 m.1).2
theorem bU {L1:TL}{k:Nat}:Mn L L1 (.int .i64 ((k:Int)+1)) (.int .i64 ((k+1:Nat):Int)):=.inr (.inl ⟨rfl,rfl⟩)
theorem bX {n k:Nat}(h:k<n):n-(k+1)<n-k:=by omega
theorem iG {els:List (List C)}(h:Wf (.sl els)):els.length<=9223372036854775807:=by simp only[Wf,maxLen] at h;omega
theorem MO {a:Type}{f:a->List C}{l:List a}(h:Wf (.sl (l.map f))):l.length<=9223372036854775807:=by have:=iG h;simpa using this
theorem EO {a:Type}{f:a->List C}{l:List a}{k sz:Nat}{x:a}{es:List C}{K:List C->Prop}(c:l[k]?=some x) (b:f x=es) (d:eW es sz=true) (h:K es):uE (l.map f) (k:Int) sz K :=
 ⟨es,by omega,by simp[c,b],d,h⟩
theorem dU {a:List UInt8}{k:Nat}{x:UInt8}{K:List C->Prop}(b:a[k]?=some x) (h:K [Jv x]):uE (Ez a) (k:Int) 1 K :=
 ⟨[Jv x],by omega,by simp[Ez,b],rfl,h⟩
theorem ak {L1:TL}{c:C}(h:fp L1 3 c=true):Mn L L1 c c:=.inr (.inl ⟨rfl,h⟩)
theorem bS {a:Type}{l:List a}{k:Nat}(h:¬k<l.length):l.drop k=[]:=List.drop_eq_nil_iff.2 (by omega)
theorem JU (ks ko:List Nat) {PS:nD}{Pp:Value->Prop}{f:Nat}{args a:List C}{K:TL->aK->C->Prop}{x:C}{Lin Lin' Lo:List TO}(h:CallsTX P f a Lin' (aT Lo x) Pp) (n:L.sub ks=some Lin)
  (d:(aP ks&&aP ko&&jt L ks ko&&aI Lin ks ko)=true) (e:(args.map fun c=>c.aaj.ren (bh ks 1000))=a) (r:Lin.map (TO.aad (C.ren (bh ks 1000)))=Lin') (j:ko.length=Lo.length) (p:∀v,Pp v->PS.ps v)
  (k:Wf x->(∀o∈Lo,o.Wf)->K (((L.aae ks).kills (rowsOf L ks)).puts ko (Lo.map (TO.aad (C.ren (aH ko))))) (dh (rowsOf L ks) ρ) (x.ren (aH ko)).slt) (m:ju L ks PS.hb=true:=by rfl):kR P PS f args L ρ K:=by
 subst e r;simp only[xo] at d;obtain⟨⟨⟨s,q⟩,c3⟩,c4⟩:=d;exact⟨[],ks,ko,L,Lin,_,_,.inl rfl,n,s,q,c3,c4,m,h,p,fun v Mo ⟨t,u⟩ l b=>by subst t u;exact⟨j,k l b⟩⟩
theorem Qy (L1:TL) (ks ko:List Nat) {PS:nD}{Pp:Value->Prop}{f:Nat}{args a:List C}{K:TL->aK->C->Prop}{x:C}{Lin Lin' Lo:List TO}(h:CallsTX P f a Lin' (aT Lo x) Pp) (w:gives L L1 L1) (p:L1.sub ks=some Lin)
  (d:(covers L L1&&aP ks&&aP ko&&jt L1 ks ko&&aI Lin ks ko)=true) (j:(args.map fun c=>c.aaj.ren (bh ks 1000))=a) (s:Lin.map (TO.aad (C.ren (bh ks 1000)))=Lin') (l:ko.length=Lo.length) (q:∀v,Pp v->PS.ps v)
  (k:Wf x->(∀o∈Lo,o.Wf)->K (((L1.aae ks).kills (rowsOf L1 ks)).puts ko (Lo.map (TO.aad (C.ren (aH ko))))) (dh (rowsOf L1 ks) ρ) (x.ren (aH ko)).slt) (n:ju L1 ks PS.hb=true:=by rfl):kR P PS f args L ρ K:=by
 subst j s;simp only[xo] at d;obtain⟨⟨⟨⟨e,t⟩,r⟩,c3⟩,c4⟩:=d;exact⟨[],ks,ko,L1,Lin,_,_,.inr ⟨w,e⟩,p,t,r,c3,c4,n,h,q,fun v Mo ⟨u,y⟩ m b=>by subst u y;exact⟨l,k m b⟩⟩
theorem o7 {PS:nD}{c:C}{v:Value}(b:C0 c=some v) (h:PS.ps v) (a:ju L [] PS.hb=true:=by rfl):Sf PS L c:=⟨v,b,a,h⟩
end
def lA:Own->Value
 | .box g _ _=>.pointer (some ⟨g,0,none⟩)
 | .row _ _ _ _ _=>undef
def o9:Own->List Value->Own
 | .box g t _,cs=>.box g t cs
 | .row v t sz n xs,_=>.row v t sz n xs
def Qz:Own->Nat->Prop
 | .box _ 0 _,_=>False
 | .box _ (_+1) cs,n=>cs.length=n
 | .row _ _ _ _ _,_=>False
theorem FP {g:Nat}{t:TypeId}{cs:List Value}{n:Nat}(h:t≠0) (a:cs.length=n):Qz (.box g t cs) n:=by
 cases t with
 | zero=>exact o5 rfl h
 | succ t=>exact a
theorem wo {g:Nat}{t:TypeId}{cs:List Value}{n:Nat}(h:Qz (.box g t cs) n):t≠0:=by
 cases t with
 | zero=>exact h.elim
 | succ t=>exact Nat.succ_ne_zero t
def Cx:List Own->List Nat->Prop
 | [],[]=>True
 | o::a,n::ns=>Qz o n/\Cx a ns
 | _,_=>False
structure nK (P:Program) (H:Nat) (PS:Value->Prop) (ns:List Nat) (out:Value->List (List Value)):Prop where
 inv:∀cap w,(invoke (.fn (.func H) cap) #[]).run P w=.ok (.enter H cap) w
 idle:∀(bs:List Own) (w:World),Cx bs ns->CallsD P H (bs.map lA).toArray .returning w fun e u' w'=>e=.returned (.tuple #[])/\u'=.returning/\w'=w
 caught:∀(F:au) (bs:List Own) (v:Value) (older:List PanicEntry) (w:World),PS v->Cx bs ns->St F (inp bs) w ->
  CallsD P H (bs.map lA).toArray (.panicking ({v,recovered:=false}::older)) w fun e u' w'=>e=.returned (.tuple #[])/\u'=.panicking ({v,recovered:=true}::older) /\
   ∃F',St F' (inp (List.zipWith o9 bs (out v))) w'/\Step F (inp bs) w F' (inp (List.zipWith o9 bs (out v))) w'
theorem Dm {P:Program}{F:au}{L:Loc}{ρ:Env}{a:Act}{w:World}{fn:Func}{rs:List RV}{K:List Value->Prop}(d:St F L w) (f:aA L ρ a) (c:mF P fn.results.toList=some rs) (h:mW L ρ rs K) :
  ∃b,(results fn a.tmps).run P w=.ok (fR b) w/\K b:=by
 obtain⟨b,e,j⟩:=nA d f c h;refine⟨b,?_,j⟩;rw[oq,Array.mapM_eq_mapM_toList];simp only[Sem.run_bind,Sem.run_map];rw[e];simp only[Result.andThen_ok,Sem.run_pure];congr 1
 match b with
 | []=>rfl
 | [t]=>rfl
 | t::u::r =>
  simp only[fR];rw[dif_neg (by simp)]
def Ai:List TO->List TO->Prop
 | [],Mo=>Mo=[]
 | .box t _::l,Mo=>∃(n:Nat) (Mo':List TO),Mo=.box t (List.replicate n .any)::Mo'/\Ai l Mo'
 | .row t sz _::l,Mo=>∃Mo',Mo=.row t sz []::Mo'/\Ai l Mo'
 | .map _::_,_=>False
def Aj:List TO->Bool
 | []=>true
 | .map _::_=>false
 | .box _ _::l=>Aj l
 | .row _ _ _::l=>Aj l
theorem Dn {F:au}{L:Loc}:∀a:List Value,ay F L (List.replicate a.length .any) a
 | []=>by simp only[abJ,List.replicate_zero,ay]
 | v::a=>by
  simp only[aa7,ab0,ay];exact⟨v,a,rfl,trivial,Dn a⟩
theorem FQ {F:au}:∀(Lin:List TO) (Li Lo:List Own),Aj Lin=true->Li.length=Lin.length->Lo.length=Lin.length->(∀(i:Nat) o p,Lin[i]?=some o->Li[i]?=some p->∃L,cE F L o p) ->
  (∀(i:Nat) g t cs,Li[i]?=some (.box g t cs)->∃cs',Lo[i]?=some (.box g t cs')) ->
  ∃(Mo:List TO) (Lo':List Own),Ai Lin Mo/\Mo.length=Lin.length/\Lo'.length=Lin.length/\(∀(i:Nat) o,Lo'[i]?=some o->Lo[i]?=some o\/∃t sz,o=.row (.slice none 0 0) t sz 0 []) /\
   (∀(i:Nat) g t cs,Li[i]?=some (.box g t cs)->∃cs',Lo'[i]?=some (.box g t cs'))/\∀(i:Nat) o p L G,Mo[i]?=some o->Lo'[i]?=some p->cE G L o p
 | [],Li,Lo,c,h1,d,f,h=>by
  have:Li=[]:=List.length_eq_zero_iff.1 h1;subst this;exact⟨[],[],rfl,rfl,rfl,fun i o e=>by simp at e,fun i g t cs e=>by simp at e,fun i o p L G e=>by simp at e⟩
 | o::Lin,[],Lo,c,h1,d,f,h=>by simp at h1
 | o::Lin,p::Li,[],c,h1,d,f,h=>by simp at d
 | o::Lin,p::Li,q::Lo,c,h1,d,f,h=>by
  obtain⟨Mo,Lo',a1,l,r,u,m,s⟩:=FQ Lin Li Lo (by cases o<;>first | exact c | cases c) (by simpa using h1) (by simpa using d) (fun i o p a b=>f (i+1) o p (by simpa using a) (by simpa using b)) (fun i g t cs e=>by simpa using h (i+1) g t cs (by simpa using e));obtain⟨L,j⟩:=f 0 o p rfl rfl;cases o with
  | map es=>cases c
  | box t cs =>
   cases p with
   | row=>exact j.elim
   | box g k us =>
    obtain⟨cs',e⟩:=h 0 g k us rfl;simp only[aa3,vz] at e;subst e;refine⟨.box t (List.replicate cs'.length .any)::Mo,.box g k cs'::Lo',⟨_,_,rfl,a1⟩,by simp[l],by simp[r],fun i o e=>?_,fun i g t cs e=>?_,fun i o p L G a b=>?_⟩
    ·cases i with
     | zero=>exact .inl e
     | succ i=>simpa using u i o (by simpa using e)
    ·cases i with
     | zero=>simp only[aa3,vz] at e;injection e with q1 q2 q3;subst q1 q2;exact⟨_,rfl⟩
     | succ i=>simpa using m i g t cs (by simpa using e)
    ·cases i with
     | zero =>
      simp only[aa3,vz] at a b;subst a b;exact⟨j.1,Dn _⟩
     | succ i=>exact s i o p L G (by simpa using a) (by simpa using b)
  | row t sz els =>
   cases p with
   | box=>exact j.elim
   | row v k w n xs =>
    refine⟨.row t sz []::Mo,.row (.slice none 0 0) t sz 0 []::Lo',⟨_,rfl,a1⟩,by simp[l],by simp[r],fun i o e=>?_,fun i g t cs e=>?_,fun i o p L G a b=>?_⟩
    ·cases i with
     | zero=>simp only[aa3,vz] at e;subst e;exact .inr ⟨_,_,rfl⟩
     | succ i=>simpa using u i o (by simpa using e)
    ·cases i with
     | zero=>simp only[aa3,vz] at e;cases e
     | succ i=>simpa using m i g t cs (by simpa using e)
    ·cases i with
     | zero =>
      simp only[aa3,vz] at a b;subst a b;exact⟨rfl,rfl,rfl,⟨aa9 _,none,0,rfl,fun _=>rfl⟩,by simp only[aN]⟩
     | succ i=>exact s i o p L G (by simpa using a) (by simpa using b)
theorem QA {F F':au}{Lin:List TO}{Li Lo:List Own}{w w':World}(r:Aj Lin=true) (z:Li.length=Lin.length) (u:bK F (inp Li) (cD Lin)) (h:St F' (inp Lo) w') (a:Step F (inp Li) w F' (inp Lo) w') (q:Lo.length=Li.length)
  (n:∀(i:Nat) g t cs,Li[i]?=some (.box g t cs)->∃cs',Lo[i]?=some (.box g t cs')) :
  ∃Mo Lo',St F' (inp Lo') w'/\Step F (inp Li) w F' (inp Lo') w'/\Ai Lin Mo/\Mo.length=Lo'.length/\bK F' (inp Lo') (cD Mo)/\∀(i:Nat) g t cs,Li[i]?=some (.box g t cs)->∃cs',Lo'[i]?=some (.box g t cs'):=by
 have f:∀(i:Nat) o p,Lin[i]?=some o->Li[i]?=some p->∃L,cE F L o p:=by
  intro i o p d x;have hk:=u (1000+i);rw[ck,aF,fo (by omega),fo (by omega),show 1000+i-1000=i by omega,d,x] at hk;exact⟨_,hk⟩
 obtain⟨Mo,Lo',a1,s,v,a4,a5,a6⟩:=FQ Lin Li Lo r z (by rw[q,z]) f n;have c:∀j o,(inp Lo').get j=some o->(inp Lo).get j=some o\/∃t sz,o=.row (.slice none 0 0) t sz 0 []:=by
  intro j o e;rw[aF] at e ⊢;split at e
  case isFalse=>cases e
  rename_i hj;rw[fo hj];exact a4 _ o e
 refine⟨Mo,Lo',⟨h.frz,fun j o e=>?_,fun j o g e hb=>?_,fun j y o o' g e e' hb m=>?_,h.glob⟩,?_,a1,by rw[s,v],fun k=>?_,a5⟩
 ·rcases c j o e with d | ⟨t,sz,rfl⟩
  ·exact h.own j o d
  ·exact World.ownsRow_nil w' 0 t sz
 ·rcases c j o e with d | ⟨t,sz,rfl⟩
  ·exact h.off j o g d hb
  ·cases hb
 ·rcases c j o e with d | ⟨t,sz,rfl⟩
  ·rcases c y o' e' with x | ⟨t,sz,rfl⟩
   ·exact h.sep j y o o' g d x hb m
   ·cases m
  ·cases hb
 ·refine⟨a.le,a.os,a.tape,a.output,a.size,a.same,a.frz,fun b hb=>?_⟩;obtain⟨j,o,e,hb⟩:=hb;rcases c j o e with d | ⟨t,sz,rfl⟩
  ·exact a.own b ⟨j,o,d,hb⟩
  ·cases hb
 ·rw[ck,aF];split
  ·cases d:Mo[k-1000]? with
   | none =>
    have:Lo'[k-1000]?=none:=abo (by rw[v,<-s];exact abx.1 d);rw[this];trivial
   | some o =>
    have l:k-1000<Lo'.length:=by rw[v,<-s];exact(aaR.1 d).1
    rw[aaN l];exact a6 _ o _ _ _ d (aaN l)
  ·trivial
def xW (M:TL) (τ:aK):List Nat->List Nat->Bool
 | [],[]=>true
 | k::ks,n::ns=>match τ k,M.get k with
  | .own j 0,some (.box _ cs)=>match Nat.beq j k,eW cs n with | true,true=>xW M τ ks ns | _,_=>false
  | _,_=>false
 | _,_=>false
section
variable {G:Nat->Option (Nat×TypeId)}{F:au}{L:Loc}{ρ:Env}{M:TL}{τ:aK}
theorem Dp:∀{ks ns:List Nat},xW M τ ks ns=true->TS G F L ρ M τ->∃a:List Own,L.sub ks=some a/\Cx a ns/\ks.map (fun k=>conc L (ρ k))=a.map lA/\(∀k∈ks,ρ k=.own k 0)
 | [],[],_,_=>⟨[],rfl,trivial,rfl,fun k h=>by cases h⟩
 | [],n::ns,h,_=>by cases h
 | k::ks,[],h,_=>by cases h
 | k::ks,n::ns,h,c=>by
  simp only[xW] at h;split at h
  case h_2=>cases h
  rename_i j t cs h1 o;split at h
  case h_2=>cases h
  rename_i d s;have d:=aaO d;subst d;obtain⟨a,r,p,v,m⟩:=Dp h c;obtain⟨g,ty,q,l,u,b⟩:=kS c.tl o;have f:ρ j=.own j 0:=(iY (x:=.t j) c.env h1).1;refine⟨.box g ty q::a,by simp only[Loc.sub,l,r],⟨FP b.2.2 (by rw[u.len];exact bW s),p⟩,?_,?_⟩
  ·rw[aaW,aaW,v];simp only[f,conc,l,lA]
  ·intro k e;rcases aaT.1 e with rfl | e
   ·exact f
   ·exact m k e
end
theorem wq:∀{a:List Own}{ns:List Nat},Cx a ns->a.length=ns.length
 | [],[],_=>rfl
 | [],_::_,h=>h.elim
 | _::_,[],h=>h.elim
 | o::a,n::ns,h=>by simp[wq h.2]
theorem Dq {hb:List (Nat×Nat)}{L L':Loc}:∀{ks ns:List Nat}{c:List Own},L.sub ks=some c->Cx c ns->(∀k g t cs,k∈ks->L.get k=some (.box g t cs)->∃cs',L'.get k=some (.box g t cs'))->UX hb L'->(∀x∈ks.zip ns,x∈hb) ->
  ∃a,L'.sub ks=some a/\Cx a ns/\a.map lA=c.map lA
 | [],ns,c,h1,b,h,p,f=>by
  simp only[Loc.sub,vz] at h1;subst h1;exact⟨[],rfl,b,rfl⟩
 | k::ks,ns,c,h1,b,h,p,f=>by
  simp only[Loc.sub] at h1;split at h1
  case h_2=>cases h1
  rename_i o l w r;injection h1 with h1
  subst h1;cases ns with
  | nil=>exact b.elim
  | cons n ns =>
   obtain⟨b,m⟩:=b;cases o with
   | row=>exact b.elim
   | box g t cs =>
    obtain⟨a,v,u,z⟩:=Dq r m (fun j g t cs s e=>h j g t cs (by simp[s]) e) p (fun x y=>f x (by simp[y]));obtain⟨cs',q⟩:=h k g t cs (by simp) w;obtain⟨g',t',ab,d,e5⟩:=p k n (f _ (by simp));rw[q] at d;injection d with d
    injection d with x1 x2 x3
    subst x1 x2 x3;exact⟨.box g t cs'::a,by simp only[Loc.sub,q,v],⟨FP (wo b) e5,u⟩,by simp[z,lA]⟩
theorem FR:∀{a:List Own}{ns:List Nat}{l:List (List Value)},Cx a ns->l.length=ns.length->(List.zipWith o9 a l).length=a.length/\(∀(i:Nat) g t cs,a[i]?=some (.box g t cs)->∃cs',(List.zipWith o9 a l)[i]?=some (.box g t cs')) /\
  ∀(i:Nat) cs,l[i]?=some cs->∃g t,(List.zipWith o9 a l)[i]?=some (.box g (t+1) cs)
 | [],[],l,_,h=>by
  have:l=[]:=List.length_eq_zero_iff.1 h;subst this;exact⟨rfl,fun i g t cs e=>by simp at e,fun i cs e=>by simp at e⟩
 | [],n::ns,l,h,_=>h.elim
 | o::a,[],l,h,_=>h.elim
 | o::a,n::ns,[],_,h=>by simp at h
 | o::a,n::ns,c::l,⟨h1,b⟩,h=>by
  obtain⟨f,d,j⟩:=FR (l:=l) b (by simpa using h);cases o with
  | row=>exact h1.elim
  | box g t cs =>
   refine⟨by simp[f],fun i m k cs' e=>?_,fun i cs' e=>?_⟩
   ·cases i with
    | zero =>
     simp only[aa3,vz] at e;injection e with x1 x2 x3
     subst x1 x2;exact⟨c,rfl⟩
    | succ i=>simpa using d i m k cs' (by simpa using e)
   ·cases i with
    | zero =>
     simp only[aa3,vz] at e;subst e;cases t with
     | zero=>exact h1.elim
     | succ t=>exact⟨g,t,rfl⟩
    | succ i=>simpa using j i cs' (by simpa using e)
theorem uR {a:Act}{ρ:Env}{L:Loc}(b:aA L ρ a):∀ks:List Nat,(ks.map Operand.tmp).map a.eval=ks.map fun k=>conc L (ρ k)
 | []=>rfl
 | k::ks=>by
  simp only[aaW,uR b ks];exact vv (·::_) (b.eq k)
theorem Ph:∀(l:List PanicEntry),(∀e∈l,e.goexit=false)->l.dropWhile (!·.goexit)=[]
 | [],_=>rfl
 | e::l,h=>by
  rw[List.dropWhile_cons,fo (by simp[h e (by simp)])];exact Ph l fun x a=>h x (by simp[a])
theorem Bz {P:Program}{f H d r1:Nat}{fn:Func}{c0 rest:Code}{o1 o2:Oper}{A:cT}{sc0 sc:ax}{rs:List RV}{ks ns:List Nat}{args:List C}{Lin:List TO}{R:List TO->C->Prop}{PS:Value->Prop}{out:Value->List (List Value)}
  (hf:P.funcs[f]?=some fn) (hb:fn.body=some (.seq c0 (.seq (.region r1 #[o1,o2] false) rest))) (hname:(fn.name == "runtime.NumGoroutine")=false) (hnt:fn.ntmps=A.n)
  (ho1:o1.op=.makeFunc (.func H) #[] (ks.map Operand.tmp).toArray) (hd1:o1.dst=some d) (hg1:o1.guard=none) (ho2:o2.op=.defer {callee:=.value (.tmp d),args:=#[],argTypes:=#[]}) (hd2:o2.dst=none) (hg2:o2.guard=none)
  (hl0:low P A c0=some sc0) (hl:low P A rest=some sc) (hres:mF P fn.results.toList=some rs) (hH:nK P H PS ns out) (hd:d<A.n) (hks:aP ks=true) (hkd:(ks.all fun k=>!(fe (dI rest) k)&&!(Nat.beq k d)&&Nat.blt k 1000)=true)
  (hout:∀v,PS v->(out v).length=ns.length) (hlen:Nat.ble args.length A.n=true) (hnm:Aj Lin=true)
  (hcat:∀v,PS v->∃c x,(∀(L:Loc) (ρ:Env),(∀(i:Nat) k cs,ks[i]?=some k->(out v)[i]?=some cs->ρ k=.own k 0/\∃g t,L.get k=some (.box g (t+1) cs))->mW L ρ rs (fun vs=>fR vs=x))/\(∀F L,Rel F L c x)/\∀Mo,Ai Lin Mo->R Mo c)
  (h:ul args->(∀o∈Lin,o.Wf)->evalTC P ⟨fun _=>False,[],none⟩ sc0 (fun _ _ _=>False) (fun _ _=>False) (fun M τ=>xW M τ ks ns=true /\
   evalTC P ⟨PS,ks.zip ns,none⟩ sc (fun _ _ _=>False) (fun L ρ=>gF L ρ rs fun vs=>f9 Lin L (gD vs) R) (fun L ρ=>gF L ρ rs fun vs=>f9 Lin L (gD vs) R) M (bg (some d) .any τ)) (cD Lin) (jM 0 args)) :
  CallsT P f args Lin R:=by
 refine⟨fun F Li vs hlL htl ha=>⟨⟨fn,hf,by rw[hb];rfl,hname⟩,gC.aao,fun w hs=>?_⟩⟩
 suffices hall:∀RR:Ending->World->Prop,(∀v F' Lo w',St F' (inp Lo) w'->Step F (inp Li) w F' (inp Lo) w'->gC Li R F' Lo v->RR (.returned v) w')->Calls P f vs.toArray w RR from
  hall _ fun v F' Lo w' h1 h2 h3=>⟨v,F',Lo,rfl,h1,h2,h3⟩
 intro RR hRR;refine calls_of_wp_defers hf hb ?_;have hwo:∀o∈Lin,o.Wf:=by
  intro o ho;obtain⟨i,hi⟩:=abb.1 ho;have:=htl (1000+i);rw[ck,aF,fo (by omega),fo (by omega),show 1000+i-1000=i by omega,hi] at this;cases e:Li[i]? with
  | none=>rw[e] at this;exact this.elim
  | some p=>rw[e] at this;exact cE.wf this
 have h:=h ha.wf hwo;have hla:=ha.len;have hlen:=aa6 hlen;have key:∀j,∃sv,aL F (inp Li) (jM 0 args j) sv/\conc (inp Li) sv=(vs.toArray++Array.replicate (fn.ntmps-vs.toArray.size) undef).getD j undef/\(∀k off,sv=.own k off->∃g t cs,(inp Li).get k=some (.box g t cs))/\(∀ad i,sv=.el ad i->ad≠none):=by
  intro j;rw[nJ];simp only[aa9,abj,Nat.sub_zero,aa4];cases e:args[j]? with
  | some c =>
   have hlt:j<vs.length:=by rw[hla];exact(aaR.1 e).1
   obtain⟨s1,s2,s3,s4⟩:=qK (ha.at e (aaN hlt));refine⟨_,s1,?_,s3,fun ad i e=>o5 e (s4 ad i)⟩;rw[s2,Array.getElem?_append_left (by simpa using hlt)];simp[hlt]
  | none =>
   have hge:vs.length<=j:=by rw[hla];exact abx.1 e
   refine⟨.v undef,kO,?_,fun _ _ e=>(by cases e),fun _ _ e=>(by cases e)⟩;rw[Array.getElem?_append_right (by simpa using hge)];simp only[Array.getElem?_replicate,conc];split<;>rfl
 let ρ0:Env:=fun j=>(key j).choose
 have he:aA (inp Li) ρ0 {tmps:=vs.toArray++Array.replicate (fn.ntmps-vs.toArray.size) undef,defers:=[]} :=
  ⟨fun t=>(key t).choose_spec.2.1.symm,fun t k off e=>(key t).choose_spec.2.2.1 k off e,fun t ad j e=>(key t).choose_spec.2.2.2 ad j e⟩
 let G:Nat->Option (Nat×TypeId):=fun k=>match(inp Li).get k with | some (.box g t _)=>some (g,t) | _=>none
 have hG1:∀k g t cs,(inp Li).get k=some (.box g t cs)->G k=some (g,t):=fun k g t cs e=>by simp only[G,e]
 have hkp:Kp G (inp Li):=by
  intro k g t e;simp only[G] at e;split at e
  ·rename_i g' t' cs h;injection e with e
   injection e with e1 e2
   subst e1 e2;exact⟨cs,h⟩
  ·cases e
 have ht:TS G F (inp Li) ρ0 (cD Lin) (jM 0 args):=⟨htl,fun j=>(key j).choose_spec.1,hkp,hs.glob⟩;have hGd:∀k,G k≠none->1000<=k:=by
  intro k hne;simp only[G] at hne;split at hne
  ·rename_i g t cs h;rw[aF] at h;split at h
   ·assumption
   ·cases h
  ·exact o5 rfl hne
 refine wp_seq (wp_mono (fu c0 hl0 (fun k _ hne=>.inl (hGd k hne)) hs he ht (by simp[hnt];omega) h) ?_);intro e a1 w1 hq;cases e with
 | exit j=>obtain⟨F',L',ρ',_,_,_,_,_,_,M',τ',_,h⟩:=hq;exact h.elim
 | goto l=>exact hq.elim
 | outgrown=>exact hq.elim
 | ret=>obtain⟨F',L',ρ',_,_,_,_,_,_,M',τ',_,h⟩:=hq;exact h.elim
 | panic c=>obtain⟨v,hch,F',L',_,_,_,_,_,_,hp,_⟩:=hq;exact hp.elim
 | normal =>
 obtain⟨F1,L1,ρ1,hs1,he1,hn1,hd1',hst1,_,M1,τ1,ht1,hcaps,hrest⟩:=hq;obtain⟨bs,hsub,hbx,hptr,hown⟩:=Dp hcaps ht1;simp only[Exit.then]
 -- the deferred function is named
 generalize hfv:Value.func (.func H) #[] (bs.map lA).toArray=fv;have hev:(ks.map Operand.tmp).toArray.map a1.eval=(bs.map lA).toArray:=by
  rw[List.map_toArray,uR he1,hptr]
 have he2:=he1.put (L':=L1) (d:=some d) (v:=fv) (x:=.v fv) (fun k e=>by injection e with e;subst e;omega) rfl cq eI (fun k g ty cs e=>⟨cs,e⟩);have ht2:TS G F1 L1 (put (some d) (.v fv) ρ1) M1 (bg (some d) .any τ1):=ht1.put (c:=.any) (sv:=.v fv) trivial (some d);obtain⟨tm,df⟩:=a1;simp only at hd1';subst hd1';have hdt:(tm.setIfInBounds d fv).getD d undef=fv:=by
  have:d<tm.size:=by simpa[hn1] using hd
  simp[aa4,this]
 refine wp_seq (wp_region ?_);generalize hd0:({target:=.fn (.func H) (bs.map lA).toArray,args:=#[]}:Deferred)=d0;have hsz:d<tm.size:=by simpa[hn1] using hd
 simp[wpOps,go_sem,ho1,hd1,hg1,ho2,hd2,hg2,Exit.then,Region.wanted,hsz,Instr.makeFunc];have hml:List.map (Act.eval {tmps:=tm,defers:=[]}∘Operand.tmp) ks=bs.map lA:=by
  rw[<-hptr,<-uR he1,abQ]
 rw[hml,hfv,hd0];refine .inl (.inl ?_)
 let G1:Nat->Option (Nat×TypeId):=fun k=>match Nat.ble 1000 k||fe ks k with | true=>(match L1.get k with | some (.box g t _)=>some (g,t) | _=>none) | false=>none
 have hGL:∀k g t cs,(1000<=k\/k∈ks)->L1.get k=some (.box g t cs)->G1 k=some (g,t):=fun k g t cs hk e=>by
  have:(Nat.ble 1000 k||fe ks k)=true:=by
   rw[abn];exact hk.imp (fun h=>by rw[Nat.ble_eq];exact h) cN.2
  simp only[G1,this,e]
 have hfz1:tD G1 ⟨PS,ks.zip ns,none⟩ (fK sc):=by
  intro k _ hne;simp only[G1] at hne;split at hne
  ·rename_i hb;rw[abn] at hb;rcases hb with hb | hb
   ·rw[Nat.ble_eq] at hb;exact .inl hb
   ·refine .inr ?_;have hl2:ks.length=ns.length:=by rw[(cu hsub).1.symm];exact wq hbx
    show fe ((ks.zip ns).map (·.1)) k=true;rw[List.map_fst_zip (by omega)];exact hb
  ·exact o5 rfl hne
 have hkp1:Kp G1 L1:=by
  intro k g t e;simp only[G1] at e;split at e
  case h_2=>cases e
  split at e
  ·rename_i g' t' cs h;injection e with e
   injection e with e1 e2
   subst e1 e2;exact⟨cs,h⟩
  ·cases e
 have hGG:∀k g t,G k=some (g,t)->G1 k=some (g,t):=fun k g t e=>let⟨cs,h⟩:=ht1.kp k g t e;hGL k g t cs (.inl (hGd k (by rw[e];simp))) h;have ht3:TS G1 F1 L1 (put (some d) (.v fv) ρ1) M1 (bg (some d) .any τ1):=⟨ht2.tl,ht2.env,hkp1,ht2.glob⟩;have he3:aA L1 (put (some d) (.v fv) ρ1) {tmps:=tm.setIfInBounds d fv,defers:=[d0]}:=⟨he2.eq,he2.own,he2.el⟩;refine wp_mono (fu rest hl hfz1 hs1 he3 ht3 (by simpa using hn1) hrest) ?_;intro e a' w' hq;have hnd:=cP hks;have hGI:∀k g t cs,(inp Li).get k=some (.box g t cs)->G1 k=some (g,t):=fun k g t cs e=>hGG k g t (hG1 k g t cs e);have back:∀(u:FrameMode) (w:World),u=.returning->Leaves P fn a'.tmps RR [] .returning w->Leaves P fn a'.tmps RR [d0] u w:=by
  rintro u w rfl hlv;rw[<-hd0];refine leaves_cons (f:=H) (args:=(bs.map lA).toArray) (by simp) (hH.inv _ w) ?_;refine(hH.idle bs w hbx).mono ?_;rintro e u' w6 ⟨rfl,rfl,rfl⟩;exact hlv
 have fin:dY A.n F1 L1 w1 {tmps:=tm.setIfInBounds d fv,defers:=[d0]} (dI rest) (Both G1 (fun L ρ=>gF L ρ rs fun vs=>f9 Lin L (gD vs) R)) a' w'->Leaves P fn a'.tmps RR a'.defers .returning w':=by
  intro hq;have hq':dY A.n F (inp Li) w {tmps:=tm.setIfInBounds d fv,defers:=[d0]} (dI rest) (Both G1 (fun L ρ=>gF L ρ rs fun vs=>f9 Lin L (gD vs) R)) a' w':=by
   obtain⟨F',L',ρ',g1,g2,g3,g4,g5,g6,g7⟩:=hq;exact⟨F',L',ρ',g1,g2,g3,g4,hst1.trans g5,g6,g7⟩
  obtain⟨k1,v,k2,F',Lo,k3,k4,k5⟩:=Ah hres hlL htl hGI hq';rw[k1];exact back _ _ rfl ⟨v,k2,hRR v F' Lo w' k3 k4 k5⟩
 cases e with
 | normal=>exact fin hq
 | ret=>exact fin hq
 | exit j=>obtain⟨F',L',ρ',_,_,_,_,_,_,M',τ',_,h⟩:=hq;exact h.elim
 | goto l=>exact hq.elim
 | outgrown=>exact hq.elim
 | panic ch =>
  obtain⟨v,⟨older,rfl,hold⟩,F',L',g1,g2,g3,g4,g5,kp,hp,hbL,_⟩:=hq;show Leaves P fn a'.tmps RR a'.defers _ w';rw[g4,<-hd0];obtain⟨bs',q1,q2,q3⟩:=Dq hsub hbx (fun k g t cs hk e=>kp k g t (hGL k g t cs (.inr hk) e)) hbL (fun x hx=>hx);refine leaves_cons (f:=H) (args:=(bs.map lA).toArray) (by simp) (hH.inv _ w') ?_;rw[<-q3];refine(hH.caught F' bs' v older w' hp q2 (g1.handed q1 hnd)).mono ?_;rintro e u' w6 ⟨rfl,rfl,F6,hs6,hst6⟩;show Leaves P fn a'.tmps RR [] (settle _) w6;have hset:settle (.panicking ({v,recovered:=true}::older))=.returning:=by
   have:older.dropWhile (!·.goexit)=[]:=by
    exact Ph older hold
   simp only[settle,this]
  rw[hset];obtain⟨z1,z2,z3⟩:=FR (l:=out v) q2 (hout v hp);obtain⟨sl,sg⟩:=cu q1;have hkl:ks.length=(List.zipWith o9 bs' (out v)).length:=by rw[z1,sl]
  obtain⟨c1,c2⟩:=fS g1 q1 hnd hnd (fun k hk=>.inl hk) hs6 hst6 hkl;generalize hL6:(L'.aae ks).puts ks (List.zipWith o9 bs' (out v))=L6 at c1 c2;have hget:∀(i:Nat) k cs,ks[i]?=some k->(out v)[i]?=some cs->∃g t,L6.get k=some (.box g (t+1) cs)/\(∃cs',L'.get k=some (.box g (t+1) cs')):=by
   intro i k cs e1 e2;obtain⟨g,t,e3⟩:=z3 i cs e2;refine⟨g,t,by rw[<-hL6];exact dW hnd hkl e1 e3,?_⟩;have e4:=sg i k e1;have hlt:i<bs'.length:=by rw[<-z1];exact(aaR.1 e3).1
   rw[aaN hlt] at e4;have e5:(List.zipWith o9 bs' (out v))[i]?=some (o9 bs'[i] cs):=by
    rw[List.getElem?_zipWith,aaN hlt,e2]
   rw[e3] at e5;injection e5 with e5
   cases hb:bs'[i] with
   | row=>rw[hb] at e5;cases e5
   | box g' t' cs' =>
    rw[hb] at e5 e4;injection e5 with x1 x2
    subst x1 x2;exact⟨cs',e4⟩
  -- the slots that name the boxes
  let ρ6:Env:=fun j=>match fe ks j with | true=>.own j 0 | false=>.v (a'.tmps.getD j undef)
  have hkd':∀k∈ks,k∉dI rest/\k≠d:=by
   intro k hk;have:=aaY.1 hkd k hk;simp only[xo,Bool.not_eq_true'] at this;refine⟨fun hm=>?_,fun e=>?_⟩
   ·rw[cN.2 hm] at this;exact o5 this.1.1 (by simp)
   ·subst e;simp at this
  have hslot:∀k∈ks,∃g t cs,L6.get k=some (.box g t cs)/\a'.tmps.getD k undef=.pointer (some ⟨g,0,none⟩):=by
   intro k hk;obtain⟨i,hi⟩:=abb.1 hk;have hlt:i<(out v).length:=by
    have:=(aaR.1 hi).1;have hl2:ks.length=ns.length:=by rw[<-sl];exact wq q2
    rw[hout v hp];omega
   obtain⟨g,t,e1,cs',e2⟩:=hget i k _ hi (aaN hlt);refine⟨g,t+1,_,e1,?_⟩;obtain⟨y1,y2⟩:=hkd' k hk;rw[g5 k y1];have:=he3.eq k;rw[this,put_eq];simp only[];rw[fL y2,hown k hk];simp only[conc];obtain⟨g0,t0,cs0,e0⟩:=he1.own k k 0 (hown k hk);obtain⟨cs1,e3⟩:=kp k g0 t0 (hGL k g0 t0 cs0 (.inr hk) e0);rw[e2] at e3;injection e3 with e3
   injection e3 with x1 x2 _
   subst x1;rw[e0]
  have he6:aA L6 ρ6 a':=by
   refine⟨fun j=>?_,fun j k off e=>?_,fun j ad i e=>?_⟩
   ·simp only[ρ6];cases hm:fe ks j with
    | false=>rfl
    | true =>
     obtain⟨g,t,cs,e1,e2⟩:=hslot j (cN.1 hm);rw[e2];simp only[conc,e1]
   ·simp only[ρ6] at e;cases hm:fe ks j with
    | false=>rw[hm] at e;cases e
    | true =>
     rw[hm] at e;injection e with x1 x2
     subst x1;obtain⟨g,t,cs,e1,_⟩:=hslot j (cN.1 hm);exact⟨g,t,cs,e1⟩
   ·simp only[ρ6] at e;cases hm:fe ks j<;>rw[hm] at e<;>cases e
  obtain⟨c,x,hrv,hrel,hlost⟩:=hcat v hp;obtain⟨us,h5,h6⟩:=Dm (K:=fun vs=>fR vs=x) c1 he6 hres (hrv L6 ρ6 fun i k cs e1 e2=>by
   obtain⟨g,t,e3,_⟩:=hget i k cs e1 e2;refine⟨?_,g,t,e3⟩;simp only[ρ6,cN.2 (aaX e1)])
  have hst:Step F (inp Li) w F6 L6 w6:=(hst1.trans g2).trans c2;obtain⟨Lo,p1,p2,p3,p4⟩:=rU c1 hst (fun i g t cs e=>by
   have e0:(inp Li).get (1000+i)=some (.box g t cs):=by rw[aF,fo (by omega),show 1000+i-1000=i by omega];exact e
   obtain⟨cs1,e1⟩:=kp (1000+i) g t (hGI _ g t cs e0);refine⟨cs1,?_⟩;rw[<-hL6];have hni:1000+i∉ks:=by
    intro hm;have:=aaY.1 hkd _ hm;simp only[xo] at this;have:=this.2;rw[Nat.blt_eq] at this;omega
   rcases cQ ks (List.zipWith o9 bs' (out v)) (L'.aae ks) (1000+i) hnd hkl with⟨q1,q2⟩ | ⟨i',q1,q2,q3⟩
   ·rw[q1,eL,fL hni];exact e1
   ·exact o5 (aaX q1) hni)
  obtain⟨Mo,Lo',l1,l2,l3,l4,l5,l6⟩:=QA hnm hlL htl p1 p2 p3 p4;refine⟨_,h5,hRR _ F6 Lo' w6 l1 l2 ⟨Mo,c,l4,l5,?_,l6,hlost Mo l3⟩⟩;rw[h6];exact hrel _ _
def tmpsOf:List Operand->Option (List Nat)
 | []=>some []
 | .tmp k::l=>match tmpsOf l with | some ks=>some (k::ks) | none=>none
 | _::_=>none
theorem Ak:∀{l:List Operand}{ks:List Nat},tmpsOf l=some ks->l=ks.map Operand.tmp
 | [],ks,h=>by simp only[tmpsOf,vz] at h;subst h;rfl
 | o::l,ks,h=>by
  cases o<;>simp only[tmpsOf,reduceCtorEq] at h;split at h
  case h_2=>cases h
  rename_i a e;injection h with h
  subst h;rw[Ak e];rfl
def BA (op:Op) (d:Nat):Bool :=
 match op with
 | .defer c=>match c.callee,c.args.toList,c.argTypes.toList with
  | .value (.tmp a),[],[]=>Nat.beq d a
  | _,_,_=>false
 | _=>false
theorem EP {op:Op}{d:Nat}(h:BA op d=true):op=.defer {callee:=.value (.tmp d),args:=#[],argTypes:=#[]}:=by
 unfold BA at h;split at h
 case h_2=>cases h
 rename_i c;split at h
 case h_2=>cases h
 rename_i m h1 b e;have:=aaO h;subst this;obtain⟨l,j,a⟩:=c;simp only at h1 b e;subst h1;have f:j=#[]:=by apply Array.ext';exact b
 have k:a=#[]:=by apply Array.ext';exact e
 rw[f,k]
def BB (P:Program) (A:cT) (fn:Func):Option (ax×ax×Nat×List Nat×Nat×List RV) :=
 match fn.body with
 | some (.seq c0 (.seq (.region _ ⟨[o1,o2]⟩ false) rest))=>match o1.op,o1.dst,o1.guard with
  | .makeFunc (.func H) ⟨[]⟩ ca,some d,none=>match BA o2.op d,o2.dst,o2.guard,tmpsOf ca.toList with
   | true,none,none,some ks=>match low P A c0,low P A rest,mF P fn.results.toList with
    | some sc0,some sc,some rs=>match fn.name == "runtime.NumGoroutine",Nat.beq fn.ntmps A.n&&Nat.blt d A.n&&aP ks,ks.all fun k=>!(fe (dI rest) k)&&!(Nat.beq k d)&&Nat.blt k 1000 with
     | false,true,true=>some (sc0,sc,H,ks,d,rs)
     | _,_,_=>none
    | _,_,_=>none
   | _,_,_,_=>none
  | _,_,_=>none
 | _=>none
theorem gB {P:Program}{f H d:Nat}{fn:Func}{A:cT}{j sc:ax}{rs:List RV}{ks ns:List Nat}{args:List C}{Lin:List TO}{R:List TO->C->Prop}{PS:Value->Prop}{out:Value->List (List Value)}
  (hf:P.funcs[f]?=some fn) (a:BB P A fn=some (j,sc,H,ks,d,rs)) (hH:nK P H PS ns out)
  (m:∀v,PS v->(out v).length=ns.length) (q:Nat.ble args.length A.n=true) (s:Aj Lin=true)
  (e:∀v,PS v->∃c x,(∀(L:Loc) (ρ:Env),(∀(i:Nat) k cs,ks[i]?=some k->(out v)[i]?=some cs->ρ k=.own k 0/\∃g t,L.get k=some (.box g (t+1) cs))->mW L ρ rs (fun p=>fR p=x))/\(∀F L,Rel F L c x)/\∀Mo,Ai Lin Mo->R Mo c)
  (h:ul args->(∀o∈Lin,o.Wf)->evalTC P ⟨fun _=>False,[],none⟩ j (fun _ _ _=>False) (fun _ _=>False) (fun M τ=>xW M τ ks ns=true /\
   evalTC P ⟨PS,ks.zip ns,none⟩ sc (fun _ _ _=>False) (fun L ρ=>gF L ρ rs fun p=>f9 Lin L (gD p) R) (fun L ρ=>gF L ρ rs fun p=>f9 Lin L (gD p) R) M (bg (some d) .any τ)) (cD Lin) (jM 0 args)) :
  CallsT P f args Lin R:=by
 unfold BB at a;split at a
 case h_2=>cases a
 rename_i c0 r o1 o2 ae hb;split at a
 case h_2=>cases a
 rename_i H' ca d' e1 e2 e3;split at a
 case h_2=>cases a
 rename_i w e4 e5 e6 e7;split at a
 case h_2=>cases a
 rename_i ag az av e8 e9 ab;split at a
 case h_2=>cases a
 rename_i aa b u;simp only[vz,Prod.mk.injEq] at a;obtain⟨rfl,rfl,rfl,rfl,rfl,rfl⟩:=a;simp only[xo] at b;obtain⟨⟨b,l⟩,y⟩:=b;have z:ca=(w.map Operand.tmp).toArray:=by
  have:=Ak e7;rw[<-this]
 rw[z] at e1;rw[Nat.blt_eq] at l;exact Bz hf hb aa (aaO b) e1 e2 e3 (EP e4) e5 e6 e8 e9 ab hH l y u m q s e h
end Go.Fr.T
namespace Go.Fr
open Go Go.RowKit
section
variable {P:Program}{Q:Exit->Act->World->Prop}{K:dm}
theorem noPan {n:Nat}{F:au}{L:Loc}{w:World}{a:Act}{asg:List Nat}{E:Nat->dm}{R N:dm}{c} {a':Act}{w':World}(h:QQ n F L w a asg (fun _ _ _=>False) E R N (.panic c) a' w'):False:=by
 obtain⟨v,_,F',L',_,_,_,_,_,h⟩:=h;exact h
theorem zi {A:cT}{r:Nat}{c:Array Oper}:∀(is:List Nat) {ss:List ai}{F:au}{L:Loc}{ρ:Env}{a:Act}{w:World},pJ P A r c is=some ss->St F L w->aA L ρ a->a.tmps.size=A.n ->
  aQ P ss F L ρ K->(∀a' w',dY A.n F L w a (dstsOf c is) K a' w'->Q .normal a' w')->wpOps P c Q is a w:=by
 intro is
 induction is with
 | nil =>
  intro ss F L ρ a w hl hs he hn l hQ;simp only[pJ,vz] at hl;subst hl;exact hQ a w ⟨F,L,ρ,hs,he,hn,rfl,Step.refl _ _ _,fun _ _=>rfl,l⟩
 | cons i is ih =>
  intro ss F L ρ a w hl hs he hn l hQ;simp only[pJ] at hl;split at hl
  case h_1=>cases hl
  rename_i o hi;split at hl
  case h_2=>cases hl
  rename_i g s u hg cf av ad;injection hl with hl
  subst hl
  -- the t
  have t:∀(ks:List Nat) {F:au}{L:Loc}{ρ:Env},St F L w->aA L ρ a->aQ P (ks.map ai.frz++mQ (vk A.pan r i) o.dst s g::u) F L ρ K ->
    ∃F' L' ρ',St F' L' w/\aA L' ρ' a/\Step F L w F' L' w/\aQ P (mQ (vk A.pan r i) o.dst s g::u) F' L' ρ' K:=by
   intro ks
   induction ks with
   | nil=>intro F L ρ hs he h;exact⟨F,L,ρ,hs,he,Step.refl _ _ _,h⟩
   | cons k ks bj =>
    intro F L ρ hs he h;simp only[aaW,aa2,aQ] at h;split at h
    ·rename_i g' t' cs' hk;obtain⟨F1,ch,bs,z,q,m⟩:=rJ hs he hk;obtain⟨F2,L2,bc,bb,az,ae,h2⟩:=bj z q (h F1 ch bs);exact⟨F2,L2,bc,bb,az,m.trans ae,h2⟩
    ·obtain⟨F1,L1,z,q,m,h1⟩:=qx hs he h;obtain⟨F2,L2,bc,bb,az,ae,h2⟩:=bj z q h1;exact⟨F2,L2,bc,bb,az,m.trans ae,h2⟩
  obtain⟨F1,L1,bk,z,q,m,l⟩:=t _ hs he l
  clear t
  have cd:vk A.pan r i=false:=by
   cases hb:vk A.pan r i with
   | false=>rfl
   | true=>rw[hb] at l;simp only[mQ,aQ] at l
  rw[cd] at l;simp only[mQ] at l
  clear he
  have he:=q;have hd:∀k,o.dst=some k->k<a.tmps.size:=by
   intro k hk;rw[hk] at av;rw[hn];have h2:Nat.blt k A.n=true:=av;simpa using h2
  have aw:dstsOf c (i::is)=match o.dst with | some d=>d::dstsOf c is | none=>dstsOf c is:=by
   simp only[dstsOf,hi,Option.bind_some];cases o.dst<;>rfl
  have ab:∀j,j∉dstsOf c (i::is)->o.dst≠some j/\j∉dstsOf c is:=by
   intro j hj;rw[aw] at hj;cases ho:o.dst with
   | none=>rw[ho] at hj;exact⟨by simp,hj⟩
   | some d =>
    rw[ho] at hj;simp only[aaT,not_or] at hj;exact⟨by simp;exact fun e=>hj.1 e.symm,hj.2⟩
  have ac:evalOp P s o.dst F1 L1 bk (fun F' L' ρ'=>aQ P u F' L' ρ' K)->o.wp P a w (wpOps P c Q is) Q:=by
   intro l;have:=fj (Q:=Q) z q hd cf l;refine Oper.wp_mono ?_ (pK (asg:=[]) this);rintro a' w' ⟨⟨F',L',ρ',g1,g2,g3,g4,g5,g6⟩,bv⟩;refine ih ad g1 g2 (by rw[g3,hn]) g6 ?_;rintro aE ba ⟨F'',L'',am,k1,k2,k3,k4,k5,k6,k7⟩;refine hQ aE ba ⟨F'',L'',am,k1,k2,k3,k4.trans g4,(m.trans g5).trans k5,fun j hj=>?_,k7⟩;obtain⟨n1,n2⟩:=ab j hj;rw[k6 j n2,bv j n1]
  have skip:aQ P u F1 L1 (put o.dst (.v undef) bk) K->wpOps P c Q is (a.put o.dst undef) w:=by
   intro l;refine ih ad z (q.put hd (v:=undef) (x:=.v undef) rfl cq eI (sL L1)) (by rw[jv,hn]) l ?_;rintro aE ba ⟨F'',L'',am,k1,k2,k3,k4,k5,k6,k7⟩;refine hQ aE ba ⟨F'',L'',am,k1,k2,k3,k4.trans (gq _ _ _),m.trans k5,fun j hj=>?_,k7⟩;obtain⟨n1,n2⟩:=ab j hj;rw[k6 j n2,jY n1]
  simp only[wpOps,hi];cases aa:o.guard with
  | none =>
   rw[aa] at hg;simp only[gW,vz] at hg;subst hg;simp only[aQ] at l;rw[fo (by simp[Region.wanted,aa])];exact .inl (ac l)
  | some p =>
   obtain⟨j,y⟩:=p;rw[aa] at hg;simp only[gW] at hg;split at hg
   case h_2=>cases hg
   rename_i d bi;injection hg with hg
   subst hg;simp only[aQ] at l;split at l
   ·rename_i b hb;have f:=q.eq d;rw[hb] at f;have hy:yielded c a.tmps j=some b:=by
     simp only[yielded,bi,Option.bind_some,qy f]
    have hw:Region.wanted o (yielded c a.tmps)=(b == y):=by
     simp only[Region.wanted,aa,hy];cases b<;>cases y<;>rfl
    rw[hw];cases b<;>simp only[yX] at l
    ·rw[kE hb] at l;cases y
     ·exact .inl (ac l)
     ·exact skip l
    ·rw[kE hb] at l;cases y
     ·exact skip l
     ·exact .inl (ac l)
   ·rename_i vs hb;have f:=q.eq d;rw[hb] at f;have hy:yielded c a.tmps j=none:=by
     simp only[yielded,bi,Option.bind_some];rw[aa4] at f;cases e:a.tmps[d]? with
     | none=>rfl
     | some v=>rw[e] at f;simp only[Option.getD_some,conc] at f;rw[f]
    have hw:Region.wanted o (yielded c a.tmps)=false:=by
     simp only[Region.wanted,aa,hy];rfl
    rw[hw];exact skip l
   ·exact l.elim
theorem BD {a:Act}{w:World}{d:List ai}{K:dm}:∀(ks:List Nat) {F:au}{L:Loc}{ρ:Env},St F L w->aA L ρ a->aQ P (ks.map ai.frz++d) F L ρ K ->
  ∃F' L' ρ',St F' L' w/\aA L' ρ' a/\Step F L w F' L' w/\aQ P d F' L' ρ' K:=by
 intro ks
 induction ks with
 | nil=>intro F L ρ o p h;exact⟨F,L,ρ,o,p,Step.refl _ _ _,h⟩
 | cons k ks n =>
  intro F L ρ o p h;simp only[aaW,aa2,aQ] at h;split at h
  ·rename_i v u cs' t;obtain⟨F1,s,r,m,e,b⟩:=rJ o p t;obtain⟨F2,L2,l,j,f,c,q⟩:=n m e (h F1 s r);exact⟨F2,L2,l,j,f,b.trans c,q⟩
  ·obtain⟨F1,L1,m,e,b,h1⟩:=qx o p h;obtain⟨F2,L2,l,j,f,c,q⟩:=n m e h1;exact⟨F2,L2,l,j,f,b.trans c,q⟩
theorem EQ {ss:List ai}{E:Nat->dm}{R N:dm}{F:au}{L:Loc}{ρ:Env}{a:Act}{w:World}:∀(ks:List Nat),St F L w->aA L ρ a->jh P (Ew ks (.regD ss)) E R N F L ρ ->
  ∃F' L' ρ',St F' L' w/\aA L' ρ' a/\Step F L w F' L' w/\aQ P ss F' L' ρ' N
 | [],c,d,h=>⟨F,L,ρ,c,d,Step.refl _ _ _,by simpa only[Ew,jh] using h⟩
 | k::l,c,d,h=>by
  simp only[Ew,jh] at h;have m:aQ P ((k::l).map ai.frz++[]) F L ρ (fun F L ρ=>aQ P ss F L ρ N):=by simpa only[aaW,abm] using h
  obtain⟨F1,L1,b,h1,f,j,e⟩:=BD (k::l) c d m;simp only[aQ] at e;exact⟨F1,L1,b,h1,f,j,e⟩
theorem qd {A:cT}:∀(c:Code) {sc:ax},low P A c=some sc->∀{E:Nat->dm}{R N:dm}{F:au}{L:Loc}{ρ:Env}{a:Act}{w:World},St F L w->aA L ρ a->a.tmps.size=A.n ->
  jh P sc E R N F L ρ->c.wp P (QQ A.n F L w a (dI c) (fun _ _ _=>False) E R N) a w:=by
 intro c
 induction c with
 | skip =>
  intro sc b E R N F L ρ a w q o p m;simp only[low,vz] at b;subst b;exact wp_skip ⟨F,L,ρ,q,o,p,rfl,Step.refl _ _ _,fun _ _=>rfl,m⟩
 | label l =>
  intro sc b E R N F L ρ a w q o p m;simp only[low,vz] at b;subst b;exact wp_label ⟨F,L,ρ,q,o,p,rfl,Step.refl _ _ _,fun _ _=>rfl,m⟩
 | exit id =>
  intro sc b E R N F L ρ a w q o p m;simp only[low,vz] at b;subst b;exact wp_exit ⟨F,L,ρ,q,o,p,rfl,Step.refl _ _ _,fun _ _=>rfl,m⟩
 | ret =>
  intro sc b E R N F L ρ a w q o p m;simp only[low,vz] at b;subst b;exact wp_ret ⟨F,L,ρ,q,o,p,rfl,Step.refl _ _ _,fun _ _=>rfl,m⟩
 | region r cx bl =>
  intro sc b E R N F L ρ a w q o p m;cases bl with
  | false =>
   simp only[low] at b;split at b
   case h_2=>cases b
   rename_i ss bp;injection b with b;subst b
   simp only[jh] at m;exact wp_region (zi _ bp q o p m fun a' w' h=>h)
  | true =>
   simp only[low] at b;split at b
   case h_2=>cases b
   rename_i is cl ss h1 s;split at b
   case h_2 =>
    split at b
    case h_2=>cases b
    injection b with b;subst b
    simp only[jh] at m
   rename_i h0;split at b
   case h_2=>cases b
   rename_i h3;injection b with b;subst b
   obtain⟨F1,L1,ab,az,av,z,m⟩:=EQ _ q o m;have h4:CO A.ord r=is:=by simp only[CO,h1]
   rw[h4] at s;exact wT s h3 az av p m fun a' w' h=>dY.after (asg1:=[]) z rfl (fun _ _=>rfl) h (fun _ h=>o5 h List.not_mem_nil) (fun _ h=>h)
 | seq x y al am =>
  intro sc b E R N F L ρ a w q o p m;simp only[low] at b;split at b
  case h_2=>cases b
  rename_i h1 s;injection b with b;subst b
  simp only[jh] at m;refine wp_seq (wp_mono (al h1 q o p m) ?_);intro e a1 w1 d;cases e with
  | normal =>
   obtain⟨F1,L1,ab,g1,g2,g3,g4,g5,g6,g7⟩:=d;refine wp_mono (am s g1 g2 g3 g7) ?_;intro e2 a2 w2 aE;cases e2<;>first
    | exact dY.after g5 g4 g6 aE (fun j h=>aaU.2 (.inl h)) (fun j h=>aaU.2 (.inr h))
    | exact aE
    | exact(noPan aE).elim
  | exit id=>exact d.mono fun j h=>aaU.2 (.inl h)
  | ret=>exact d.mono fun j h=>aaU.2 (.inl h)
  | goto l=>exact d
  | panic c=>exact(noPan d).elim
  | outgrown=>exact d
 | cond c x y al am =>
  intro sc b E R N F L ρ a w q o p m;simp only[low] at b;split at b
  case h_2=>cases b
  rename_i h0 h1 s;injection b with b;subst b
  simp only[jh] at m;split at m
  case h_2=>exact m.elim
  rename_i t ht;have hc:a.eval c=.bool t:=by rw[aD h0 o,cL ht]
  refine wp_cond hc ?_;cases t
  ·simp only[yX] at m;refine wp_mono (am s q o p m) ?_;intro e a1 w1 d;cases e<;>first
    | exact d.mono fun j h=>aaU.2 (.inr h)
    | exact(noPan d).elim
    | exact d
  ·simp only[yX] at m;refine wp_mono (al h1 q o p m) ?_;intro e a1 w1 d;cases e<;>first
    | exact d.mono fun j h=>aaU.2 (.inl h)
    | exact(noPan d).elim
    | exact d
 | block id x ih =>
  intro sc b E R N F L ρ a w q o p m;simp only[low] at b;split at b
  case h_2=>cases b
  rename_i h1;injection b with b;subst b
  simp only[jh] at m;refine wp_block (wp_mono (ih h1 q o p m) ?_);intro e a1 w1 d;cases e with
  | exit j =>
   simp only[Exit.inBlock];simp only[QQ] at d
   by_cases hj:j=id
   ·subst hj;have hb:Nat.beq j j=true:=by simp
    rw[hb] at d;rw[fo rfl];exact d
   ·have hb:Nat.beq j id=false:=by
     cases h:Nat.beq j id with
     | true=>exact o5 (aaO h) hj
     | false=>rfl
    rw[hb] at d;rw[fL hj];exact d
  | normal=>exact d
  | ret=>exact d
  | goto l=>exact d
  | panic c=>exact(noPan d).elim
  | outgrown=>exact d
 | loop x ih =>
  intro sc b E R N F L ρ a w q o p m;simp only[low] at b;split at b
  case h_2=>cases b
  rename_i sx h1;injection b with b;subst b
  simp only[jh] at m;obtain⟨σ,x0,Inv,ls,lv,Lf,μ,i0,i1,i2,i3,i4⟩:=m
  -- the frame at a loop's ae
  have ae:∀(y:σ) (F1:au) (L1:Loc) (ab:Env) (a1:Act) (w1:World),(∀t,a1.tmps.getD t undef=conc L1 (ab t))->(∀j,j∉dI x->a1.tmps.getD j undef=a.tmps.getD j undef)->holds ls ((lv y).map .v) ab ->
    aA (Lf y) (puts ls ((lv y).map .v) (pD (dI x) (fun j=>a1.tmps.getD j undef) ρ)) a1:=by
   intro y F1 L1 ab a1 w1 bt bz hh;have bj:∀j k off,pD (dI x) (fun j=>a1.tmps.getD j undef) ρ j=.own k off->j∉dI x/\ρ j=.own k off:=by
    intro j k off e;simp only[pD] at e;split at e
    ·cases e
    ·rename_i hm;exact⟨fun h=>(by rw[cN.2 h] at hm;cases hm),e⟩
   have cb:∀j ad i,pD (dI x) (fun j=>a1.tmps.getD j undef) ρ j=.el ad i->ρ j=.el ad i:=by
    intro j ad i e;simp only[pD] at e;split at e
    ·cases e
    ·exact e
   refine⟨fun j=>?_,fun j k off e=>?_,fun j ad i e=>?_⟩
   ·rcases wM ls (lv y) ab (pD (dI x) (fun j=>a1.tmps.getD j undef) ρ) bt hh j with⟨v,s,h3⟩ | s
    ·rw[s,h3];rfl
    ·rw[s];simp only[pD];split
     ·rfl
     ·rename_i hm;have hj:j∉dI x:=fun h=>by rw[cN.2 h] at hm;cases hm
      rw[bz j hj,o.eq j];cases e:ρ j with
      | v u=>rfl
      | el u i=>rfl
      | own k off =>
       obtain⟨g,ty,cs,hg⟩:=o.own j k off e;obtain⟨cs',ar⟩:=qz (i3 y) hg;simp only[conc,hg,ar]
   ·rcases oe ls (lv y) (pD (dI x) (fun j=>a1.tmps.getD j undef) ρ) j with s | ⟨v,s⟩
    ·rw[s] at e;obtain⟨_,e'⟩:=bj j k off e;obtain⟨g,ty,cs,hg⟩:=o.own j k off e';obtain⟨cs',ar⟩:=qz (i3 y) hg;exact⟨g,ty,cs',ar⟩
    ·rw[s] at e;cases e
   ·rcases oe ls (lv y) (pD (dI x) (fun j=>a1.tmps.getD j undef) ρ) j with s | ⟨v,s⟩
    ·rw[s] at e;exact o.el j ad i (cb j ad i e)
    ·rw[s] at e;cases e
  refine uo (fun n a1 w1=>∃(y:σ) (F1:au),n=μ y/\F.le F1/\Inv y F1/\St F1 (Lf y) w1/\a1.tmps.size=A.n/\a1.defers=a.defers/\Step F L w F1 (Lf y) w1/\(∀j,j∉dI x->a1.tmps.getD j undef=a.tmps.getD j undef) /\
   aA (Lf y) (puts ls ((lv y).map .v) (pD (dI x) (fun j=>a1.tmps.getD j undef) ρ)) a1) ?_ ?_
  ·exact⟨_,x0,F,rfl,au.le_refl F,i0,q.gives i2,p,rfl,rK i2,fun _ _=>rfl,ae x0 F L ρ a w o.eq (fun _ _=>rfl) i1⟩
  ·rintro n a1 w1 ⟨y,F1,rfl,bk,bi,az,bv,aw,z,ac,av⟩;refine wp_mono (ih h1 az av bv (i4 y F1 _ bk bi)) ?_;intro e a2 w2 d;cases e with
   | normal =>
    obtain⟨F2,L2,ci,g1,g2,g3,g4,g5,g6,⟨y',k1,k2,k3,k4⟩⟩:=d;have an:∀j,j∉dI x->a2.tmps.getD j undef=a.tmps.getD j undef:=fun j hj=>by rw[g6 j hj,ac j hj]
    exact⟨μ y',k4,y',F2,rfl,au.le_trans bk g5.le,k1,g1.gives k3,g3,g4.trans aw,(z.trans g5).trans (rK k3),an,ae y' F2 L2 ci a2 w2 g2.eq an k2⟩
   | exit j=>exact dY.after z aw ac d (fun j h=>h) (fun j h=>h)
   | ret=>exact dY.after z aw ac d (fun j h=>h) (fun j h=>h)
   | goto l=>exact d
   | panic c=>exact(noPan d).elim
   | outgrown=>exact d
 | rangeFunc f ps x y al am=>intro sc b;simp only[low] at b;cases b
 | scope x ih =>
  intro sc b E R N F L ρ a w q o p m;simp only[low] at b;refine wp_scope_straight (wp_mono (ih b q o p m) ?_);intro e a1 w1 d;cases e<;>exact d
 | goto l=>intro sc b;simp only[low] at b;cases b
 | refuse dd=>intro sc b;simp only[low] at b;cases b
end
end Go.Fr
namespace Go.Fr.T
open Go Go.RowKit Go.Fr
theorem JV:∀{a:List Own}{ns:List Nat}{i:Nat}{o:Own},Cx a ns->a[i]?=some o->∃g t cs,o=.box g t cs
 | [],ns,i,o,h,e=>by simp at e
 | b::a,[],i,o,h,e=>h.elim
 | b::a,n::ns,i,o,h,e=>by
  cases i with
  | zero =>
   simp only[aa3,vz] at e;subst e;cases b with
   | row=>exact h.1.elim
   | box g t cs=>exact⟨g,t,cs,rfl⟩
  | succ i=>exact JV h.2 (by simpa using e)
def HF (n:Nat):Env:=fun j=>match Nat.blt j n with | true=>.own (1000+j) 0 | false=>.v undef
theorem MP {a:List Own}{ns:List Nat}{m:Nat}(h:Cx a ns):aA (inp a) (HF a.length) {tmps:=(a.map lA).toArray++Array.replicate m undef,defers:=[]}:=by
 have f:∀j,j<a.length->∃g t cs,a[j]?=some (.box g t cs):=fun j d=>by
  obtain⟨g,t,cs,e⟩:=JV h (aaN d);exact⟨g,t,cs,by rw[aaN d,e]⟩
 have hi:∀j,(inp a).get (1000+j)=a[j]?:=fun j=>by rw[aF,fo (by omega),show 1000+j-1000=j by omega]
 refine⟨fun j=>?_,fun j k off e=>?_,fun j l i e=>?_⟩
 ·simp only[HF,aa4];cases hb:Nat.blt j a.length with
  | true =>
   have b:j<a.length:=by simpa using hb
   obtain⟨g,t,cs,e⟩:=f j b;rw[Array.getElem?_append_left (by simpa using b)];simp only[conc,hi,e,List.getElem?_toArray,aa5,abl,Option.getD_some,lA]
  | false =>
   have c:¬j<a.length:=fun h=>by rw[(Nat.blt_eq ..).mpr h] at hb;cases hb
   rw[Array.getElem?_append_right (by simpa using c)];simp only[Array.getElem?_replicate,conc];split<;>rfl
 ·simp only[HF] at e;split at e
  ·rename_i hb;have b:j<a.length:=by simpa using hb
   injection e with e1 e2
   subst e1;obtain⟨g,t,cs,e⟩:=f j b;exact⟨g,t,cs,by rw[hi,e]⟩
  ·cases e
 ·simp only[HF] at e;split at e<;>cases e
theorem JW {P:Program}{H d r0:Nat}{fn:Func}{o:Oper}{rest:Code}{A:cT}{sc:ax}{PS:Value->Prop}{ns:List Nat}{out:Value->List (List Value)}
  (hf:P.funcs[H]?=some fn) (hb:fn.body=some (.seq (.region r0 #[o] false) rest)) (hname:(fn.name == "runtime.NumGoroutine")=false) (ho:o.op=.call {callee:=.builtin .recover,args:=#[],argTypes:=#[]}) (hd:o.dst=some d) (hg:o.guard=none)
  (hnt:fn.ntmps=A.n) (hres:fn.results=#[]) (hl:low P A rest=some sc) (hdn:d<A.n) (hns:ns.length<=A.n)
  (hidle:∀(bs:List Own) (w:World),Cx bs ns->CallsD P H (bs.map lA).toArray .returning w fun e u' w'=>e=.returned (.tuple #[])/\u'=.returning/\w'=w)
  (hcat:∀(F:au) (bs:List Own) (v:Value),PS v->Cx bs ns->jh P sc (fun _ _ _ _=>False) (fun _ L' _=>L'.sub (List.range' 1000 bs.length)=some (List.zipWith o9 bs (out v))) (fun _ L' _=>L'.sub (List.range' 1000 bs.length)=some (List.zipWith o9 bs (out v))) F (inp bs) (put (some d) (.v v) (HF bs.length))) :
  nK P H PS ns out:=by
 refine⟨fun cap w=>?_,hidle,fun F bs v older w hv hbx hs=>?_⟩
 ·simp[invoke];rw[iy ⟨fn,hf,by rw[hb];rfl,hname⟩]
 refine callsD_of_wpS hf hb fun c₀ cs hu=>?_;have hlen:=wq hbx;have he0:=MP (m:=fn.ntmps-(bs.map lA).toArray.size) hbx;generalize htm:(bs.map lA).toArray++Array.replicate (fn.ntmps-(bs.map lA).toArray.size) undef=tm at he0 ⊢;have hsz:tm.size=A.n:=by
  rw[<-htm,<-hnt];simp;omega
 refine wpS_seq (wpS_region ?_);simp[wpOpsS,go_sem,recoverD,hu,ho,hd,hg,Region.wanted,Exit.thenS,hsz,hdn];have he1:=he0.put (L':=inp bs) (d:=some d) (v:=v) (x:=.v v) (fun k e=>by injection e with e;subst e;simpa[hsz] using hdn) rfl cq eI (fun k g ty cs e=>⟨cs,e⟩);refine wpS_of_wp (wp_mono (qd rest hl hs ⟨he1.eq,he1.own,he1.el⟩ (by simpa using hsz) (hcat F bs v hv hbx)) ?_);have fin:∀(a':Act) (w':World),dY A.n F (inp bs) w {tmps:=tm.setIfInBounds d v,defers:=[]} (dI rest) (fun _ L' _=>L'.sub (List.range' 1000 bs.length)=some (List.zipWith o9 bs (out v))) a' w' ->
   a'.defers=[]/\∃u',({c₀ with mode:=FrameMode.panicking ({v,recovered:=true}::older)}::cs:List Frame)={c₀ with mode:=u'}::cs/\∃x,(results fn a'.tmps).run P w'=.ok x w' /\
    ((Ending.returned x=.returned (.tuple #[])/\u'=.panicking ({v,recovered:=true}::older))/\∃F',St F' (inp (List.zipWith o9 bs (out v))) w'/\Step F (inp bs) w F' (inp (List.zipWith o9 bs (out v))) w'):=by
  rintro a' w' ⟨F',L',ρ',g1,g2,g3,g4,g5,g6,k1⟩;obtain⟨e1,e2⟩:=cu k1;refine⟨g4,_,rfl,.tuple #[],by simp[results,hres],⟨rfl,rfl⟩,F',g1.handed k1 List.nodup_range',?_⟩;refine⟨g5.le,g5.os,g5.tape,g5.output,g5.size,g5.same,g5.frz,fun b hb=>g5.own b ?_⟩;obtain⟨j,p,e,hb⟩:=hb;rw[aF] at e;split at e
  case isFalse=>cases e
  have hlt:j-1000<(List.zipWith o9 bs (out v)).length:=(aaR.1 e).1;have hk:(List.range' 1000 bs.length)[j-1000]?=some ((List.range' 1000 bs.length)[j-1000]'(by omega)):=aaN (by omega);exact⟨_,p,by rw[e2 _ _ hk];exact e,hb⟩
 intro e a' w' hq;cases e with
 | normal =>
  obtain⟨k1,u',k2,x,k3,⟨k4,k5⟩,k6⟩:=fin a' w' hq;exact⟨k1,u',k2,x,k3,k4,k5,k6⟩
 | ret =>
  obtain⟨k1,u',k2,x,k3,⟨k4,k5⟩,k6⟩:=fin a' w' hq;exact⟨k1,u',k2,x,k3,k4,k5,k6⟩
 | exit j=>obtain⟨F',L',ρ',_,_,_,_,_,_,h⟩:=hq;exact h.elim
 | goto l=>exact hq.elim
 | outgrown=>exact hq.elim
 | panic ch=>obtain⟨v,hch,hp⟩:=hq;obtain⟨F',L',_,_,_,_,_,hp⟩:=hp;exact hp.elim
def Pj:Op->Bool
 | .call {callee:=.builtin .recover,args:=⟨[]⟩,argTypes:=⟨[]⟩}=>true
 | _=>false
def BF (P:Program) (A:cT) (fn:Func):Option (ax×Nat) :=
 match fn.body with
 | some (.seq (.region _ ⟨[o]⟩ false) rest)=>match Pj o.op,o.dst,o.guard,low P A rest,fn.results with
  | true,some d,none,some sc,⟨[]⟩=>match fn.name == "runtime.NumGoroutine",Nat.beq fn.ntmps A.n&&Nat.blt d A.n with
   | false,true=>some (sc,d)
   | _,_=>none
  | _,_,_,_,_=>none
 | _=>none
theorem vC {P:Program}{H d:Nat}{fn:Func}{A:cT}{k:ax}{PS:Value->Prop}{ns:List Nat}{out:Value->List (List Value)}(t:P.funcs[H]?=some fn) (a:BF P A fn=some (k,d)) (j:Nat.ble ns.length A.n=true)
  (c:∀(b:List Own) (w:World),Cx b ns->CallsD P H (b.map lA).toArray .returning w fun e x w'=>e=.returned (.tuple #[])/\x=.returning/\w'=w)
  (f:∀(F:au) (b:List Own) (v:Value),PS v->Cx b ns->jh P k (fun _ _ _ _=>False) (fun _ L' _=>L'.sub (List.range' 1000 b.length)=some (List.zipWith o9 b (out v))) (fun _ L' _=>L'.sub (List.range' 1000 b.length)=some (List.zipWith o9 b (out v))) F (inp b) (put (some d) (.v v) (HF b.length))) :
  nK P H PS ns out:=by
 unfold BF at a;split at a
 case h_2=>cases a
 rename_i r o l hb;split at a
 case h_2=>cases a
 rename_i d' z h1 p s u q;split at a
 case h_2=>cases a
 rename_i y h;simp only[vz,Prod.mk.injEq] at a;obtain⟨rfl,rfl⟩:=a;simp only[xo] at h;obtain⟨h,m⟩:=h;have ho:o.op=.call {callee:=.builtin .recover,args:=#[],argTypes:=#[]}:=by
  unfold Pj at h1;split at h1
  ·assumption
  ·cases h1
 exact JW t hb y ho p s (aaO h) q u (by simpa using m) (aa6 j) c f
end Go.Fr.T
namespace Go.Fr
open Go Go.RowKit
mutual
def G.bulk:G->Nat
 | .int _ _=>1
 | .bool _=>1
 | .str s=>s.size+1
 | .sl _ l=>G.aai l+1
 | .st l=>G.aai l+1
def G.aai:List G->Nat
 | []=>0
 | x::l=>G.bulk x+G.aai l
end
mutual
def ic {H:Type}:DataW H->Nat
 | .lit (.string bytes)=>bytes.length+1
 | .lit _=>1
 | .nil=>1
 | .ptr d=>ic d+1
 | .slice elems spare=>d9 elems+d9 spare+1
 | .agg parts=>d9 parts+1
 | .iface _ d=>ic d+1
 | .map entries=>lC entries+1
 | .held _=>1
def d9 {H:Type}:List (DataW H)->Nat
 | []=>0
 | d::r=>ic d+d9 r
def lC {H:Type}:List (Lit×DataW H)->Nat
 | []=>0
 | x::r=>rW x+lC r
def rW {H:Type}:Lit×DataW H->Nat
 | (.string bytes,d)=>bytes.length+ic d+1
 | (_,d)=>ic d+1
end
def Ok (P:Program):Nat->TypeId->G->Prop
 | 0,_,_=>False
 | n+1,t,g=>match P.underlying t with
  | some .bool=>∃b,g=.bool b
  | some (.int k)=>∃x,g=.int k x/\(Lit.int k x).wf=true
  | some .string=>∃s,g=.str s
  | some (.slice e)=>∃l,g=.sl (P.cellsOf e) l/\∀x∈l,Ok P n e x
  | some (.struct a)=>∃l,g=.st l/\l.length=a.size/\∀(i:Nat) (f:Field) (x:G),a[i]?=some f->l[i]?=some x->Ok P n f.type x
  | _=>False
def x9 (P:Program):Nat->List Field->Nat->Bool
 | o,[],n=>Nat.beq o n
 | o,f::a,n=>Nat.beq f.offset o&&x9 P (o+P.cellsOf f.type) a n
def Ks (P:Program) (S:List TypeId) (t:TypeId):Bool :=
 match P.underlying t with
 | some .bool=>true
 | some (.int _)=>true
 | some .string=>true
 | some (.slice e)=>fe S e&&Nat.blt 0 (P.cellsOf e)
 | some (.struct a)=>x9 P 0 a.toList (P.cellsOf t)&&a.toList.all fun f=>fe S f.type
 | _=>false
def flat (P:Program) (S:List TypeId):Bool:=S.all (Ks P S)
theorem vD {Q:Nat->G->Prop}:∀(n:Nat),(∀i,i<n->∃g,Q i g)->∃l:List G,l.length=n/\∀i g,l[i]?=some g->Q i g
 | 0,_=>⟨[],rfl,fun i g h=>by simp at h⟩
 | n+1,h=>by
  obtain⟨l,h1,b⟩:=vD n (fun i hi=>h i (by omega));obtain⟨g,c⟩:=h n (by omega);refine⟨l++[g],by simp[h1],fun i x a=>?_⟩
  by_cases hi:i<l.length
  ·rw[abB hi] at a;exact b i x a
  ·rw[abC (by omega)] at a;have:i-l.length=0:=by
    cases e:i-l.length with
    | zero=>rfl
    | succ k=>rw[e] at a;simp at a
   rw[this] at a;simp only[aa3,vz] at a;subst a;have:i=n:=by omega
   subst this;exact c
theorem yc {H:Type}:∀{l:List G}{ds:List (DataW H)},l.length=ds.length->(∀(i:Nat) g d,l[i]?=some g->ds[i]?=some d->g.bulk<=ic d)->G.aai l<=d9 ds
 | [],_,_,_=>by simp[G.aai]
 | x::l,[],h,_=>by simp at h
 | x::l,d::ds,h,hb=>by
  simp only[G.aai,d9];have h1:=hb 0 x d (by simp) (by simp);have e:=yc (l:=l) (ds:=ds) (by simpa using h) (fun i g a c b=>hb (i+1) g a (by simpa using c) (by simpa using b));omega
section
variable {H:Type}{enc:TypeId×Value->H}{P:Program}{w:World}{base:Nat}{spare:Nat->Bool}{held:Bool}
def qg (w:World):au:=fun b=>w.heap[b]?
theorem Al {a:Addr}{n:Nat}{cs:List Value}(h:w.cells? base a n=some cs) (q:0<n):cs.length=n/\dG (qg w) (some a) 0 cs:=by
 obtain⟨_,f,p⟩:=World.cells?_some h;refine⟨f,?_⟩;have h0:=p 0 q;rw[aaN (by omega)] at h0;have d:a.spot=none:=by simpa[Addr.add] using World.cell?_spot h0
 have l:∃j t k,w.heap[a.block]?=some (.cells j t k):=by
  simp only[World.cell?,Addr.add] at h0;split at h0
  ·rename_i c t k e;exact⟨c,t,k,e⟩
  ·cases h0
 obtain⟨j,t,k,hb⟩:=l;refine⟨a,j,t,k,rfl,hb,d,fun i v m=>?_⟩;have hi:i<n:=by rw[<-f];exact(aaR.1 m).1
 have:=p i hi;obtain⟨b,o,r⟩:=a;simp only at d;subst d;rw[m,cU] at this;simp only[World.cell?] at this;simp only at hb;rw[hb] at this;simpa using this
theorem BR {F:au}{a:Addr}{n:Nat}{cs:List Value}(d:a.spot=none) (h:dG F (some (a.add n)) 0 cs):dG F (some a) n cs:=by
 obtain⟨b,o,p⟩:=a;simp only at d;subst d;rw[cU] at h;obtain⟨m,c,t,f,e,hb,j,l⟩:=h;injection e with e
 subst e;exact⟨_,c,t,f,rfl,hb,rfl,fun i v k=>by have:=l i v k;simpa[Nat.add_assoc] using this⟩
theorem Dx {F:au}{a:Addr}{cs:List Value}(h:dG F (some a) 0 cs):a.spot=none:=by
 obtain⟨f,c,t,j,e,hb,b,d⟩:=h;injection e with e
 subst e;exact b
theorem NW {S:List TypeId}(hS:flat P S=true):∀(q:Nat) (t:TypeId) (cs:List Value) (x:DataW H×List MemPlace),t∈S->DataW.trod enc P w base spare held q t cs=some x ->
  ∃g,Ok P q t g/\Rd (qg w) g cs/\g.bulk<=ic x.1:=by
 intro q
 induction q with
 | zero=>intro t cs x _ h;simp[DataW.trod] at h
 | succ n ih =>
  intro t cs x ht h;have u:=aaY.1 hS t ht;simp only[Ks] at u;split at u
  ·rename_i c;obtain⟨b,rfl,rfl⟩:=DataW.trod_bool c h;exact⟨.bool b,by simp[Ok,c],by simp[Rd],by simp[G.bulk,ic]⟩
  ·rename_i k c;obtain⟨m,rfl,rfl,hw⟩:=DataW.trod_int c h;exact⟨.int k m,by simp[Ok,c,hw],by simp[Rd,hw],by simp[G.bulk,ic]⟩
  ·rename_i c;obtain⟨s,rfl,rfl,hw⟩:=DataW.trod_string c h;exact⟨.str s,by simp[Ok,c],by simp[Rd],by simp[G.bulk,ic]⟩
  ·rename_i e c;simp only[xo] at u;have he:e∈S:=cN.1 u.1;have z:0<P.cellsOf e:=by simpa using u.2
   rcases DataW.trod_slice c h with⟨rfl,rfl⟩ | ⟨a,len,cap,elems,bm,m,e1,rfl,rfl,hb,hl,hm,ab,az,_,_⟩
   ·refine⟨.sl (P.cellsOf e) [],by simp[Ok,c],?_,by simp[G.bulk,G.aai,ic]⟩;rw[Pc];exact⟨none,0,rfl,by simp,by simp,fun _=>⟨rfl,rfl⟩,fun j x hx=>by simp at hx⟩
   ·obtain rfl:m=n:=by omega
    have ae:0<len->a.spot=none:=by
     intro h0;have h1:=az 0 h0;rw[aaN (by omega)] at h1;obtain⟨es,h2,h3⟩:=Option.bind_eq_some_iff.1 h1;have:=Dx (Al h2 z).2;simpa[Addr.add] using this
    obtain⟨l,aw,am⟩:=vD (Q:=fun i g=>Ok P m e g/\(∃es,es.length=P.cellsOf e/\dG (qg w) (some a) (i*P.cellsOf e) es/\Rd (qg w) g es)/\∀y,elems[i]?=some y->g.bulk<=ic y.1) len (by
     intro i hi;have h1:=az i hi;rw[aaN (by omega)] at h1;obtain⟨es,h2,h3⟩:=Option.bind_eq_some_iff.1 h1;obtain⟨g,g1,g2,g3⟩:=ih e es _ he h3;obtain⟨g4,g5⟩:=Al h2 z;refine⟨g,g1,⟨es,g4,BR (ae (by omega)) g5,g2⟩,fun y r=>?_⟩;rw[aaN (by omega)] at r;injection r with r
     subst r;exact g3)
    refine⟨.sl (P.cellsOf e) l,?_,?_,?_⟩
    ·simp only[Ok,c];refine⟨l,rfl,fun x hx=>?_⟩;obtain⟨i,hi⟩:=abb.1 hx;exact(am i x hi).1
    ·rw[Pc];exact⟨some a,cap,by rw[aw],by omega,hm,fun e=>(by cases e),fun j x hx=>(am j x hx).2.1⟩
    ·simp only[G.bulk,ic];have:=yc (l:=l) (ds:=elems.map (·.1)) (by simp[aw,ab]) (fun i g d hg hd=>by
      simp only[aa5,Option.map_eq_some_iff] at hd;obtain⟨y,r,rfl⟩:=hd;exact(am i g hg).2.2 y r)
     omega
  ·rename_i fs c;simp only[xo] at u;obtain⟨ag,ar⟩:=u;obtain⟨xs,m,e1,rfl,ab,bc,v⟩:=DataW.trod_struct c h;obtain rfl:m=n:=by omega
   have key:∀(fl:List Field) (ys:List (DataW H×List MemPlace)) (o:Nat),x9 P o fl (P.cellsOf t)=true->ys.length=fl.length->(∀f∈fl,f.type∈S) ->
     (∀(i:Nat) f,fl[i]?=some f->DataW.trod enc P w base spare held m f.type ((cs.drop f.offset).take (P.cellsOf f.type))=ys[i]?) ->
     ∃l,l.length=fl.length/\(∀(i:Nat) f g,fl[i]?=some f->l[i]?=some g->Ok P m f.type g)/\lT (qg w) l (cs.drop o)/\G.aai l<=d9 (ys.map (·.1)):=by
    intro fl
    induction fl with
    | nil =>
     intro ys o hc _ _ _;simp only[x9] at hc;have:=aaO hc;refine⟨[],rfl,fun i f g h=>by simp at h,?_,by simp[G.aai]⟩;simp only[lT];rw[List.drop_eq_nil_iff];omega
    | cons f fl bb =>
     intro ys o hc r aa v;simp only[x9,xo] at hc;have av:=aaO hc.1
     match ys,r with
     | y::ys,r =>
      have h0:=v 0 f (by simp);simp only[aa3] at h0;obtain⟨g,g1,g2,g3⟩:=ih f.type _ _ (aa f (by simp)) h0;obtain⟨l,l1,l2,l3,l4⟩:=bb ys (o+P.cellsOf f.type) hc.2 (by simpa using r) (fun f' p=>aa f' (by simp[p])) (fun i f' p=>by
       have:=v (i+1) f' (by simpa using p);simpa using this)
      refine⟨g::l,by simp[l1],fun i f' g' p ad=>?_,?_,?_⟩
      ·cases i with
       | zero=>simp only[aa3,vz] at p ad;subst p;subst ad;exact g1
       | succ i=>exact l2 i f' g' (by simpa using p) (by simpa using ad)
      ·simp only[lT];refine⟨(cs.drop o).take (P.cellsOf f.type),cs.drop (o+P.cellsOf f.type),?_,by rw[<-av];exact g2,l3⟩;rw[<-List.drop_drop,List.take_append_drop]
      ·simp only[G.aai,aaW,d9];omega
   obtain⟨l,l1,l2,l3,l4⟩:=key fs.toList xs 0 ag (by simp[bc]) (fun f u=>cN.1 (aaY.1 ar f u)) (fun i f hi=>v i f (by simpa using hi));refine⟨.st l,?_,?_,?_⟩
   ·simp only[Ok,c];exact⟨l,rfl,by simpa using l1,fun i f x hi hx=>l2 i f x (by simpa using hi) hx⟩
   ·simp only[Rd];simpa using l3
   ·simp only[G.bulk,ic];omega
  ·cases u
end
namespace Api
abbrev I (n:Int):G:=.int .i64 n
inductive Ty where
 | mk (kind id:Int) (args:List Ty)
 deriving Inhabited
def Ty.kind:Ty->Int | .mk k _ _=>k
def Ty.id:Ty->Int | .mk _ i _=>i
def Ty.args:Ty->List Ty | .mk _ _ l=>l
mutual
def Ty.g:Ty->G
 | .mk k i l=>.st [I k,I i,.sl 3 (Ty.gs l)]
def Ty.gs:List Ty->List G
 | []=>[]
 | t::l=>t.g::Ty.gs l
end
theorem Ty.aaD:∀l:List Ty,Ty.gs l=l.map Ty.g
 | []=>rfl
 | t::l=>by simp[Ty.gs,Ty.aaD l]
structure bH where
 param:Int
 trait:Int
def bH.g (b:bH):G:=.st [I b.param,I b.trait]
structure Term where
 kind:Int
 a:Int
 targets:List Int
def Term.g (x:Term):G:=.st [I x.kind,I x.a,.sl 1 (x.targets.map I)]
structure NX where
 op:Int
 dst:Int
 a:Int
 b:Int
 n:Int
 args:List Int
 types:List Ty
def NX.g (x:NX):G:=.st [I x.op,I x.dst,I x.a,I x.b,I x.n,.sl 1 (x.args.map I),.sl 3 (x.types.map Ty.g)]
structure Block where
 code:List NX
 fin:Term
def Block.g (x:Block):G:=.st [.sl 7 (x.code.map NX.g),x.fin.g]
structure NY where
 name:ByteArray
 module:Int
 params:Int
 bounds:List bH
 arity:Int
 result:Ty
 locals:List Ty
 blocks:List Block
 ties:List Int
def NY.g (f:NY):G:=.st [.str f.name,I f.module,I f.params,.sl 2 (f.bounds.map bH.g),I f.arity,f.result.g,.sl 3 (f.locals.map Ty.g),.sl 4 (f.blocks.map Block.g),.sl 1 (f.ties.map I)]
structure Variant where
 name:ByteArray
 fields:List Ty
def Variant.g (x:Variant):G:=.st [.str x.name,.sl 3 (x.fields.map Ty.g)]
structure Data where
 name:ByteArray
 module:Int
 params:Int
 variants:List Variant
 drop:Int
def Data.g (d:Data):G:=.st [.str d.name,I d.module,I d.params,.sl 2 (d.variants.map Variant.g),I d.drop]
structure Impl where
 trait:Int
 module:Int
 params:Int
 bounds:List bH
 type:Ty
 func:Int
def Impl.g (x:Impl):G:=.st [I x.trait,I x.module,I x.params,.sl 2 (x.bounds.map bH.g),x.type.g,I x.func]
structure Prog where
 modules:List ByteArray
 uses:List (List Int)
 datas:List Data
 traits:List ByteArray
 homes:List Int
 impls:List Impl
 funcs:List NY
 main:Int
def Prog.g (p:Prog):G:=.st [.sl 1 (p.modules.map .str),.sl 1 (p.uses.map fun l=>.sl 1 (l.map I)),.sl 5 (p.datas.map Data.g),.sl 1 (p.traits.map .str),.sl 1 (p.homes.map I),.sl 8 (p.impls.map Impl.g),.sl 11 (p.funcs.map NY.g),I p.main]
section
variable {F:au}{cs:List Value}
end
end Api
end Go.Fr
namespace Go.Fr
open Go Go.RowKit
namespace Api
section
variable {P:Program}
def QK (P:Program) (n:Nat):List TypeId->List G->Prop
 | [],[]=>True
 | t::ts,x::l=>Ok P n t x/\QK P n ts l
 | _,_=>False
theorem Kt {n:Nat}:∀{fl:List Field}{l:List G},l.length=fl.length->(∀(i:Nat) (f:Field) (x:G),fl[i]?=some f->l[i]?=some x->Ok P n f.type x)->QK P n (fl.map (·.type)) l
 | [],[],_,_=>trivial
 | [],x::l,h,_=>by simp at h
 | f::fl,[],h,_=>by simp at h
 | f::fl,x::l,h,a=>⟨a 0 f x (by simp) (by simp),Kt (by simpa using h) fun i e b c d=>a (i+1) e b (by simpa using c) (by simpa using d)⟩
theorem ok_int {n:Nat}{t:TypeId}{g:G}{k:IntKind}(h:P.underlying t=some (.int k)) (a:Ok P n t g):∃x,g=.int k x:=by
 cases n with
 | zero=>exact a.elim
 | succ n=>simp only[Ok,h] at a;obtain⟨x,h1,_⟩:=a;exact⟨x,h1⟩
theorem QL {n:Nat}{t:TypeId}{g:G}(h:P.underlying t=some .string) (a:Ok P n t g):∃x,g=.str x:=by
 cases n with
 | zero=>exact a.elim
 | succ n=>simp only[Ok,h] at a;exact a
theorem Gf {b:Type}{f:b->G}:∀{l:List G},(∀x∈l,∃y,x=f y)->∃a:List b,l=a.map f
 | [],_=>⟨[],rfl⟩
 | x::l,h=>by
  obtain⟨y,rfl⟩:=h x (by simp);obtain⟨a,rfl⟩:=Gf (l:=l) (fun z c=>h z (by simp[c]));exact⟨y::a,rfl⟩
theorem QM {n:Nat}{t e:TypeId}{g:G}{sz:Nat}{c:Type}{f:c->G}(h:P.underlying t=some (.slice e)) (a:P.cellsOf e=sz) (b:Ok P n t g) (k:∀m x,m<n->Ok P m e x->∃y,x=f y):∃l:List c,g=.sl sz (l.map f):=by
 cases n with
 | zero=>exact b.elim
 | succ n =>
  simp only[Ok,h] at b;obtain⟨l,rfl,j⟩:=b;obtain⟨d,rfl⟩:=Gf (f:=f) (fun x o=>k n x (by omega) (j x o));exact⟨d,by rw[a]⟩
theorem Sm {n:Nat}{t:TypeId}{g:G}{c:Array Field}{ts:List TypeId}(h:P.underlying t=some (.struct c)) (a:c.toList.map (·.type)=ts) (b:Ok P n t g):∃m l,m<n/\g=.st l/\QK P m ts l:=by
 cases n with
 | zero=>exact b.elim
 | succ n =>
  simp only[Ok,h] at b;obtain⟨l,rfl,e,k⟩:=b;subst a;exact⟨n,l,by omega,rfl,Kt (by simpa using e) fun i f x d j=>k i f x (by simpa using d) j⟩
def uV (P:Program) (t:TypeId) (ts:List TypeId):Bool:=match P.underlying t with | some (.struct fs)=>decide (fs.toList.map (·.type)=ts) | _=>false
def tJ (P:Program) (t e sz:Nat):Bool:=match P.underlying t with | some (.slice e')=>Nat.beq e' e&&Nat.beq (P.cellsOf e) sz | _=>false
def Ut (P:Program) (t:TypeId):Bool:=match P.underlying t with | some (.int .i64)=>true | _=>false
def Vz (P:Program) (t:TypeId):Bool:=match P.underlying t with | some .string=>true | _=>false
theorem kC {t:TypeId}{ts:List TypeId}(h:uV P t ts=true) {n:Nat}{g:G}(a:Ok P n t g):∃m l,m<n/\g=.st l/\QK P m ts l:=by
 simp only[uV] at h;split at h
 ·rename_i c b;exact Sm b (by simpa using h) a
 ·cases h
theorem eT {t e sz:Nat}(h:tJ P t e sz=true) {n:Nat}{g:G}{a:Type}{f:a->G}(d:Ok P n t g) (b:∀m x,m<n->Ok P m e x->∃y,x=f y):∃l:List a,g=.sl sz (l.map f):=by
 simp only[tJ] at h;split at h
 ·rename_i k j;simp only[xo] at h;have h1:=aaO h.1;have c:=aaO h.2;subst h1;exact QM j c d b
 ·cases h
theorem EU {t:TypeId}(h:Ut P t=true) {n:Nat}{g:G}(a:Ok P n t g):∃x,g=I x:=by
 simp only[Ut] at h;split at h
 ·rename_i b;exact ok_int b a
 ·cases h
theorem yd {t:TypeId}(h:Vz P t=true) {n:Nat}{g:G}(a:Ok P n t g):∃x,g=.str x:=by
 simp only[Vz] at h;split at h
 ·rename_i b;exact QL b a
 ·cases h
theorem zn {n:Nat}{b:TypeId}{l:List G}(h:QK P n [b] l):∃a,l=[a]/\Ok P n b a:=by
 match l,h with
 | [a],h=>exact⟨a,rfl,h.1⟩
theorem aY {n:Nat}{b:TypeId}{ts:List TypeId}{l:List G}(h:QK P n (b::ts) l):∃a r,l=a::r/\Ok P n b a/\QK P n ts r:=by
 match l,h with
 | a::r,h=>exact⟨a,r,rfl,h.1,h.2⟩
theorem Sn {t e ts:TypeId}(hi:Ut P e=true) (q:uV P t [e,e,ts]=true) (r:tJ P ts t 3=true):∀(n:Nat) (g:G),Ok P n t g->∃x:Ty,g=x.g:=by
 intro n
 induction n using Nat.strongRecOn with
 | _ n h =>
  intro g v;obtain⟨m,l,w,rfl,d⟩:=kC q v;obtain⟨a,l,rfl,j,d⟩:=aY d;obtain⟨b,l,rfl,hb,d⟩:=aY d;obtain⟨c,rfl,p⟩:=zn d;obtain⟨k,rfl⟩:=EU hi j;obtain⟨i,rfl⟩:=EU hi hb;obtain⟨xs,rfl⟩:=eT r p (f:=Ty.g) (fun s x o u=>h s (by omega) x u);exact⟨.mk k i xs,by simp[Ty.g,Ty.aaD]⟩
structure dK where
 int:TypeId
 str:TypeId
 ints:TypeId
 strs:TypeId
 intss:TypeId
 ty:TypeId
 tys:TypeId
 bound:TypeId
 bounds:TypeId
 term:TypeId
 ins:TypeId
 inss:TypeId
 block:TypeId
 blocks:TypeId
 func:TypeId
 funcs:TypeId
 variant:TypeId
 variants:TypeId
 data:TypeId
 datas:TypeId
 impl:TypeId
 impls:TypeId
 prog:TypeId
def dK.tyOk (P:Program) (d:dK):Bool:=Ut P d.int&&uV P d.ty [d.int,d.int,d.tys]&&tJ P d.tys d.ty 3
def dK.aak (P:Program) (d:dK):Bool:=d.tyOk P&&Vz P d.str&&tJ P d.ints d.int 1&&uV P d.bound [d.int,d.int]&&tJ P d.bounds d.bound 2&&uV P d.term [d.int,d.int,d.ints] &&
 uV P d.ins [d.int,d.int,d.int,d.int,d.int,d.ints,d.tys]&&tJ P d.inss d.ins 7&&uV P d.block [d.inss,d.term]&&tJ P d.blocks d.block 4 &&
 uV P d.func [d.str,d.int,d.int,d.bounds,d.int,d.ty,d.tys,d.blocks,d.ints]
def dK.aam (P:Program) (d:dK):Bool:=d.aak P&&tJ P d.strs d.str 1&&tJ P d.intss d.ints 1&&uV P d.variant [d.str,d.tys]&&tJ P d.variants d.variant 2&&uV P d.data [d.str,d.int,d.int,d.variants,d.int] &&
 tJ P d.datas d.data 5&&uV P d.impl [d.int,d.int,d.int,d.bounds,d.ty,d.int]&&tJ P d.impls d.impl 8&&tJ P d.funcs d.func 11&&uV P d.prog [d.strs,d.intss,d.datas,d.strs,d.ints,d.impls,d.funcs,d.int]
theorem dK.aas {d:dK}(h:d.aam P=true):d.aak P=true:=by
 simp only[dK.aam,xo] at h;exact h.1.1.1.1.1.1.1.1.1.1
theorem dK.aar {d:dK}(h:d.aak P=true):d.tyOk P=true:=by
 simp only[dK.aak,xo] at h;exact h.1.1.1.1.1.1.1.1.1.1
theorem dK.ty' {d:dK}(h:d.tyOk P=true) {n:Nat}{g:G}(a:Ok P n d.ty g):∃x:Ty,g=x.g:=by
 simp only[dK.tyOk,xo] at h;exact Sn h.1.1 h.1.2 h.2 n g a
theorem dK.i {d:dK}(h:d.tyOk P=true) {n:Nat}{g:G}(a:Ok P n d.int g):∃x:Int,g=I x:=by
 simp only[dK.tyOk,xo] at h;exact EU h.1.1 a
theorem dK.aaE {d:dK}(h:d.tyOk P=true) {n:Nat}{g:G}(c:Ok P n d.tys g):∃x:List Ty,g=.sl 3 (x.map Ty.g):=by
 have a:=h;simp only[dK.tyOk,xo] at a;exact eT a.2 c fun m x _ b=>dK.ty' h b
theorem dK.bnd {d:dK}(h:d.aak P=true) {n:Nat}{g:G}(o:Ok P n d.bound g):∃x:bH,g=x.g:=by
 have f:=h;have e:=dK.aar f;have a:=f;simp only[dK.aak,xo] at a;obtain⟨⟨⟨⟨⟨⟨⟨⟨⟨⟨_,k1⟩,p⟩,j⟩,q⟩,z⟩,u⟩,r⟩,k8⟩,k9⟩,k10⟩:=a;obtain⟨m,v,s,rfl,b⟩:=kC j o;obtain⟨y,w,rfl,l,c⟩:=aY b;obtain⟨v0,rfl⟩:=dK.i e l;obtain⟨t,rfl,k⟩:=zn c;obtain⟨v1,rfl⟩:=dK.i e k;exact⟨⟨v0,v1⟩,rfl⟩
theorem dK.trm {d:dK}(h:d.aak P=true) {n:Nat}{g:G}(r:Ok P n d.term g):∃x:Term,g=x.g:=by
 have k:=h;have c:=dK.aar k;have a:=k;simp only[dK.aak,xo] at a;obtain⟨⟨⟨⟨⟨⟨⟨⟨⟨⟨_,k1⟩,l⟩,u⟩,v⟩,s⟩,k6⟩,w⟩,k8⟩,k9⟩,k10⟩:=a;obtain⟨m,l0,y,rfl,b⟩:=kC s r;obtain⟨g0,l1,rfl,q,j⟩:=aY b;obtain⟨v0,rfl⟩:=dK.i c q;obtain⟨g1,z,rfl,o,e⟩:=aY j;obtain⟨v1,rfl⟩:=dK.i c o;obtain⟨g2,rfl,t⟩:=zn e;obtain⟨v2,rfl⟩:=eT l t (f:=I) fun m x _ p=>dK.i c p;exact⟨⟨v0,v1,v2⟩,rfl⟩
theorem dK.ins' {d:dK}(h:d.aak P=true) {n:Nat}{g:G}(hg:Ok P n d.ins g):∃x:NX,g=x.g:=by
 have q:=h;have a:=dK.aar q;have b:=q;simp only[dK.aak,xo] at b;obtain⟨⟨⟨⟨⟨⟨⟨⟨⟨⟨_,k1⟩,s⟩,k3⟩,k4⟩,k5⟩,y⟩,k7⟩,k8⟩,k9⟩,k10⟩:=b;obtain⟨m,l0,hm,rfl,c⟩:=kC y hg;obtain⟨g0,l1,rfl,e0,p⟩:=aY c;obtain⟨v0,rfl⟩:=dK.i a e0;obtain⟨g1,l2,rfl,e1,o⟩:=aY p;obtain⟨v1,rfl⟩:=dK.i a e1;obtain⟨g2,l3,rfl,e2,e⟩:=aY o;obtain⟨v2,rfl⟩:=dK.i a e2;obtain⟨g3,l4,rfl,u,j⟩:=aY e;obtain⟨v3,rfl⟩:=dK.i a u;obtain⟨g4,l5,rfl,v,l⟩:=aY j;obtain⟨t,rfl⟩:=dK.i a v;obtain⟨g5,l6,rfl,e5,k⟩:=aY l;obtain⟨r,rfl⟩:=eT s e5 (f:=I) fun m x _ hx=>dK.i a hx;obtain⟨g6,rfl,w⟩:=zn k;obtain⟨z,rfl⟩:=dK.aaE a w;exact⟨⟨v0,v1,v2,v3,t,r,z⟩,rfl⟩
theorem dK.blk {d:dK}(h:d.aak P=true) {n:Nat}{g:G}(p:Ok P n d.block g):∃x:Block,g=x.g:=by
 have b:=h;have t:=dK.aar b;have a:=b;simp only[dK.aak,xo] at a;obtain⟨⟨⟨⟨⟨⟨⟨⟨⟨⟨_,k1⟩,r⟩,q⟩,s⟩,k5⟩,w⟩,j⟩,k8⟩,k9⟩,k10⟩:=a;obtain⟨m,y,u,rfl,c⟩:=kC k8 p;obtain⟨g0,z,rfl,o,e⟩:=aY c;obtain⟨v0,rfl⟩:=eT j o (f:=NX.g) fun m x _ l=>dK.ins' b l;obtain⟨v,rfl,k⟩:=zn e;obtain⟨v1,rfl⟩:=dK.trm b k;exact⟨⟨v0,v1⟩,rfl⟩
theorem dK.fn {d:dK}(h:d.aak P=true) {n:Nat}{g:G}(hg:Ok P n d.func g):∃x:NY,g=x.g:=by
 have e:=h;have a:=dK.aar e;have b:=e;simp only[dK.aak,xo] at b;obtain⟨⟨⟨⟨⟨⟨⟨⟨⟨⟨_,k1⟩,v⟩,k3⟩,w⟩,k5⟩,k6⟩,k7⟩,k8⟩,k9⟩,k10⟩:=b;obtain⟨m,l0,hm,rfl,j⟩:=kC k10 hg;obtain⟨g0,l1,rfl,e0,t⟩:=aY j;obtain⟨v0,rfl⟩:=yd k1 e0;obtain⟨g1,l2,rfl,e1,s⟩:=aY t;obtain⟨v1,rfl⟩:=dK.i a e1;obtain⟨g2,l3,rfl,e2,l⟩:=aY s;obtain⟨v2,rfl⟩:=dK.i a e2;obtain⟨g3,l4,rfl,z,o⟩:=aY l;obtain⟨v3,rfl⟩:=eT w z (f:=bH.g) fun m x _ c=>dK.bnd e c;obtain⟨g4,l5,rfl,e4,r⟩:=aY o;obtain⟨y,rfl⟩:=dK.i a e4;obtain⟨g5,l6,rfl,e5,p⟩:=aY r;obtain⟨u,rfl⟩:=dK.ty' a e5;obtain⟨g6,l7,rfl,e6,k⟩:=aY p;obtain⟨v6,rfl⟩:=dK.aaE a e6;obtain⟨g7,l8,rfl,e7,q⟩:=aY k;obtain⟨v7,rfl⟩:=eT k9 e7 (f:=Block.g) fun m x _ c=>dK.blk e c;obtain⟨g8,rfl,e8⟩:=zn q;obtain⟨v8,rfl⟩:=eT v e8 (f:=I) fun m x _ c=>dK.i a c;exact⟨⟨v0,v1,v2,v3,y,u,v6,v7,v8⟩,rfl⟩
theorem dK.aaM {d:dK}(h:d.aam P=true) {n:Nat}{g:G}(p:Ok P n d.variant g):∃x:Variant,g=x.g:=by
 have h0:=h;have e:=dK.aas h;have j:=dK.aar e;have a:=e;simp only[dK.aak,xo] at a;obtain⟨⟨⟨⟨⟨⟨⟨⟨⟨⟨_,k1⟩,t⟩,r⟩,v⟩,k5⟩,k6⟩,y⟩,k8⟩,k9⟩,k10⟩:=a;simp only[dK.aam,xo] at h;obtain⟨⟨⟨⟨⟨⟨⟨⟨⟨⟨h,p1⟩,u⟩,f⟩,s⟩,p5⟩,q⟩,w⟩,p8⟩,p9⟩,k⟩:=h;obtain⟨m,l0,z,rfl,b⟩:=kC f p;obtain⟨g0,l1,rfl,o,c⟩:=aY b;obtain⟨v0,rfl⟩:=yd k1 o;obtain⟨g1,rfl,l⟩:=zn c;obtain⟨v1,rfl⟩:=dK.aaE j l;exact⟨⟨v0,v1⟩,rfl⟩
theorem dK.dat {d:dK}(h:d.aam P=true) {n:Nat}{g:G}(z:Ok P n d.data g):∃x:Data,g=x.g:=by
 have h0:=h;have o:=dK.aas h;have c:=dK.aar o;have a:=o;simp only[dK.aak,xo] at a;obtain⟨⟨⟨⟨⟨⟨⟨⟨⟨⟨_,k1⟩,k2⟩,k3⟩,k4⟩,k5⟩,k6⟩,k7⟩,k8⟩,k9⟩,k10⟩:=a;simp only[dK.aam,xo] at h;obtain⟨⟨⟨⟨⟨⟨⟨⟨⟨⟨h,p1⟩,p2⟩,p3⟩,p⟩,u⟩,p6⟩,p7⟩,p8⟩,p9⟩,t⟩:=h;obtain⟨m,l0,hm,rfl,b⟩:=kC u z;obtain⟨g0,l1,rfl,y,l⟩:=aY b;obtain⟨v0,rfl⟩:=yd k1 y;obtain⟨g1,l2,rfl,v,k⟩:=aY l;obtain⟨v1,rfl⟩:=dK.i c v;obtain⟨g2,l3,rfl,e2,e⟩:=aY k;obtain⟨v2,rfl⟩:=dK.i c e2;obtain⟨g3,l4,rfl,r,j⟩:=aY e;obtain⟨v3,rfl⟩:=eT p r (f:=Variant.g) fun m x _ w=>dK.aaM h0 w;obtain⟨g4,rfl,s⟩:=zn j;obtain⟨q,rfl⟩:=dK.i c s;exact⟨⟨v0,v1,v2,v3,q⟩,rfl⟩
theorem dK.imp {d:dK}(h:d.aam P=true) {n:Nat}{g:G}(hg:Ok P n d.impl g):∃x:Impl,g=x.g:=by
 have h0:=h;have l:=dK.aas h;have b:=dK.aar l;have a:=l;simp only[dK.aak,xo] at a;obtain⟨⟨⟨⟨⟨⟨⟨⟨⟨⟨_,k1⟩,k2⟩,k3⟩,r⟩,k5⟩,k6⟩,k7⟩,k8⟩,k9⟩,k10⟩:=a;simp only[dK.aam,xo] at h;obtain⟨⟨⟨⟨⟨⟨⟨⟨⟨⟨h,p1⟩,p2⟩,p3⟩,p4⟩,p5⟩,p6⟩,s⟩,p8⟩,p9⟩,w⟩:=h;obtain⟨m,l0,hm,rfl,c⟩:=kC s hg;obtain⟨g0,l1,rfl,e0,p⟩:=aY c;obtain⟨v0,rfl⟩:=dK.i b e0;obtain⟨g1,l2,rfl,y,o⟩:=aY p;obtain⟨v1,rfl⟩:=dK.i b y;obtain⟨g2,l3,rfl,e2,e⟩:=aY o;obtain⟨v2,rfl⟩:=dK.i b e2;obtain⟨g3,l4,rfl,u,j⟩:=aY e;obtain⟨v3,rfl⟩:=eT r u (f:=bH.g) fun m x _ z=>dK.bnd l z;obtain⟨g4,l5,rfl,v,k⟩:=aY j;obtain⟨t,rfl⟩:=dK.ty' b v;obtain⟨g5,rfl,e5⟩:=zn k;obtain⟨q,rfl⟩:=dK.i b e5;exact⟨⟨v0,v1,v2,v3,t,q⟩,rfl⟩
theorem dK.prg {d:dK}(h:d.aam P=true) {n:Nat}{g:G}(hg:Ok P n d.prog g):∃x:Prog,g=x.g:=by
 have h0:=h;have s:=dK.aas h;have e:=dK.aar s;have b:=s;simp only[dK.aak,xo] at b;obtain⟨⟨⟨⟨⟨⟨⟨⟨⟨⟨_,k1⟩,v⟩,k3⟩,k4⟩,k5⟩,k6⟩,k7⟩,k8⟩,k9⟩,k10⟩:=b;simp only[dK.aam,xo] at h;obtain⟨⟨⟨⟨⟨⟨⟨⟨⟨⟨h,w⟩,p2⟩,p3⟩,p4⟩,p5⟩,p6⟩,p7⟩,p8⟩,p9⟩,r⟩:=h;obtain⟨m,l0,hm,rfl,c⟩:=kC r hg;obtain⟨g0,l1,rfl,e0,u⟩:=aY c;obtain⟨v0,rfl⟩:=eT w e0 (f:=G.str) fun m x _ a=>yd k1 a;obtain⟨g1,l2,rfl,e1,t⟩:=aY u;obtain⟨v1,rfl⟩:=eT p2 e1 (f:=fun(l:List Int)=>G.sl 1 (l.map I)) fun m x _ a=>eT v a (f:=I) fun m x _ a=>dK.i e a;obtain⟨g2,l3,rfl,y,k⟩:=aY t;obtain⟨v2,rfl⟩:=eT p6 y (f:=Data.g) fun m x _ a=>dK.dat h0 a;obtain⟨g3,l4,rfl,e3,o⟩:=aY k;obtain⟨v3,rfl⟩:=eT w e3 (f:=G.str) fun m x _ a=>yd k1 a;obtain⟨g4,l5,rfl,e4,q⟩:=aY o;obtain⟨v4,rfl⟩:=eT v e4 (f:=I) fun m x _ a=>dK.i e a;obtain⟨g5,l6,rfl,e5,p⟩:=aY q;obtain⟨z,rfl⟩:=eT p8 e5 (f:=Impl.g) fun m x _ a=>dK.imp h0 a;obtain⟨g6,l7,rfl,e6,j⟩:=aY p;obtain⟨v6,rfl⟩:=eT p9 e6 (f:=NY.g) fun m x _ a=>dK.fn s a;obtain⟨g7,rfl,e7⟩:=zn j;obtain⟨v7,rfl⟩:=dK.i e e7;exact⟨⟨v0,v1,v2,v3,v4,z,v6,v7⟩,rfl⟩
end
end Api
end Go.Fr
namespace Go.Fr.T
open Go Go.RowKit Go.Fr
mutual
def qV:G->List C
 | .int k n=>[.int k n]
 | .bool b=>[.bool b]
 | .str s=>[.str s]
 | .sl _ l=>[.sl (rX l)]
 | .st l=>kW l
def rX:List G->List (List C)
 | []=>[]
 | x::l=>qV x::rX l
def kW:List G->List C
 | []=>[]
 | x::l=>qV x++kW l
end
theorem ye:∀l:List G,rX l=l.map qV
 | []=>rfl
 | x::l=>by simp only[rX,aaW,ye l]
theorem BS {a b:List C}(h:eG a=true) (k:eG b=true):eG (a++b)=true:=by
 rw[nC] at *;intro c d;rcases aaU.1 d with d | d
 ·exact h c d
 ·exact k c d
mutual
theorem BU {F:au}:∀{g:G}{cs:List Value},Rd F g cs->g.bulk<=maxLen->ay F [] (qV g) cs/\eG (qV g)=true
 | .int k n,cs,h,hb=>by
  simp only[Rd] at h;obtain⟨rfl,h⟩:=h;simp only[qV,ay,Rel];exact⟨⟨_,_,rfl,⟨rfl,h⟩,rfl⟩,rfl⟩
 | .bool b,cs,h,hb=>by
  simp only[Rd] at h;subst h;simp only[qV,ay,Rel];exact⟨⟨_,_,rfl,rfl,rfl⟩,rfl⟩
 | .str s,cs,h,hb=>by
  simp only[Rd] at h;subst h;simp only[G.bulk] at hb;simp only[qV,ay,Rel];exact⟨⟨_,_,rfl,⟨rfl,by omega⟩,rfl⟩,rfl⟩
 | .sl sz l,cs,h,hb=>by
  simp only[Rd] at h;obtain⟨a,c,rfl,h1,h2,h3,h4⟩:=h;simp only[G.bulk] at hb;have hl:(rX l).length=l.length:=by simp[ye]
  simp only[qV,ay,Rel];refine⟨⟨_,_,rfl,⟨a,c,by rw[hl],by rw[hl];exact h1,by rw[hl];omega,fun e=>?_,sz,Am h4 (by omega)⟩,rfl⟩,rfl⟩;obtain⟨e1,e2⟩:=h3 e;subst e1;exact⟨rfl,e2⟩
 | .st l,cs,h,hb=>by
  simp only[Rd] at h;simp only[G.bulk] at hb;simp only[qV];exact yg h (by omega)
theorem Am {F:au}{a:Option Addr}{sz:Nat}:∀{i:Nat}{l:List G},sV F a sz i l->G.aai l<=maxLen->gu F a sz i (rX l)
 | _,[],_,_=>by simp only[rX,gu]
 | i,x::l,h,hb=>by
  simp only[sV] at h;obtain⟨⟨es,h1,h2,h3⟩,h4⟩:=h;simp only[G.aai] at hb;obtain⟨r1,r2⟩:=BU h3 (by omega);simp only[rX,gu];exact⟨⟨es,h1,h2,r2,r1⟩,Am h4 (by omega)⟩
theorem yg {F:au}:∀{l:List G}{cs:List Value},lT F l cs->G.aai l<=maxLen->ay F [] (kW l) cs/\eG (kW l)=true
 | [],cs,h,_=>by simp only[lT] at h;subst h;simp only[kW,ay];exact⟨trivial,rfl⟩
 | x::l,cs,h,hb=>by
  simp only[lT] at h;obtain⟨c1,c2,rfl,h1,h2⟩:=h;simp only[G.aai] at hb;obtain⟨r1,r2⟩:=BU h1 (by omega);obtain⟨q1,q2⟩:=yg h2 (by omega);simp only[kW];exact⟨r1.append q1,BS r2 q2⟩
end
open Api
abbrev IC (n:Int):C:=.int .i64 n
def HO (l:List Int):List (List C):=l.map fun n=>[IC n]
def Ku (l:List ByteArray):List (List C):=l.map fun s=>[C.str s]
mutual
def aG:Ty->List C
 | .mk k i l=>[IC k,IC i,.sl (HT l)]
def HT:List Ty->List (List C)
 | []=>[]
 | t::l=>aG t::HT l
end
theorem Dy:∀l:List Ty,HT l=l.map aG
 | []=>rfl
 | t::l=>by simp only[HT,aaW,Dy l]
theorem f8 (t:Ty):aG t=[IC t.kind,IC t.id,.sl (t.args.map aG)]:=by
 cases t;simp only[aG,Dy,Ty.kind,Ty.id,Ty.args]
def bP (b:bH):List C:=[IC b.param,IC b.trait]
def Kv (x:Term):List C:=[IC x.kind,IC x.a,.sl (HO x.targets)]
def QN (x:NX):List C:=[IC x.op,IC x.dst,IC x.a,IC x.b,IC x.n,.sl (HO x.args),.sl (x.types.map aG)]
def EV (x:Block):List C:=[.sl (x.code.map QN),IC x.fin.kind,IC x.fin.a,.sl (HO x.fin.targets)]
def QO (f:NY):List C:=[.str f.name,IC f.module,IC f.params,.sl (f.bounds.map bP),IC f.arity,IC f.result.kind,IC f.result.id,.sl (f.result.args.map aG),.sl (f.locals.map aG),.sl (f.blocks.map EV),.sl (HO f.ties)]
def tK (x:Variant):List C:=[.str x.name,.sl (x.fields.map aG)]
def nO (d:Api.Data):List C:=[.str d.name,IC d.module,IC d.params,.sl (d.variants.map tK),IC d.drop]
def dF (x:Impl):List C:=[IC x.trait,IC x.module,IC x.params,.sl (x.bounds.map bP),IC x.type.kind,IC x.type.id,.sl (x.type.args.map aG),IC x.func]
def jT (p:Prog):List C:=[.sl (Ku p.modules),.sl (p.uses.map fun l=>[.sl (HO l)]),.sl (p.datas.map nO),.sl (Ku p.traits),.sl (HO p.homes),.sl (p.impls.map dF),.sl (p.funcs.map QO),IC p.main]
theorem iZ {a:Type}{f:a->G}{h:a->List C}(b:∀x,qV (f x)=h x) (l:List a):rX (l.map f)=l.map h:=by
 rw[ye,abQ];exact abU fun x _=>b x
theorem yh (l:List Int):rX (l.map I)=HO l:=iZ (fun _=>rfl) l
theorem QR (l:List ByteArray):rX (l.map .str)=Ku l:=iZ (fun _=>rfl) l
mutual
theorem yj:∀t:Ty,qV t.g=aG t
 | .mk k i l=>by simp only[Ty.g,qV,kW,aG,Gg l,abm,aa2,abp]
theorem Gg:∀l:List Ty,rX (Ty.gs l)=HT l
 | []=>rfl
 | t::l=>by simp only[Ty.gs,rX,HT,yj t,Gg l]
end
theorem BV (l:List Ty):rX (l.map Ty.g)=l.map aG:=iZ yj l
theorem Ao (b:bH):qV b.g=bP b:=rfl
theorem Kw (x:Term):qV x.g=Kv x:=by simp only[Term.g,qV,kW,Kv,yh,abm,aa2,abp]
theorem NZ (x:NX):qV x.g=QN x:=by simp only[NX.g,qV,kW,QN,yh,BV,abm,aa2,abp]
theorem HU (x:Block):qV x.g=EV x:=by simp only[Block.g,qV,kW,EV,Kw,Kv,iZ NZ,abm,aa2,abp]
theorem N0 (f:NY):qV f.g=QO f:=by simp only[NY.g,qV,kW,QO,yj,f8,BV,yh,iZ Ao,iZ HU,abm,aa2,abp]
theorem Dz (x:Variant):qV x.g=tK x:=by simp only[Variant.g,qV,kW,tK,BV,abm,aa2,abp]
theorem Kx (x:Api.Data):qV x.g=nO x:=by simp only[Data.g,qV,kW,nO,iZ Dz,abm,aa2,abp]
theorem DA (x:Impl):qV x.g=dF x:=by simp only[Impl.g,qV,kW,dF,yj,f8,iZ Ao,abm,aa2,abp]
theorem Ky (x:Prog):qV x.g=jT x:=by
 simp only[Prog.g,qV,kW,jT,yh,QR,iZ Kx,iZ DA,iZ N0,abm,aa2,abp];rw[iZ (f:=fun l=>G.sl 1 (l.map I)) (h:=fun l=>[C.sl (HO l)]) (fun l=>by simp only[qV,yh])]
theorem cH {l:List Ty}{k:Nat}{x:Ty}{K:List C->Prop}(a:l[k]?=some x) (h:K [IC x.kind,IC x.id,.sl (x.args.map aG)]):uE (l.map aG) (k:Int) 3 K:=EO a (f8 x) rfl h
end Go.Fr.T
namespace Go.Fr.T
open Go Go.RowKit Go.Fr Go.ChangeShapes Go.WideShapes Go.ChangeAt
def yp:G->C
 | .int k n=>.int k n
 | .bool b=>.bool b
 | .str s=>.str s
 | .sl _ l=>.sl (rX l)
 | .st l=>.agg (kW l)
def Py (P:Program):List TypeId->List G->Prop
 | [],[]=>True
 | t::ts,g::gs=>(∃n,Ok P n t g)/\Py P ts gs
 | _,_=>False
section
variable {H:Type}{enc:TypeId×Value->H}{P:Program}{W:World}
theorem tL {F:au}{L:Loc}{c:C}{v:Value}(h:ay F L [c] [v]):Rel F L c v:=by
 simp only[ay] at h;obtain⟨x,y,e,h1,a⟩:=h;injection e with e1 e2
 subst e1;exact h1
theorem N8 {S:List TypeId}(hS:flat P S=true) {t:TypeId}(u:t∈S) {r:Reach}{z:Nat}{sp:Nat->Bool}{x:Bool}{v:Value}{d:DataW H}{ps:List MemPlace}(f:Value.okWide P W r z t v)
  (h:DataW.Trod enc P W 0 sp x t v d ps) (hb:ic d<=maxLen):∃n g,Ok P n t g/\Rel (qg W) [] (yp g) v/\g.bulk<=ic d:=by
 obtain⟨o,h⟩:=h;obtain⟨g,h1,y,w⟩:=NW hS o t _ _ u h;refine⟨o,g,h1,?_,w⟩;have p:=(BU y (abz w hb)).1;have s:=aaY.1 hS t u;cases o with
 | zero=>exact h1.elim
 | succ n =>
 simp only[Ks] at s;simp only[Ok] at h1;split at s
 ·rename_i j;obtain⟨b,rfl⟩:=okWide_bool j f;simp only[j] at h1;obtain⟨q,rfl⟩:=h1;exact tL p
 ·rename_i k j;obtain⟨m,rfl⟩:=okWide_int j f;simp only[j] at h1;obtain⟨q,rfl,_⟩:=h1;exact tL p
 ·rename_i j;obtain⟨m,rfl⟩:=okWide_string j f;simp only[j] at h1;obtain⟨q,rfl⟩:=h1;exact tL p
 ·rename_i e j;obtain⟨a,l,c,rfl⟩:=okWide_slice j f;simp only[j] at h1;obtain⟨q,rfl,_⟩:=h1;exact tL p
 ·rename_i fs j;simp only[Value.okWide,j] at f;obtain⟨cs,rfl,_,_⟩:=f;simp only[j] at h1;obtain⟨l,rfl,_⟩:=h1;simp only[yp,Rel];exact⟨cs.toList,by simp,p⟩
 ·cases s
theorem Ap {S:List TypeId}(hS:flat P S=true) {r:Reach}{o:Nat}{u:Nat->Bool}{k:Bool}:∀{ts:List TypeId}{a:List Value}{ds:List (DataW H)}{ps:List MemPlace},(∀t∈ts,t∈S) ->
  (∀(j:Nat) t v,ts[j]?=some t->a[j]?=some v->Value.okWide P W r o t v)->DataW.TrodAll enc P W 0 u k ts a ds ps->d9 ds<=maxLen ->
  ∃gs,Py P ts gs/\ay (qg W) [] (gs.map yp) a/\G.aai gs<=d9 ds
 | [],[],[],_,_,_,_,_=>⟨[],trivial,by simp only[abv,ay],by simp[G.aai]⟩
 | t::ts,v::a,d::ds,ps,f,e,⟨p,q,h1,m,_⟩,hb=>by
  simp only[d9] at hb ⊢;obtain⟨n,g,s,w,y⟩:=N8 hS (f t (by simp)) (e 0 t v rfl rfl) h1 (by omega);obtain⟨gs,k1,l,x⟩:=Ap hS (fun t c=>f t (by simp[c])) (fun j t v c b=>e (j+1) t v (by simpa using c) (by simpa using b)) m (by omega);refine⟨g::gs,⟨⟨n,s⟩,k1⟩,?_,by simp only[G.aai];omega⟩;simp only[aaW,ay];exact⟨v,a,rfl,w,l⟩
 | [],_::_,_,_,_,_,h,_=>h.elim
 | [],[],_::_,_,_,_,h,_=>h.elim
 | _::_,[],_,_,_,_,h,_=>h.elim
 | _::_,_::_,[],_,_,_,h,_=>h.elim
theorem zo {ts:List TypeId}(m:laidOutB P=true) (c:ts.all (fun t=>P.readableRec t&&decide (t<P.types.size))=true) {W':World}(hb:Below W.heap.size W W') {j:Nat->Bool} :
  ∀{a:List Value}{ds:List (DataW H)}{ps:List MemPlace},DataW.TrodAll enc P W 0 (fun _=>true) true ts a ds ps->(∀x∈ps,x.block<W.heap.size)->(∀x∈ps,j x.block=true)->DataW.TrodAll enc P W' 0 j true ts a ds ps:=by
 induction ts with
 | nil =>
  intro a ds ps h _ _
  match a,ds,h with
  | [],[],h=>exact h
 | cons t ts k =>
  intro a ds ps h h1 f
  match a,ds,h with
  | v::a,d::ds,⟨p,q,k1,l,e⟩ =>
   subst e;simp only[abd,xo,aaZ] at c;refine⟨p,q,WideElems.Trod_stays m c.1.1 c.1.2 k1 (fun x b=>hb.same (h1 x (by simp[b]))) (fun x b=>f x (by simp[b])),k (by simpa using c.2) l (fun x b=>h1 x (by simp[b])) (fun x b=>f x (by simp[b])),rfl⟩
theorem zp {f:Func}{s:ChangeSpec}{W W':World}{args:Array Value}{v:Value}{ds gs:List (DataW H)}{a pa pv:List MemPlace}
  (o:DataW.Whole enc P f.params.toList s.vars false W args.toList ds gs a)
  (k:∀(b:Nat) (m:Nat->Bool) (w:Bool),DataW.TrodAll enc P W' b m w f.resultTypes.toList (v.resultList f.resultTypes.size) (s.fn H (ds++gs)).results [])
  (e:∀m:Nat->Bool,(∀p∈a,m p.block=true)->DataW.TrodAll enc P W' 0 m true f.params.toList args.toList (s.fn H (ds++gs)).args pa)
  (c:∀m:Nat->Bool,(∀p∈a,m p.block=true)->DataW.TrodVars enc P W' m s.vars (s.fn H (ds++gs)).vars pv)
  (l:a=pa++pv) (hb:Below W.heap.size W W')
  (q:∀(j:Nat) (t:TypeId) (r:Value),f.resultTypes[j]?=some t->(v.resultList f.resultTypes.size)[j]?=some r->Value.okWide P W' .any 0 t r) :
  s.post enc P f false true false false W args v W':=by
 have h:∀p∈a,(fun b=>decide (b<W.heap.size)) p.block=true:=fun p d=>by simpa using o.lt p d
 have u:∀p∈a,p.block<W.heap.size:=fun p d=>o.lt p d;refine⟨ds,gs,a,[],pa,pv,o,k _ _ _,e _ h,c _ h,World.keptBut_mono (fun p d=>⟨d,?_⟩) (hb.frame (·∈a)),fun _=>?_⟩
 ·rw[l,aaU] at d;exact Or.inr d
 ·obtain⟨_,_,_,_,_,y,z⟩:=o;refine⟨q,_,_,([]++pa)++pv,⟨[]++pa,pv,trodAll_append (e _ (fun _ _=>rfl)) (k _ _ _),c _ (fun _ _=>rfl),rfl,?_,?_⟩,?_⟩
  ·intro b off d;have n:MemPlace.cell b off∈a:=by rw[l];simpa using d
   rw[hb.frozen (p:=⟨b,off,none⟩) (u _ n)];exact y b off n
  ·intro x;cases x
  ·intro p d _;rw[l];simpa using d
theorem entry {f:FuncId}{ts:List TypeId}{S:List TypeId}(hS:flat P S=true) (u:∀t∈ts,t∈S) {r:Reach}{x:Nat}{args:Array Value}{ds:List (DataW H)}{ps:List MemPlace}
  (d:∀(j:Nat) t v,ts[j]?=some t->args.toList[j]?=some v->Value.okWide P W r x t v) (h:DataW.TrodAll enc P W 0 (fun _=>true) true ts args.toList ds ps) (m:d9 ds<=1048576)
  (w:sG (qg W)) (law:∀gs,Py P ts gs->G.aai gs<=1048576->CallsT P f (gs.map yp) [] (aT [] (.bool true))) :
  Calls P f args W fun e W'=>e=.returned (.bool true)/\Below W.heap.size W W':=by
 obtain⟨gs,k1,q,z⟩:=Ap hS u d h (abz m (by decide));have s:=(law gs k1 (by omega)).out (qg W) [] args.toList rfl (fun k=>by rw[show(inp []).get k=none from rfl,show(cD []).get k=none from rfl];trivial) q;have l:∀k,(inp []).get k=none:=fun _=>rfl;have n:St (qg W) (inp []) W:=⟨fun b o h=>h,fun k o h=>(by rw[l] at h;cases h),fun k o g h=>(by rw[l] at h;cases h),fun k k' o o' g h=>(by rw[l] at h;cases h),w⟩;refine Calls.mono (s.run W n) ?_;rintro e W' ⟨v,F',Lo,rfl,hs,a,Mo,c,q1,q2,p,y,rfl,rfl⟩;simp only[Rel] at p;subst p;exact⟨rfl,a.os,a.tape,a.output,a.size,fun k m=>a.same k m (by rintro⟨_,_,h,_⟩;cases h)⟩
theorem zq {f:FuncId}{fn:Func}{s:ChangeSpec}{S:List TypeId}{tb:TypeId}(hl:laidOutB P=true) (hS:flat P S=true) (hm:fn.params.toList.all (fun t=>S.contains t&&(P.readableRec t&&decide (t<P.types.size)))=true)
  (d:fn.resultTypes=#[tb]) (o:P.underlying tb=some .bool) (a:s.vars=[])
  (law:∀gs,Py P fn.params.toList gs->G.aai gs<=1048576->CallsT P f (gs.map yp) [] (aT [] (.bool true)))
  {r:Reach}{b0:Nat}{args:Array Value}{ds gs:List (DataW H)}{c:List MemPlace}(h:s.fn H ds={results:=[.lit (.bool true)],args:=ds})
  (n:∀(j:Nat) t v,fn.params[j]?=some t->args[j]?=some v->Value.okWide P W r b0 t v)
  (u:DataW.Whole enc P fn.params.toList s.vars false W args.toList ds gs c) (hk:d9 ds<=1048576) (hG:sG (qg W):=by exact trivial) :
  Calls P f args W fun e W'=>∃v,e=.returned v/\s.post enc P fn false true false false W args v W':=by
 have k:=u;rw[a] at u;obtain⟨p,q,hA,hV,rfl,am,ab⟩:=u;obtain⟨rfl,rfl⟩:=trodVars_none hV;have m:=aaY.1 hm;refine(entry hS (fun t w=>by have:=m t w;simp only[xo,List.contains_iff_mem] at this;exact this.1) (fun j t v h1 h2=>n j t v (by simpa using h1) (by simpa using h2)) hA hk hG law).mono ?_;rintro e W' ⟨rfl,hb⟩;refine⟨_,rfl,zp (pa:=p) (pv:=[]) k ?_ ?_ ?_ rfl hb (ok_one d rfl (okWide_bool_mk o _))⟩
 ·intro b z hd;simp only[abm,h,d];exact trodAll_cons_mk (shut_bool o _) trodAll_mk0
 ·intro z l;simp only[abm,h];exact zo hl (aaY.2 fun t w=>by have:=m t w;simp only[xo] at this ⊢;exact this.2) hb hA (fun x y=>k.lt x (by simp[y])) (fun x y=>l x (by simp[y]))
 ·intro z l;rw[a];simp only[abm,h];exact rfl
end
end Go.Fr.T
namespace Go.Fr.T
open Go Go.RowKit Go.Fr Go.Fr.Api
theorem tM {P:Program}{t:TypeId}{ts:List TypeId}{gs:List G}(h:Py P (t::ts) gs):∃g r n,gs=g::r/\Ok P n t g/\Py P ts r:=by
 cases gs with
 | nil=>exact h.elim
 | cons g r=>obtain⟨⟨n,h1⟩,a⟩:=h;exact⟨g,r,n,rfl,h1,a⟩
theorem N9 {P:Program}{gs:List G}(h:Py P [] gs):gs=[]:=by
 cases gs with
 | nil=>rfl
 | cons g r=>exact h.elim
theorem BW {l:List G}:yp (.st l)=.agg (qV (.st l)):=by simp only[yp,qV]
theorem Oa (x:Ty):yp x.g=.agg (aG x):=by
 rw[<-yj];cases x;exact BW
theorem HV (x:Prog):yp x.g=.agg (jT x):=by
 rw[<-Ky];exact BW
theorem vP {a:Sort _}{p:a->Prop}{K:Prop}(h:∃x,p x) (H:∀x,p x->K):K:=h.elim H
theorem fM {a:Type}{l:List a}{k:Nat}{K:Prop}(h:k<l.length) (H:∀x,l[k]?=some x->x∈l->K):K:=H l[k] (aaN h) (List.getElem_mem h)
theorem aW {a:Type}{l:List a}{k:Nat}{K:Prop}(h:k<l.length) (H:∀x,l[k]?=some x->x∈l->l.drop k=x::l.drop (k+1)->K):K:=H l[k] (aaN h) (List.getElem_mem h) (List.drop_eq_getElem_cons h)
section
variable {P:Program}{L:TL}{ρ:aK}
def Such (p:Prop):List TO->C->Prop:=fun Mo v=>Mo=[]/\∃b,v=.bool b/\(b=true->p)
theorem Sq {Lin:List TO}{v:C}{p:Prop}(b:Bool) (hb:aI Lin (List.range' 1000 Lin.length) []=true) (e:v.aat.ren (bh [] 1000)=.bool b) (a:b=true->p):f9 Lin L v (Such p) :=
 ⟨[],[],L,v,v,[],rfl,.inl ⟨rfl,rfl⟩,rfl,rfl,hb,fun _=>⟨rfl,b,e,a⟩⟩
end
end Go.Fr.T
namespace Go.Fr.T
open Go Go.RowKit Go.Fr
end Go.Fr.T
