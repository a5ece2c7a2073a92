/- Part of the proofs of the statements of this seat. -/
import Derived.Test.YtnlegbokpofcaaaGreatDoorSpA1G
import Derived.Test.YtnlegbokpofcaaaGreatDoorSpE8G
import Derived.Test.YtnlegbokpofcaaaGreatDoorSpIds
import Derived.Test.YtnlegbokpofcaaaGreatDoorSpP6G
import Derived.Test.YtnlegbokpofcaaaGreatDoorSpW1G
import Derived.Test.YtnlegbokpofcaaaGreatDoorSpP2G
import Derived.Deep.DeepWitnessRowRef
set_option maxRecDepth 10000
set_option linter.unusedVariables false
set_option linter.unusedSimpArgs false
namespace Go.Fr.Tryz
open Go Go.RowKit Go.Proofs Go.Fr Go.Fr.T Go.Fr.Api
mutual
/-- all numbers are those of their kinds -/
def AG:G->Prop
 | .int k x=>(Lit.int k x).wf=true
 | .bool _=>True
 | .str _=>True
 | .sl _ l=>rf l
 | .st l=>rf l
def rf:List G->Prop
 | []=>True
 | x::l=>AG x/\rf l
end
theorem DN:∀{l:List G},(∀x∈l,AG x)->rf l
 | [],_=>trivial
 | x::l,h=>⟨h x (List.mem_cons_self ..),DN fun y a=>h y (adb _ a)⟩
theorem FU:∀{l:List G}{x:G},rf l->x∈l->AG x
 | y::l,x,h,a=>by
  rcases acQ.1 a with rfl | a
  ·exact h.1
  ·exact FU h.2 a
theorem DP {P:Program}:∀(n:Nat) (t:TypeId) (g:G),Ok P n t g->AG g
 | 0,t,g,h=>h.elim
 | n+1,t,g,h=>by
  unfold Ok at h;split at h
  ·obtain⟨b,rfl⟩:=h;exact trivial
  ·obtain⟨x,rfl,h⟩:=h;exact h
  ·obtain⟨s,rfl⟩:=h;exact trivial
  ·obtain⟨l,rfl,h⟩:=h;exact DN fun x a=>DP n _ x (h x a)
  ·rename_i fs _;obtain⟨l,rfl,e,h⟩:=h;refine DN fun x a=>?_;obtain⟨i,hi⟩:=List.getElem?_of_mem a;have c:=(acP.1 hi).1;have d:fs[i]?=some fs[i]:=Array.getElem?_eq_getElem (by omega);exact DP n _ x (h i _ x d hi)
  ·exact h.elim
def i64 (n:Int):Prop:=-9223372036854775808<=n/\n<=9223372036854775807
theorem Tx {n:Int}(h:AG (I n)):i64 n:=wf_i64 h
theorem NW:∀{l:List Int},rf (l.map I)->∀n∈l,i64 n
 | m::l,h,n,a=>by
  rcases acQ.1 a with rfl | a
  ·exact Tx h.1
  ·exact NW h.2 n a
theorem wI {n:Int}(h:(Lit.int .i64 n).wf=true):i64 n:=wf_i64 h
theorem Tz:∀n∈([]:List Int),i64 n:=fun n h=>by cases h
theorem ai {a:Int}{l:List Int}(h:i64 a) (t:∀n∈l,i64 n):∀n∈a::l,i64 n:=List.forall_mem_cons.2 ⟨h,t⟩
structure Wj (k:Kd):Prop where
 num:∀n,i64 n->(k.num n).1.length<=10
 siz:∀n:Nat,n<=1099511627776->(k.siz n).1.length<=10
theorem NX {n:Int}(h:i64 n):zz n<128 ^ (9+1):=by
 obtain⟨a,b⟩:=h;have:zz n<18446744073709551616:=by unfold zz;split<;>omega
 exact adP this (by decide)
theorem ab4:Wj kW where
 num n h:=vQ 9 _ (NX h)
 siz n h:=vQ 9 _ (NX ⟨by omega,by omega⟩)
theorem Je (n:Int):(AQ n).length=8:=by unfold AQ;rw[ac1,List.length_range]
theorem XY:Wj kL where
 num n h:=by show(AQ n).length<=10;rw[Je];omega
 siz n h:=by show(AQ n).length<=10;rw[Je];omega
theorem NY (g:G):1<=g.bulk:=by cases g<;>simp only[G.bulk]<;>omega
theorem yQ {a:Type}(g:a->G):∀l:List a,l.length<=G.aaL (l.map g)
 | []=>by simp
 | x::l=>by
  have:=NY (g x);have:=yQ g l;simp only[acU,G.aaL,xo];omega
theorem iE {a:Type}{g:a->G}:∀{l:List a}{x:a},x∈l->(g x).bulk<=G.aaL (l.map g)
 | y::l,x,h=>by
  rcases acQ.1 h with rfl | h
  ·simp only[acU,G.aaL];omega
  ·have:=iE (g:=g) h;simp only[acU,G.aaL];omega
theorem oE (a b:Enc):(br a b).1.length=a.1.length+b.1.length:=by rw[gq,yo]
theorem NZ {a:Type}{f:a->Enc}{g:a->G}:∀{l:List a},(∀x∈l,(f x).1.length<=10*(g x).bulk)->(aL f l).1.length<=10*G.aaL (l.map g)
 | [],_=>by simp[aL,wJ]
 | x::l,h=>by
  have c:=h x (List.mem_cons_self ..);have d:=NZ fun y b=>h y (adb _ b);rw[aL,oE];simp only[acU,G.aaL];omega
theorem gm {a:Type}{g:a->G}{l:List a}{x:a}(c:rf (l.map g)) (b:x∈l):AG (g x):=FU c (List.mem_map_of_mem b)
section
variable {k:Kd}(hk:Wj k)
include hk
theorem XZ (b:Bool):(iS k b).1.length<=10:=hk.num _ (by cases b<;>exact⟨by decide,by decide⟩)
theorem qJ:∀{l:List Int},(∀n∈l,i64 n)->(aL k.num l).1.length<=10*l.length
 | [],_=>by simp[aL,wJ]
 | x::l,h=>by
  have b:=hk.num x (h x (List.mem_cons_self ..));have c:=qJ fun y a=>h y (adb _ a);rw[aL,oE,xo];omega
theorem AH:∀l:List Bool,(aL (iS k) l).1.length<=10*l.length
 | []=>by simp[aL,wJ]
 | x::l=>by
  have a:=XZ hk x;have b:=AH l;rw[aL,oE,xo];omega
theorem qK {a:Type}{f:a->Enc}{g:a->G}{sz:Nat}{l:List a}(hb:(G.sl sz (l.map g)).bulk<=1099511627776) (h:∀x∈l,(f x).1.length<=10*(g x).bulk):(bI k f l).1.length<=10*(G.sl sz (l.map g)).bulk:=by
 simp only[G.bulk] at hb ⊢;have b:=yQ g l;have c:=hk.siz l.length (by omega);have d:=NZ h;rw[bI,oE];omega
theorem DQ {l:List Int}(b:rf (l.map I)) (hb:(G.sl 1 (l.map I)).bulk<=1099511627776):(bI k k.num l).1.length<=10*(G.sl 1 (l.map I)).bulk :=
 qK hk hb fun x a=>hk.num x (NW b x a)
end
mutual
theorem X0 {k:Kd}(hk:Wj k):∀(v:Vl) (d:Int),AG (nC v)->(nC v).bulk<=1099511627776->(ni k v d).1.length<=10*(nC v).bulk
 | .mk a b c n f e p l,d,hw,hb=>by
  simp only[nC,AG,rf] at hw;obtain⟨wa,wb,wc,wn,wf,_,wp,wl,_⟩:=hw;simp only[nC,G.bulk,G.aaL] at hb ⊢;have h1:=qJ hk (l:=[a,b,c,n]) (ai (wI (wa)) (ai (wI (wb)) (ai (wI (wc)) (ai (wI (wn)) Tz))));have h2:=TA hk f (d-1) wf (by omega);have hfl:f.length<=G.aaL (sJ f):=by rw[sK];exact yQ nC f
  have h3:=hk.siz f.length (by omega);have h4:=AH hk [e];have h5:=DQ hk wp (by simp only[G.bulk];omega);have h6:=DQ hk wl (by simp only[G.bulk];omega);simp only[G.bulk] at h5 h6;have e1:(I a).bulk=1:=rfl;have e2:(I b).bulk=1:=rfl;have e3:(I c).bulk=1:=rfl;have e4:(I n).bulk=1:=rfl;simp only[xo,acV] at h1 h4;rw[ni];simp only[oE,sj,acV];omega
theorem TA {k:Kd}(hk:Wj k):∀(l:List Vl) (d:Int),rf (sJ l)->G.aaL (sJ l)<=1099511627776->(vN k l d).1.length<=10*G.aaL (sJ l)
 | [],d,_,_=>by simp[vN,wJ]
 | x::xs,d,hw,hb=>by
  simp only[sJ,rf] at hw;simp only[sJ,G.aaL] at hb ⊢;have h1:=X0 hk x d hw.1 (by omega);have h2:=TA hk xs d hw.2 (by omega);rw[vN,oE];omega
end
section
variable {k:Kd}(hk:Wj k)
include hk
theorem N0 (v:Vl) (a:AG (nC v)) (hb:(nC v).bulk<=1099511627776):(oQ k v).1.length<=10*(nC v).bulk:=X0 hk v 60 a hb
theorem X1 (l:List Vl) (b:AG (vW l)) (hb:(vW l).bulk<=1099511627776):(GU k l).1.length<=10*(vW l).bulk:=by
 refine qK hk (g:=nC) (sz:=8) hb fun x a=>N0 hk x (gm b a) ?_;have:=iE (g:=nC) a;simp only[vW,G.bulk] at hb;omega
theorem ab5 (x:Ce) (a:AG (xK x)) (hb:(xK x).bulk<=1099511627776):(Fp k x).1.length<=10*(xK x).bulk:=by
 simp only[xK,AG,rf] at a;simp only[xK,G.bulk,G.aaL] at hb ⊢;have b:=AH hk [x.live];have c:=qJ hk (l:=[x.arena]) (ai (wI a.2.1) Tz);have d:=N0 hk x.value a.2.2.1 (by omega);have e:(I x.arena).bulk=1:=rfl;simp only[xo,acV] at b c;rw[Fp];simp only[oE];omega
theorem ab6 (x:Ac) (a:AG (yO x)) (hb:(yO x).bulk<=1099511627776):(Fq k x).1.length<=10*(yO x).bulk:=by
 simp only[yO,AG,rf] at a;obtain⟨j,e,f,m,c,d,n,_⟩:=a;simp only[yO,G.bulk,G.aaL] at hb ⊢;have b:=qJ hk (l:=[x.number,x.routine,x.block,x.index,x.dst]) (ai (wI (j)) (ai (wI (e)) (ai (wI (f)) (ai (wI (m)) (ai (wI (c)) Tz)))));have o:=X1 hk x.slots d (by omega);have h:=DQ hk n (by simp only[G.bulk];omega);simp only[G.bulk] at h;simp only[xo,acV] at b;rw[Fq];simp only[oE];omega
theorem ab7 (x:Ln) (a:AG (DK x)):(Fs k x).1.length<=10*(DK x).bulk:=by
 simp only[DK,AG,rf] at a;simp only[DK,G.bulk,G.aaL];have b:=qJ hk (l:=[x.frame,x.slot]) (ai (wI (a.1)) (ai (wI (a.2.1)) Tz));have c:=AH hk [x.excl,x.re,x.over];simp only[xo,acV] at b c;rw[Fs];simp only[oE];omega
theorem ab8 (x:Tk) (b:AG (wP x)) (hb:(wP x).bulk<=1099511627776):(Du k x).1.length<=10*(wP x).bulk:=by
 simp only[wP,AG,rf] at b;obtain⟨p,m,n,q,h,j,s,_⟩:=b;simp only[wP,G.bulk,G.aaL] at hb ⊢;have c:=qJ hk (l:=[x.state]) (ai (wI p) Tz);have d:=qK hk (f:=Fq k) (g:=yO) (sz:=7) (l:=x.frames) (by simp only[G.bulk];omega) fun y a=>ab6 hk y (gm m a) (by have:=iE (g:=yO) a;omega);have o:=qK hk (f:=Fs k) (g:=DK) (sz:=5) (l:=x.loans) (by simp only[G.bulk];omega) fun y a=>ab7 hk y (gm n a);have e:=qJ hk (l:=[x.allocs,x.clock,x.next]) (ai (wI (q)) (ai (wI (h)) (ai (wI (j)) Tz)));have r:=DQ hk s (by simp only[G.bulk];omega);simp only[G.bulk] at d o r;simp only[xo,acV] at c e;rw[Du];simp only[oE];omega
theorem ab9 (x:Ou) (a:AG (Cz x)):(F9 k x).1.length<=10*(Cz x).bulk:=by
 simp only[Cz,AG,rf] at a;simp only[Cz,G.bulk,G.aaL];have b:=qJ hk (l:=[x.task,x.number]) (ai (wI (a.1)) (ai (wI (a.2.1)) Tz));simp only[xo,acV] at b;rw[F9];omega
theorem VD (i:uQ) (x:Wd) (b:AG (yP i x)) (hb:(yP i x).bulk<=1099511627776):(mQ k x).1.length<=10*(yP i x).bulk:=by
 simp only[yP,AG,rf] at b;obtain⟨_,⟨o,u,_⟩,e,m,j,d,h,r,_⟩:=b;simp only[yP,G.bulk,G.aaL] at hb ⊢;have q:=qK hk (f:=Fp k) (g:=xK) (sz:=10) (l:=x.cells) (by simp only[G.bulk];omega) fun y a=>ab5 hk y (gm o a) (by have:=iE (g:=xK) a;omega);have c:=qK hk (f:=Iy k) (g:=G.bool) (sz:=1) (l:=x.arenas) (by simp only[G.bulk];omega) fun y a=>AH hk [y];have t:=qK hk (f:=Du k) (g:=wP) (sz:=7) (l:=x.tasks) (by simp only[G.bulk];omega) fun y a=>ab8 hk y (gm e a) (by have:=iE (g:=wP) a;omega);have n:=qK hk (f:=GU k) (g:=vW) (sz:=1) (l:=x.channels) (by simp only[G.bulk];omega) fun y a=>X1 hk y (gm m a) (by have:=iE (g:=vW) a;omega);have p:=qK hk (f:=F9 k) (g:=Cz) (sz:=2) (l:=x.outputs) (by simp only[G.bulk];omega) fun y a=>ab9 hk y (gm j a);have s:=qJ hk (l:=[x.made,x.dropped,x.closed]) (ai (wI (d)) (ai (wI (h)) (ai (wI (r)) Tz)));simp only[G.bulk] at q c t n p;simp only[xo,acV] at s;rw[mQ];simp only[oE];omega
end
mutual
theorem N7:∀v:Vl,GV v<=(nC v).bulk
 | .mk a b c n f e p l=>by
  have:=N8 f;simp only[GV,nC,G.bulk,G.aaL];omega
theorem N8:∀l:List Vl,Ft l<=G.aaL (sJ l)
 | []=>by simp[Ft]
 | x::xs=>by
  have h1:=N7 x;have h2:=N8 xs;simp only[Ft,sJ,G.aaL];omega
end
theorem TB {l:List Vl}(hb:(vW l).bulk<=1099511627776):vsB l:=fun v a=>by
 have b:=N7 v;have c:=iE (g:=nC) a;simp only[vW,G.bulk] at hb;omega
theorem TD (i:uQ) (x:Wd) (hb:(yP i x).bulk<=1099511627776):Ga x:=by
 simp only[yP,G.bulk,G.aaL] at hb;refine⟨fun c d=>?_,fun t e f h=>?_,fun l j=>?_⟩
 ·have a:=iE (g:=xK) d;have b:=N7 c.value;simp only[xK,G.bulk,G.aaL] at a;unfold Yk;omega
 ·have a:=iE (g:=wP) e;simp only[wP,G.bulk,G.aaL] at a;have b:=iE (g:=yO) h;simp only[yO,G.bulk,G.aaL] at b;exact TB (by omega)
 ·have a:=iE (g:=vW) j;exact TB (by omega)
end Go.Fr.Tryz
namespace Go.Fr.Tryz
open Go Go.RowKit Go.Proofs Go.Fr Go.Fr.T Go.Fr.Api Go.Fr.Dm
theorem acd (i:uQ) (x:Wd) (a:Ga x) (hb:(mQ kW x).1.length<=20000000):CallsT PZ 14 [.agg (yK i x)] [] (gL [] (.sl (ah (kg x)))) :=
 (t14 _ _ _ x a (by omega)).give
theorem N9 (i:uQ) (x:Wd):CallsT PZ 16 [.agg (yK i x),.agg (yK i x)] [] (gL [] (.bool true)) :=
 dJ (p:=i=i/\x=x) ⟨rfl,rfl⟩▸t16 i i x x
end Go.Fr.Tryz
namespace Go.Fr.Tryz
open Go Go.RowKit Go.Proofs Go.Fr Go.Fr.T
theorem DR {W:World}{p:Prop}(h:p):uV (qQ W):=trivial
end Go.Fr.Tryz
namespace Go.Fr.Tryz
open Go Go.RowKit Go.Proofs Go.Fr Go.Fr.T Go.Fr.Api
def Qg (g:G):Prop:=AG g/\g.bulk<=1099511627776
def Qs:List G->Prop
 | []=>True
 | x::l=>Qg x/\Qs l
theorem Oa:∀{l:List G},rf l->G.aaL l<=1099511627776->Qs l
 | [],_,_=>trivial
 | x::l,h,hb=>by
  simp only[G.aaL] at hb;exact⟨⟨h.1,by omega⟩,Oa h.2 (by omega)⟩
theorem tJ {l:List G}(h:Qg (.st l)):Qs l:=by
 obtain⟨a,b⟩:=h;simp only[G.bulk] at b;exact Oa a (by omega)
theorem RX {n:Nat}{l:List G}(h:Qg (.sl n l)):Qs l:=by
 obtain⟨a,b⟩:=h;simp only[G.bulk] at b;exact Oa a (by omega)
theorem VE:∀{l:List G},G.aaL l<=1099511627776->l.length<=1099511627776:=fun{l} h=>by
 have:=yQ id l;simp only[List.map_id] at this;omega
theorem Jf {n:Nat}{l:List G}(h:Qg (.sl n l)):l.length<=1099511627776:=by
 obtain⟨b,a⟩:=h;simp only[G.bulk] at a;exact VE (by omega)
theorem Hq {b:Type}{g:b->G}:∀{l:List b},Qs (l.map g)->∀x∈l,Qg (g x)
 | y::l,h,x,a=>by
  rcases acQ.1 a with rfl | a
  ·exact h.1
  ·exact Hq h.2 x a
theorem q_I {n:Int}(h:Qg (I n)):i64 n:=Tx h.1
theorem VF {x y:Int}(h:UInt8.ofNat (x.emod 256).toNat=UInt8.ofNat (y.emod 256).toNat):x % 256=y % 256:=by
 have h:=j3 UInt8.toNat h;have b:x.emod 256=x % 256:=rfl;have a:y.emod 256=y % 256:=rfl;rw[b,a] at h;rw[ofNat_toNat (by omega),ofNat_toNat (by omega)] at h;omega
theorem Ob (a:Int) (k:Nat):a.fdiv (2 ^ (8*k))=a / (2 ^ (8*k)):=Int.fdiv_eq_ediv_of_nonneg _ (Int.le_of_lt (Int.pow_pos (by decide)))
theorem RY {a b:Int}(u:i64 a) (hb:i64 b) (h:AQ a=AQ b):a=b:=by
 obtain⟨z,y⟩:=u;obtain⟨x,b2⟩:=hb;have c:∀k,k<8->(a / 2 ^ (8*k)) % 256=(b / 2 ^ (8*k)) % 256:=fun k c=>by
  have:=List.map_inj_left.1 h k (List.mem_range.2 c);rw[Ob,Ob] at this;exact VF this
 have l:a % 256=b % 256:=by have:=c 0 (by decide);simpa using this
 have m:(a / 256) % 256=(b / 256) % 256:=c 1 (by decide);have d:(a / 65536) % 256=(b / 65536) % 256:=c 2 (by decide);have o:(a / 16777216) % 256=(b / 16777216) % 256:=c 3 (by decide);have f:(a / 4294967296) % 256=(b / 4294967296) % 256:=c 4 (by decide);have j:(a / 1099511627776) % 256=(b / 1099511627776) % 256:=c 5 (by decide);have n:(a / 281474976710656) % 256=(b / 281474976710656) % 256:=c 6 (by decide);have e:(a / 72057594037927936) % 256=(b / 72057594037927936) % 256:=c 7 (by decide)
 clear c h
 have p:a / 72057594037927936=b / 72057594037927936:=by clear l m d o f j n;omega
 have q:a / 281474976710656=b / 281474976710656:=by clear l m d o f j e;omega
 have r:a / 1099511627776=b / 1099511627776:=by clear l m d o f n e p;omega
 have s:a / 4294967296=b / 4294967296:=by clear l m d o j n e p q;omega
 have t:a / 16777216=b / 16777216:=by clear l m d f j n e p q r;omega
 have v:a / 65536=b / 65536:=by clear l m o f j n e p q r s;omega
 have w:a / 256=b / 256:=by clear l d o f j n e p q r s t;omega
 clear m d o f j n e p q r s t v
 omega
def Pre {a:Type}(e:a->Enc) (P:a->Prop):Prop:=∀x y r s,P x->P y->(e x).1++r=(e y).1++s->x=y/\r=s
theorem DS:Pre kL.num i64:=fun x y r s d b h=>by
 obtain⟨a,c⟩:=List.append_inj h ((Je x).trans (Je y).symm);exact⟨RY d b a,c⟩
theorem tw (x y:Bool) (r s:List UInt8) (h:(iS kL x).1++r=(iS kL y).1++s):x=y/\r=s:=by
 obtain⟨a,b⟩:=DS (if x=true then 1 else 0) (if y=true then 1 else 0) r s (by cases x<;>exact⟨by decide,by decide⟩) (by cases y<;>exact⟨by decide,by decide⟩) h;refine⟨?_,b⟩;cases x<;>cases y<;>simp at a<;>rfl
theorem Jg (n m:Nat) (r s:List UInt8) (c:n<=1099511627776) (d:m<=1099511627776) (h:(kL.siz (n:Int)).1++r=(kL.siz (m:Int)).1++s):n=m/\r=s:=by
 obtain⟨b,a⟩:=DS (n:Int) (m:Int) r s ⟨by omega,by omega⟩ ⟨by omega,by omega⟩ h;exact⟨by omega,a⟩
theorem FV {c:Type}{e:c->Enc}{P:c->Prop}(h:Pre e P):∀(l m:List c) (r s:List UInt8),(∀x∈l,P x)->(∀x∈m,P x)->l.length=m.length->(aL e l).1++r=(aL e m).1++s->l=m/\r=s
 | [],[],r,s,_,_,_,q=>⟨rfl,q⟩
 | x::l,[],r,s,_,_,a,q=>by simp at a
 | [],y::m,r,s,_,_,a,q=>by simp at a
 | x::l,y::m,r,s,k,j,a,q=>by
  simp only[aL,gq,acM] at q;obtain⟨f,b⟩:=h x y _ _ (k x (List.mem_cons_self ..)) (j y (List.mem_cons_self ..)) q
  clear q;subst f;have q:=b;clear b
  obtain⟨f,b⟩:=FV h l m r s (fun z d=>k z (adb _ d)) (fun z d=>j z (adb _ d)) (by simpa using a) q
  clear q;subst f;have q:=b;clear b
  exact⟨rfl,q⟩
theorem lJ {a:Type}{e:a->Enc}{g:a->G}{k:Nat}(h:Pre e (fun x=>Qg (g x))) (l m:List a) (r s:List UInt8) (f:Qg (.sl k (l.map g))) (d:Qg (.sl k (m.map g))) (q:(bI kL e l).1++r=(bI kL e m).1++s):l=m/\r=s:=by
 simp only[bI,gq,acM] at q;have b:=Jf f;have c:=Jf d;simp only[ac1] at b c;obtain⟨j,q⟩:=Jg _ _ _ _ b c q;exact FV h l m r s (Hq (RX f)) (Hq (RX d)) j q
theorem dZ:Pre kL.num (fun x=>Qg (I x)):=fun x y r s b a h=>DS x y r s (q_I b) (q_I a) h
theorem vU (l m:List Int) (r s:List UInt8) (a:Qg (.sl 1 (l.map I))) (b:Qg (.sl 1 (m.map I))) (q:(bI kL kL.num l).1++r=(bI kL kL.num m).1++s):l=m/\r=s:=lJ dZ l m r s a b q
mutual
theorem Oc:∀(x y:Vl) (d:Int) (r s:List UInt8),Qg (nC x)->Qg (nC y)->(ni kL x d).1++r=(ni kL y d).1++s->x=y/\r=s
 | .mk a b c n f e p l,.mk a' b' c' n' f' e' p' l',d,r,s,hx,hy,h=>by
  simp only[nC] at hx hy;obtain⟨x1,x2,x3,x4,x5,x6,x7,x8,_⟩:=tJ hx;obtain⟨y1,y2,y3,y4,y5,y6,y7,y8,_⟩:=tJ hy;simp only[ni,aL,gq,wJ,sj,acM,acX,acT] at h;obtain⟨e9,h9⟩:=dZ _ _ _ _ x1 y1 h
  clear h;subst e9;have h:=h9;clear h9
  obtain⟨e9,h9⟩:=dZ _ _ _ _ x2 y2 h
  clear h;subst e9;have h:=h9;clear h9
  obtain⟨e9,h9⟩:=dZ _ _ _ _ x3 y3 h
  clear h;subst e9;have h:=h9;clear h9
  obtain⟨e9,h9⟩:=dZ _ _ _ _ x4 y4 h
  clear h;subst e9;have h:=h9;clear h9
  have hf:=Jf x5;have hf':=Jf y5;rw[sK,ac1] at hf hf';obtain⟨hl,h⟩:=Jg _ _ _ _ hf hf' h;obtain⟨e9,h9⟩:=Jh f f' (d-1) _ _ (RX x5) (RX y5) hl h
  clear h;subst e9;have h:=h9;clear h9
  obtain⟨e9,h9⟩:=tw _ _ _ _ h
  clear h;subst e9;have h:=h9;clear h9
  obtain⟨e9,h9⟩:=vU _ _ _ _ x7 y7 h
  clear h;subst e9;have h:=h9;clear h9
  obtain⟨e9,h9⟩:=vU _ _ _ _ x8 y8 h
  clear h;subst e9;have h:=h9;clear h9
  exact⟨rfl,h⟩
theorem Jh:∀(l m:List Vl) (d:Int) (r s:List UInt8),Qs (sJ l)->Qs (sJ m)->l.length=m.length->(vN kL l d).1++r=(vN kL m d).1++s->l=m/\r=s
 | [],[],d,r,s,_,_,_,q=>by
  simp only[vN,wJ,acX] at q;exact⟨rfl,q⟩
 | x::l,[],d,r,s,_,_,hl,q=>by simp at hl
 | [],y::m,d,r,s,_,_,hl,q=>by simp at hl
 | x::l,y::m,d,r,s,hx,hy,hl,q=>by
  simp only[sJ,Qs] at hx hy;simp only[vN,gq,acM] at q;obtain⟨e9,h9⟩:=Oc x y d _ _ hx.1 hy.1 q
  clear q;subst e9;have q:=h9;clear h9
  obtain⟨e9,h9⟩:=Jh l m d _ _ hx.2 hy.2 (by simpa using hl) q
  clear q;subst e9;have q:=h9;clear h9
  exact⟨rfl,q⟩
end
theorem FW:Pre (oQ kL) (fun x=>Qg (nC x)):=fun x y r s b a h=>Oc x y 60 r s b a h
theorem Od:Pre (GU kL) (fun x=>Qg (vW x)):=fun x y r s b a h=>lJ FW x y r s b a h
theorem VG:Pre (Fp kL) (fun x=>Qg (xK x)):=fun⟨a,b,c⟩ ⟨o,b',t⟩ r s n f h=>by
 obtain⟨q,j,m,_⟩:=tJ n;obtain⟨p,k,l,_⟩:=tJ f;simp only[Fp,aL,gq,wJ,acM,acX,acT] at h;obtain⟨e,d⟩:=tw _ _ _ _ h
 clear h;subst e;have h:=d;clear d
 obtain⟨e,d⟩:=dZ _ _ _ _ j k h
 clear h;subst e;have h:=d;clear d
 obtain⟨e,d⟩:=FW _ _ _ _ m l h
 clear h;subst e;have h:=d;clear d
 exact⟨rfl,h⟩
theorem VH:Pre (Fq kL) (fun x=>Qg (yO x)):=fun⟨a,b,c,d,e,f,g⟩ ⟨a',b',c',d',e',f',g'⟩ r s hx n h=>by
 obtain⟨y,p,x3,x4,o,u,m,_⟩:=tJ hx;obtain⟨q,w,y3,l,v,z,t,_⟩:=tJ n;simp only[Fq,aL,gq,wJ,acM,acX,acT] at h;obtain⟨k,j⟩:=dZ _ _ _ _ y q h
 clear h;subst k;have h:=j;clear j
 obtain⟨k,j⟩:=dZ _ _ _ _ p w h
 clear h;subst k;have h:=j;clear j
 obtain⟨k,j⟩:=dZ _ _ _ _ x3 y3 h
 clear h;subst k;have h:=j;clear j
 obtain⟨k,j⟩:=dZ _ _ _ _ x4 l h
 clear h;subst k;have h:=j;clear j
 obtain⟨k,j⟩:=dZ _ _ _ _ o v h
 clear h;subst k;have h:=j;clear j
 obtain⟨k,j⟩:=Od _ _ _ _ u z h
 clear h;subst k;have h:=j;clear j
 obtain⟨k,j⟩:=vU _ _ _ _ m t h
 clear h;subst k;have h:=j;clear j
 exact⟨rfl,h⟩
theorem VI:Pre (Fs kL) (fun x=>Qg (DK x)):=fun⟨a,b,c,d,e⟩ ⟨q,b',u,t,e'⟩ r s p k h=>by
 obtain⟨o,l,_⟩:=tJ p;obtain⟨m,n,_⟩:=tJ k;simp only[Fs,aL,gq,wJ,acM,acX,acT] at h;obtain⟨j,f⟩:=dZ _ _ _ _ o m h
 clear h;subst j;have h:=f;clear f
 obtain⟨j,f⟩:=dZ _ _ _ _ l n h
 clear h;subst j;have h:=f;clear f
 obtain⟨j,f⟩:=tw _ _ _ _ h
 clear h;subst j;have h:=f;clear f
 obtain⟨j,f⟩:=tw _ _ _ _ h
 clear h;subst j;have h:=f;clear f
 obtain⟨j,f⟩:=tw _ _ _ _ h
 clear h;subst j;have h:=f;clear f
 exact⟨rfl,h⟩
theorem VJ:Pre (Du kL) (fun x=>Qg (wP x)):=fun⟨a,b,c,d,e,f,g⟩ ⟨a',b',c',d',e',f',g'⟩ r s hx n h=>by
 obtain⟨y,p,x3,x4,o,u,m,_⟩:=tJ hx;obtain⟨q,w,y3,l,v,z,t,_⟩:=tJ n;simp only[Du,aL,gq,wJ,acM,acX,acT] at h;obtain⟨k,j⟩:=dZ _ _ _ _ y q h
 clear h;subst k;have h:=j;clear j
 obtain⟨k,j⟩:=lJ VH _ _ _ _ p w h
 clear h;subst k;have h:=j;clear j
 obtain⟨k,j⟩:=lJ VI _ _ _ _ x3 y3 h
 clear h;subst k;have h:=j;clear j
 obtain⟨k,j⟩:=dZ _ _ _ _ x4 l h
 clear h;subst k;have h:=j;clear j
 obtain⟨k,j⟩:=dZ _ _ _ _ o v h
 clear h;subst k;have h:=j;clear j
 obtain⟨k,j⟩:=dZ _ _ _ _ u z h
 clear h;subst k;have h:=j;clear j
 obtain⟨k,j⟩:=vU _ _ _ _ m t h
 clear h;subst k;have h:=j;clear j
 exact⟨rfl,h⟩
theorem VK:Pre (F9 kL) (fun x=>Qg (Cz x)):=fun⟨a,b⟩ ⟨n,b'⟩ r s e f h=>by
 obtain⟨m,k,_⟩:=tJ e;obtain⟨j,l,_⟩:=tJ f;simp only[F9,aL,gq,wJ,acM,acX,acT] at h;obtain⟨d,c⟩:=dZ _ _ _ _ m j h
 clear h;subst d;have h:=c;clear c
 obtain⟨d,c⟩:=dZ _ _ _ _ k l h
 clear h;subst d;have h:=c;clear c
 exact⟨rfl,h⟩
theorem VL:Pre (Iy kL) (fun x=>Qg (.bool x)):=fun x y r s b a h=>by
 simp only[Iy,aL,gq,wJ,acM,acX,acT] at h;exact tw _ _ _ _ h
theorem RZ {i j:uQ}{x y:Wd}(hx:Qg (yP i x)) (r:Qg (yP j y)) (h:sF x=sF y):x=y:=by
 obtain⟨c,a,t,h',o,m1,m2,m3⟩:=x;obtain⟨c',a',t',ag,o',s,ad,e⟩:=y;obtain⟨_,f,x3,x4,p,v,n,z,_⟩:=tJ hx;obtain⟨_,k,y3,l,y5,y6,u,m,_⟩:=tJ r;obtain⟨x1,q,_⟩:=tJ f;obtain⟨w,y2,_⟩:=tJ k;have h:=j3 (·++([]:List UInt8)) h;simp only[sF,mQ,aL,gq,wJ,acM,acX,acT] at h;rw[<-acT (kL.num m3).1,<-acT (kL.num e).1] at h;obtain⟨d,b⟩:=lJ VG _ _ _ _ x1 w h
 clear h;subst d;have h:=b;clear b
 obtain⟨d,b⟩:=lJ VL _ _ _ _ q y2 h
 clear h;subst d;have h:=b;clear b
 obtain⟨d,b⟩:=lJ VJ _ _ _ _ x3 y3 h
 clear h;subst d;have h:=b;clear b
 obtain⟨d,b⟩:=lJ Od _ _ _ _ x4 l h
 clear h;subst d;have h:=b;clear b
 obtain⟨d,b⟩:=lJ VK _ _ _ _ p y5 h
 clear h;subst d;have h:=b;clear b
 obtain⟨d,b⟩:=dZ _ _ _ _ v y6 h
 clear h;subst d;have h:=b;clear b
 obtain⟨d,b⟩:=dZ _ _ _ _ n u h
 clear h;subst d;have h:=b;clear b
 obtain⟨d,b⟩:=dZ _ _ _ _ z m h
 clear h;subst d;have h:=b;clear b
 rfl
abbrev WS:=List UInt8×Bool
structure qd (e:Enc) (N:Nat) (s t:WS):Prop where
 ok:s.2=false->e.2=true->t=(s.1++e.1,false)
 bad:s.2=true\/e.2=false->t.2=true
 len:t.1.length<=s.1.length+N
theorem qd.id {s:WS}:qd wJ 0 s s:=⟨fun h _=>by obtain⟨a,b⟩:=s;subst h;simp[wJ],fun h=>h.elim (fun h=>h) (fun h=>by cases h),by omega⟩
theorem qd.and {a b:Enc}{N M:Nat}{s t u:WS}(h:qd a N s t) (k:qd b M t u):qd (br a b) (N+M) s u:=by
 refine⟨fun c j=>?_,fun c=>?_,?_⟩
 ·obtain⟨d,hb⟩:=eL.1 j;have e:=h.ok c d;have f:=k.ok (by rw[e]) hb;rw[f,e,gq,acM]
 ·rcases c with c | c
  ·exact k.bad (.inl (h.bad (.inl c)))
  ·simp only[br] at c;cases d:a.2 with
   | false=>exact k.bad (.inl (h.bad (.inr d)))
   | true=>rw[d,adH] at c;exact k.bad (.inr c)
 ·have e:=h.len;have f:=k.len;omega
theorem qd.mono {e:Enc}{N M:Nat}{s t:WS}(h:qd e N s t) (a:N<=M):qd e M s t:=⟨h.ok,h.bad,by have:=h.len;omega⟩
theorem qd.to {e f:Enc}{N M:Nat}{s t:WS}(h:qd e N s t) (a:e=f) (b:N<=M):qd f M s t:=a▸h.mono b
theorem jv (a b c:Enc):br (br a b) c=br a (br b c):=by simp[br,Bool.and_assoc]
theorem nk (a:Enc):br a wJ=a:=by
 obtain⟨p,q⟩:=a;simp[br,wJ]
theorem mB (a:Enc):br wJ a=a:=by
 obtain⟨p,q⟩:=a;simp[br,wJ]
theorem wQ {c:Type}(f:c->Enc):∀a b:List c,aL f (a++b)=br (aL f a) (aL f b)
 | [],b=>by rw[acX,aL,mB]
 | x::a,b=>by rw[acW,aL,aL,wQ f a b,jv]
theorem AJ {a:Type}{l:List a}{k:Nat}{x:a}(h:l[k]?=some x):l.take (k+1)=l.take k++[x]:=by
 rw[List.take_add_one,h];rfl
theorem FX {a:Type}{e:a->Enc}{l:List a}{k N M:Nat}{x:a}{s t u:WS}(h:qd (aL e (l.take k)) N s t) (b:l[k]?=some x) (g:qd (e x) M t u):qd (aL e (l.take (k+1))) (N+M) s u:=by
 rw[AJ b,wQ];have:=h.and g;have c:aL e [x]=e x:=nk _;rw[c];exact this
theorem Ji {b:Type}{e:b->Enc}{l:List b}{k N:Nat}{s t:WS}(h:qd (aL e (l.take k)) N s t) (a:¬k<l.length\/t.2=true):qd (aL e l) N s t:=by
 rcases a with a | a
 ·rw[adv (by omega)] at h;exact h
 ·refine⟨fun d c=>?_,fun _=>a,h.len⟩;rw[<-List.take_append_drop k l,wQ] at c;have:=h.ok d (eL.1 c).1;rw[this] at a;cases a
theorem AK {b:Type}{f:b->Enc}:∀{l:List b}{k:Nat}{x:b},l[k]?=some x->(f x).2=false->(aL f l).2=false
 | [],k,x,h,_=>by simp at h
 | y::l,0,x,h,a=>by
  simp at h;subst h;simp[aL,br,a]
 | y::l,k+1,x,h,a=>by
  have:=AK (l:=l) (k:=k) (by simpa using h) a;simp[aL,br,this]
theorem yR {e:Enc}{N:Nat}{s t:WS}(a:e.2=false) (b:t.2=true) (c:t.1.length<=s.1.length+N):qd e N s t:=⟨fun _ h=>(by rw[a] at h;cases h),fun _=>b,c⟩
theorem Hr {n:Int}(a:-1099511627776<=n) (b:n<=1099511627776):(kW.num n).2=true:=by
 show(decide (-1099511627776<=n)&&decide (n<=1099511627776))=true;simp only[acR,ado];exact⟨a,b⟩
theorem Oe {n:Int}(h:n < -1099511627776\/1099511627776<n):(kW.num n).2=false:=by
 show(decide (-1099511627776<=n)&&decide (n<=1099511627776))=false;rw[Bool.eq_false_iff];intro a;simp only[acR,ado] at a;omega
theorem TF {n:Int}(a:-1099511627776<=n) (b:n<=1099511627776):(bN (zz n)).length<=6:=vQ 5 _ (Nat.lt_of_le_of_lt (Nw n 1099511627776 a b) (by decide))
theorem R0 {n:Int}{s:WS}(b:-1099511627776<=n) (c:n<=1099511627776):qd (kW.num n) 6 s (s.1++bN (zz n),s.2):=by
 refine⟨fun a _=>?_,fun a=>?_,?_⟩
 ·rw[a];rfl
 ·rcases a with a | a
  ·exact a
  ·rw[Hr b c] at a;cases a
 ·have:=TF b c;simp only[yo];omega
theorem Jj {n:Nat}{s t:WS}(h:qd (aL kW.num [(n:Int)]) 6 (s.1,s.2||decide (100000<(n:Int))) t):qd (kW.siz n) 6 s t:=by
 by_cases b:(n:Int)<=100000
 ·have a:decide (100000<(n:Int))=false:=adD (by omega);rw[a,Bool.or_false] at h;have c:aL kW.num [(n:Int)]=kW.siz n:=by
   rw[aL,aL,nk];show(bN (zz n),(kW.num n).2)=(bN (zz n),decide ((n:Int)<=100000));rw[Hr (by omega) (by omega),adE b]
  rw[c] at h;exact h
 ·have a:decide (100000<(n:Int))=true:=adE (by omega);refine yR (adD b) (h.bad (.inl ?_)) h.len;show(s.2||decide (100000<(n:Int)))=true;rw[a,Bool.or_true]
def WqB (s:WS):List TO:=[.box 115 [.rw 1001,.bool s.2],.row 5 1 (ah s.1)]
def VN (s:WS):TL:=[(1000,.box 115 [.rw 1001,.bool s.2]),(1001,.row 5 1 (ah s.1))]
def DT (f:Nat) (args:List C) (e:Enc) (N:Nat):Prop:=∀s:WS,s.1.length+N<=70368744177664 ->
 CallsT PZ f args (WqB s) (fun Mo c=>∃t,Mo=WqB t/\c=.tup []/\qd e N s t)
theorem uP (a b:List UInt8):ah a++ah b=ah (a++b):=by simp[ah]
theorem Ko (l:List Int):DT 53 [.own 1000 0,.sl (oO l)] (aL kW.num l) (6*l.length):=by
 intro m hb;have f:(oO l).length=l.length:=by simp[oO]
 refine au Tryz.func53 Qo rfl fun q t=>?_;have u:l.length<=9223372036854775807:=bw q.2.1;refine aP l.length 4 [] m (fun _=>[]) VN (fun k s=>qd (aL kW.num (l.take k)) (6*k) m s) (by simpa[aL] using qd.id) (af rfl) trivial ⟨bJ,bJ,trivial⟩ ?_;rintro k ⟨bs,o⟩ r a _ _ _;refine aF (fun c=>?_) (fun d=>?_)
 ·have c:k<l.length:=by rw[f] at c;omega
  refine yD c fun x e p=>?_;have b:=a.len;refine wG e ?_;refine aF (fun j=>?_) (fun j=>?_)
  ·exact cD [1000,1001] rfl rfl rfl rfl ⟨(bs,true),rfl,rfl,yR (AK e (Oe (.inl j))) rfl (by simp only at b ⊢;omega)⟩
  refine wG e ?_;refine aF (fun h=>?_) (fun h=>?_)
  ·exact cD [1000,1001] rfl rfl rfl rfl ⟨(bs,true),rfl,rfl,yR (AK e (Oe (.inr h))) rfl (by simp only at b ⊢;omega)⟩
  have v:=TF (n:=x) (by omega) (by omega);refine wG e ?_;refine cR (t22 x (by omega) (by omega)).give rfl fun _=>?_;refine m9 (bs:=bN (zz x)) bs.length aG (by simp only at b;omega) ?_;refine bf ?_;exact⟨(k+1,(bs++bN (zz x),o)),⟨c,(FX a e (R0 (by omega) (by omega))).mono (by omega)⟩,⟨aR,trivial⟩,⟨bJ,.inl ⟨_,rfl,.inl ⟨j3 (TO.row 5 1) (uP _ _),rfl⟩⟩,trivial⟩,aS c⟩
 ·have d:¬k<l.length:=by rw[f] at d;omega
  exact cD [1000,1001] rfl rfl rfl rfl ⟨(bs,o),rfl,rfl,(Ji a (.inl d)).mono (by omega)⟩
theorem Hs (a b:List G):G.aaL (a++b)=G.aaL a+G.aaL b:=by
 induction a with
 | nil=>simp[G.aaL]
 | cons x a c=>simp only[acW,G.aaL,c];omega
theorem Jk {α:Type}{g:α->G}{l:List α}{k:Nat}{x:α}(h:l[k]?=some x):G.aaL ((l.take (k+1)).map g)=G.aaL ((l.take k).map g)+(g x).bulk:=by
 rw[AJ h,adm,Hs];simp[G.aaL]
theorem TG {α:Type}{g:α->G}{l:List α}{k:Nat}:G.aaL ((l.take k).map g)<=G.aaL (l.map g):=by
 have:G.aaL (l.map g)=G.aaL ((l.take k).map g)+G.aaL ((l.drop k).map g):=by rw[<-Hs,<-adm,List.take_append_drop]
 omega
def LW {α:Type}(e:α->Enc) (g:α->G) (l:List α) (s0:WS) (k:Nat) (s:WS):Prop:=qd (aL e (l.take k)) (6*G.aaL ((l.take k).map g)) s0 s
section
variable {α:Type}{e:α->Enc}{g:α->G}{l:List α}{s0 s t:WS}{k:Nat}{x:α}
theorem Oq:LW e g l s0 0 s0:=qd.id.to rfl (adg _)
theorem LW.room {M:Nat}(h:LW e g l s0 k s) (a:l[k]?=some x) (hb:s0.1.length+6*G.aaL (l.map g)<=M):s.1.length+6*(g x).bulk<=M:=by
 have b:=h.len;have c:=Jk (g:=g) a;have d:=TG (g:=g) (l:=l) (k:=k+1);omega
theorem LW.next (h:LW e g l s0 k s) (a:l[k]?=some x) (b:qd (e x) (6*(g x).bulk) s t):LW e g l s0 (k+1) t :=
 (FX h a b).mono (by rw[Jk a];omega)
theorem LW.fin (h:LW e g l s0 k s) (a:¬k<l.length\/s.2=true):qd (aL e l) (6*G.aaL (l.map g)) s0 s :=
 (Ji h a).mono (by have:=TG (g:=g) (l:=l) (k:=k);omega)
theorem lK {sz:Nat}{a:WS}(h:qd (kW.siz l.length) 6 s a) (k:qd (aL e l) (6*G.aaL (l.map g)) a t):qd (bI kW e l) (6*(G.sl sz (l.map g)).bulk) s t :=
 (h.and k).mono (by simp only[G.bulk];omega)
end
theorem Ht (l:List Int):G.aaL (l.map I)=l.length:=by
 induction l with
 | nil=>rfl
 | cons x l a=>simp only[acU,G.aaL,a,xo];show 1+_=_;omega
theorem TH {n:Int}{N:Nat}{s t:WS}(h:qd (aL kW.num [n]) N s t):qd (kW.num n) N s t:=by
 have:aL kW.num [n]=kW.num n:=nk _
 rwa [this] at h
theorem TI {b:Bool}{N:Nat}{s t:WS}(h:qd (aL kW.num [if b=true then 1 else 0]) N s t):qd (iS kW b) N s t:=TH h
theorem DU {b:Bool}(h:(!b)=false):b=true:=by simpa using h
theorem t51 (n:Nat):DT 51 [.own 1000 0,IC n] (kW.siz n) 6:=by
 rintro⟨bs,a⟩ hb;refine au Tryz.func51 Qm rfl fun d c=>?_;refine aj (fun h=>?_) (fun h=>?_)
 ·refine cO [1000,1001] (Ko [(n:Int)] (bs,true) hb) rfl rfl rfl rfl ?_;rintro v Mo ⟨t,rfl,rfl,b⟩ _ _;refine⟨rfl,?_⟩;exact cD [1000,1001] rfl rfl rfl rfl ⟨t,rfl,rfl,Jj (s:=(bs,a)) (by rw[show((bs,a).2||decide (100000<(n:Int)))=true by simp[show a=true from h]];exact b)⟩
 ·refine cO [1000,1001] (Ko [(n:Int)] (bs,decide (100000<(n:Int))) hb) rfl rfl rfl rfl ?_;rintro v Mo ⟨t,rfl,rfl,b⟩ _ _;refine⟨rfl,?_⟩;exact cD [1000,1001] rfl rfl rfl rfl ⟨t,rfl,rfl,Jj (s:=(bs,a)) (by rw[show((bs,a).2||decide (100000<(n:Int)))=decide (100000<(n:Int)) by simp[show a=false from h]];exact b)⟩
theorem Yq (l:List Bool):DT 52 [.own 1000 0,.sl (l.map Af)] (aL (iS kW) l) (6*l.length):=by
 intro s0 hb;have m:G.aaL (l.map G.bool)=l.length:=by clear hb;induction l with | nil=>rfl | cons x l r=>simp only[acU,G.aaL,r,xo];show 1+_=_;omega
 have w:s0.1.length+6*G.aaL (l.map G.bool)<=70368744177664:=by omega
 refine au Tryz.func52 Qn rfl fun q z=>?_;refine aP l.length 4 [] s0 (fun _=>[]) VN (fun k s=>LW (iS kW) G.bool l s0 k s) Oq (af rfl) trivial ⟨bJ,bJ,trivial⟩ ?_;rintro n f p b _ _ _;refine aF (fun a=>?_) (fun j=>?_)
 ·have a:n<l.length:=by rw[bL] at a;omega
  have y:=bw q.2.1;obtain⟨xA,c⟩:=aO a;have d:=b.room c w;refine bK c rfl rfl ?_;refine aj (fun h=>?_) (fun h=>?_)
  ·refine cO [1000,1001] (Ko [1] f d) rfl rfl rfl rfl ?_;rintro v Mo ⟨u,rfl,rfl,o⟩ _ _;refine⟨rfl,?_⟩;refine bf ?_;exact⟨(n+1,u),⟨a,b.next c (TI (by rw[h];exact o))⟩,⟨aR,trivial⟩,⟨bJ,bJ,trivial⟩,aS a⟩
  ·refine cO [1000,1001] (Ko [0] f d) rfl rfl rfl rfl ?_;rintro v Mo ⟨u,rfl,rfl,o⟩ _ _;refine⟨rfl,?_⟩;refine bf ?_;exact⟨(n+1,u),⟨a,b.next c (TI (by rw[h];exact o))⟩,⟨aR,trivial⟩,⟨bJ,bJ,trivial⟩,aS a⟩
 ·exact cD [1000,1001] rfl rfl rfl rfl ⟨f,rfl,rfl,(b.fin (.inl (by rw[bL] at j;omega))).to rfl (by rw[m];omega)⟩
theorem Yr (l:List Int):DT 90 [.own 1000 0,.sl (oO l)] (bI kW kW.num l) (6*(G.sl 1 (l.map I)).bulk):=by
 intro s0 hb;have z:=Ht l;simp only[G.bulk] at hb;have j:(oO l).length=l.length:=by simp[oO]
 refine au Tryz.func90 QR rfl fun hw ho=>?_;refine cO [1000,1001] (t51 (oO l).length s0 (by omega)) rfl rfl rfl rfl ?_;rintro v Mo ⟨o,rfl,rfl,c⟩ _ _;refine⟨rfl,?_⟩;have ab:=c.len;rw[j] at c;have r1:o.1.length+6*G.aaL (l.map I)<=70368744177664:=by omega
 refine aP l.length 4 [] o (fun _=>[]) VN (fun k s=>LW kW.num I l o k s) Oq (af rfl) trivial ⟨bJ,bJ,trivial⟩ ?_;rintro q p w a _ _ _;refine aF (fun b=>?_) (fun m=>?_)
 rotate_left
 have f:=a.fin (.inl (by rw[wO] at m;omega))
 rotate_left
 have b:q<l.length:=by rw[wO] at b;omega
 have ad:=(bw hw.2.1:l.length<=_);obtain⟨xA,d⟩:=aO b;refine aj (fun y=>?_) (fun n=>?_)
 ·have h:=a.room d (by assumption);refine wG d ?_;refine cO [1000,1001] (Ko [xA] p (h)) rfl rfl rfl rfl ?_;rintro v Mo ⟨u,rfl,rfl,r⟩ _ _;refine⟨rfl,?_⟩;have qu:=r.len;refine bf ?_;exact⟨(q+1,_),⟨b,a.next d (TH r)⟩,⟨aR,trivial⟩,⟨bJ,bJ,trivial⟩,aS b⟩
 have f:=a.fin (.inr (DU n))
 all_goals
  exact cD [1000,1001] rfl rfl rfl rfl ⟨p,rfl,rfl,lK c f⟩
theorem Og (x:Vl) (d:Int):ni kW x d=br (sj (decide (0<d)||false)) (br (aL kW.num [x.kind,x.id,x.var,x.num]) (br (bI kW (fun y=>ni kW y (d-1)) x.fs) (br (aL (iS kW) [x.ex]) (br (bI kW kW.num x.path) (bI kW kW.num x.lns))))):=by
 cases x;rw[ni,nU];rfl
theorem TJ (x:Vl):(nC x).bulk=4+(G.sl 8 (x.fs.map nC)).bulk+1+(G.sl 1 (x.path.map I)).bulk+(G.sl 1 (x.lns.map I)).bulk+1:=by
 cases x;simp only[nC,sK,Vl.fs,Vl.path,Vl.lns,G.bulk,G.aaL];omega
theorem VO {e:Enc}{N:Nat}{s t:WS}{d:Int}(a:0<d) (h:qd e N s t):qd (br (sj (decide (0<d)||false)) e) N s t:=by
 have:sj (decide (0<d)||false)=wJ:=by rw[adE a];rfl
 rw[this,mB];exact h
theorem X2:∀(n:Nat) (x:Vl) (d:Int),SizeOf.sizeOf x<n->DT 54 [.own 1000 0,DY x,IC d] (ni kW x d) (6*(nC x).bulk)
 | 0,x,d,h=>s6 h (by omega)
 | n+1,x,d,h=>by
  have ih:∀z∈x.fs,∀m,DT 54 [.own 1000 0,DY z,IC m] (ni kW z m) (6*(nC z).bulk):=fun z hz m=>X2 n z m (by have:=I8 hz;omega);intro s0 hb;rw[TJ] at hb ⊢;rw[Og];have b1:=Ht x.path;have b2:=Ht x.lns;have g1:(G.sl 8 (x.fs.map nC)).bulk=G.aaL (x.fs.map nC)+1:=rfl;have g2:(G.sl 1 (x.path.map I)).bulk=G.aaL (x.path.map I)+1:=rfl;have g3:(G.sl 1 (x.lns.map I)).bulk=G.aaL (x.lns.map I)+1:=rfl;refine au Tryz.func54 Qp rfl fun hw ho=>?_;have ac:Wf (.sl (x.fs.map mS)):=hw.2.1.2.2.2.2.1;have hd:=WI hw.2.2.1;refine aF (fun al=>?_) (fun al=>?_)
  ·exact cD [1000,1001] rfl rfl rfl rfl ⟨(s0.1,true),rfl,rfl,yR (by simp only[br,sj,Bool.or_false,Bool.and_eq_false_iff];exact .inl (adD (by omega))) rfl (by simp only;omega)⟩
  have ak:0<d:=by omega
  refine cO [1000,1001] (Ko [x.kind,x.id,x.var,x.num] s0 (by simp only[xo,acV];omega)) rfl rfl rfl rfl ?_;rintro v Mo ⟨t1,rfl,rfl,o⟩ _ _;refine⟨rfl,?_⟩;have ag:=o.len;simp only[xo,acV] at ag o;refine cO [1000,1001] (t51 (x.fs.map mS).length t1 (by omega)) rfl rfl rfl rfl ?_;rintro v Mo ⟨t2,rfl,rfl,f⟩ _ _;refine⟨rfl,?_⟩;have ax:=f.len;rw[bL] at f;have r2:t2.1.length+6*G.aaL (x.fs.map nC)<=70368744177664:=by omega
  refine aP x.fs.length 6 [] t2 (fun _=>[]) VN (fun k s=>LW (fun y=>ni kW y (d-1)) nC x.fs t2 k s) Oq (af rfl) trivial ⟨bJ,bJ,trivial⟩ ?_;rintro kA sA aw a _ _ _;refine aF (fun b=>?_) (fun aa=>?_)
  rotate_left
  have p:=a.fin (.inl (by rw[bL] at aa;omega))
  rotate_left
  have b:kA<x.fs.length:=by rw[bL] at b;omega
  have bb:=bw ac;obtain⟨xA,c⟩:=aO b;refine aj (fun ay=>?_) (fun ab=>?_)
  ·have w:=a.room c (by assumption);refine qa c ?_;refine bf ?_;refine cO [1000,1001] (ih xA (acS c) (d-1) sA (w)) rfl rfl rfl rfl ?_;rintro v Mo ⟨u,rfl,rfl,hu⟩ _ _;refine⟨rfl,?_⟩;have qu:=hu.len;refine bf ?_;exact⟨(kA+1,_),⟨b,a.next c (hu)⟩,⟨aR,trivial⟩,⟨bJ,bJ,trivial⟩,aS b⟩
  have p:=a.fin (.inr (DU ab))
  all_goals
   have qz:=p.len;refine cO [1000,1001] (Yq [x.ex] sA (by simp only[xo,acV];omega)) rfl rfl rfl rfl ?_;rintro v Mo ⟨t3,rfl,rfl,j⟩ _ _;refine⟨rfl,?_⟩;have ad:=j.len;simp only[xo,acV] at ad j;refine cO [1000,1001] (Yr x.path t3 (by omega)) rfl rfl rfl rfl ?_;rintro v Mo ⟨t4,rfl,rfl,q⟩ _ _;refine⟨rfl,?_⟩;have be:=q.len;refine cO [1000,1001] (Yr x.lns t4 (by omega)) rfl rfl rfl rfl ?_;rintro v Mo ⟨t5,rfl,rfl,r⟩ _ _;refine⟨rfl,?_⟩;have ar:=r.len;exact cD [1000,1001] rfl rfl rfl rfl ⟨t5,rfl,rfl,VO ak ((o.and ((lK (sz:=8) f p).and (j.and (q.and r)))).mono (by omega))⟩
theorem t54 (x:Vl) (d:Int):DT 54 [.own 1000 0,DY x,IC d] (ni kW x d) (6*(nC x).bulk):=X2 _ x d (adF _)
theorem t56 (l:List Vl):DT 56 [.own 1000 0,.sl (l.map mS)] (GU kW l) (6*(vW l).bulk):=by
 intro s0 hb;have g1:(vW l).bulk=G.aaL (l.map nC)+1:=rfl;refine au Tryz.func56 Qr rfl fun y ho=>?_;refine cO [1000,1001] (t51 (l.map mS).length s0 (by omega)) rfl rfl rfl rfl ?_;rintro v Mo ⟨n,rfl,rfl,c⟩ _ _;refine⟨rfl,?_⟩;have z:=c.len;rw[bL] at c;have r1:n.1.length+6*G.aaL (l.map nC)<=70368744177664:=by omega
 refine aP l.length 4 [] n (fun _=>[]) VN (fun k s=>LW (oQ kW) nC l n k s) Oq (af rfl) trivial ⟨bJ,bJ,trivial⟩ ?_;rintro p o r a _ _ _;refine aF (fun b=>?_) (fun j=>?_)
 rotate_left
 have f:=a.fin (.inl (by rw[bL] at j;omega))
 rotate_left
 have b:p<l.length:=by rw[bL] at b;omega
 have ab:=bw y.2.1;obtain⟨xA,d⟩:=aO b;refine aj (fun w=>?_) (fun m=>?_)
 ·have h:=a.room d (by assumption);refine qa d ?_;refine cO [1000,1001] (t54 xA 60 o (h)) rfl rfl rfl rfl ?_;rintro v Mo ⟨u,rfl,rfl,q⟩ _ _;refine⟨rfl,?_⟩;have qu:=q.len;refine bf ?_;exact⟨(p+1,_),⟨b,a.next d (q)⟩,⟨aR,trivial⟩,⟨bJ,bJ,trivial⟩,aS b⟩
 have f:=a.fin (.inr (DU m))
 all_goals
  exact cD [1000,1001] rfl rfl rfl rfl ⟨o,rfl,rfl,lK (sz:=8) c f⟩
end Go.Fr.Tryz
namespace Go.Fr.Tryz
open Go Go.RowKit Go.Proofs Go.Fr Go.Fr.T Go.Fr.Api Go.Fr.Dm
def BR (a:Option Addr) (c:Nat) (bs:List UInt8):Own:=.row (.slice a bs.length c) 5 1 bs.length (dX bs)
def RI (o:Own) (n:Int):aJ->List Own->Value->Prop:=fun F Lo v=>Lo=[o]/\v=.int .i64 n
theorem ace {F:aJ}{g:Nat}{cs:List Value}{t:TypeId}(h:F g=some (.cells cs.toArray t (0,0))):cC F (some ⟨g,0,none⟩) 0 cs :=
 ⟨_,_,_,_,rfl,h,rfl,fun i v a=>⟨by simpa using a,sL _⟩⟩
theorem a47 (F:aJ) (a:Option Addr) (c:Nat) (bs:List UInt8) (l:a=none->bs.length=0) (w:bs.length<=maxLen) :
  CallsA PZ 47 #[.slice a bs.length c] F [BR a c bs] (RI (BR a c bs) (jw bs)):=by
 unfold maxLen at w;refine fG (svs:=[.v (.slice a bs.length c)]) rfl H7 rfl rfl (zw [.slice a bs.length c]) (fun _ _ _ _ _ h=>h) ?_;refine Iz.mk ⟨Nat×Int,(0,7),fun y F=>y.1<=bs.length/\(Am (bs.drop y.1)).foldl qU y.2=jw bs/\0<=y.2/\y.2<2147483647,[4,3],fun y=>[.int .i64 (y.1:Nat),.int .i64 y.2],fun y=>inp [BR a c bs],fun y=>bs.length-y.1,
  ⟨adg _,rfl,by omega,by omega⟩,⟨rfl,rfl,trivial⟩,Cj ⟨.inl rfl,trivial⟩,fun _=>trivial,?_⟩
 rintro⟨k,h⟩ F1 jk aa ⟨p,b,n,z⟩ s;simp only at p b n z;refine aF (fun f=>?_) (fun d=>?_)
 ·have f:k<bs.length:=by omega
  refine eZ f fun x hx r q=>?_;rw[q] at b;have o:=x.toNat_lt;refine bf ?_;refine D7.mk (fun e=>by have:=l e;omega) (by omega) (by omega) ?_;obtain⟨t,rfl⟩:=Option.ne_none_iff_exists'.1 (fun e=>by have:=l e;omega:a≠none);refine kM.mk ⟨[aay x],rfl,.inr (.inl ⟨1000,_,_,_,_,_,t,c,rfl,rfl,rfl,fun i u j=>?_⟩),?_⟩
  ·cases i with
   | zero =>
    injection j with j
    subst j;simp only[dX,adp];have:(k:Int).toNat*1+0=k:=by omega
    rw[this,hx];rfl
   | succ i=>cases j
  refine bf ?_;refine bf ?_;refine bf ?_;refine kK.mk (by omega) ?_;have m:=vP (x:=x.toNat) n (by omega);refine bf ?_;exact⟨(k+1,qU h x.toNat),⟨by show k+1<=_;omega,b,m.1,m.2⟩,⟨by rfl,by rfl,trivial⟩,Cj ⟨.inl rfl,trivial⟩,by show bs.length-(k+1)<bs.length-k;omega⟩
 ·have d:¬k<bs.length:=by omega
  rw[gM d] at b;exact⟨[1000],_,rfl,by decide,rfl,j3 (Value.int .i64) b⟩
theorem a24 (F:aJ) (a:Option Addr) (c:Nat) (bs:List UInt8) (n:a=none->bs.length=0) (o:bs.length<=maxLen) :
  CallsA PZ 24 #[.slice a bs.length c] F [BR a c bs] (fun F' Lo v=>Lo=[BR a c bs]/\Rel F' (inp []) (.sl (ah (l8 bs))) v):=by
 obtain⟨q,r⟩:=js bs;refine fG (svs:=[.v (.slice a bs.length c)]) rfl HX rfl rfl (zw [.slice a bs.length c]) (fun F G Lo v d h=>⟨h.1,h.2.mono d⟩) ?_;refine eX.mk ⟨[1000],[1000],[BR a c bs],_,rfl,by decide,by decide,fun k f=>.inl f,a47 F a c bs n o,?_⟩;rintro v F1 Lo d ⟨rfl,rfl⟩;refine⟨rfl,fun k g t cs f e=>?_,?_⟩
 ·rw[adr.1 f] at e;cases e
 refine⟨by omega,?_⟩;refine Fit.to (iZ (m:=jw bs / 16777216) (by omega) (Int.fdiv_eq_ediv_of_nonneg (b:=16777216) _ (by omega))) ?_;refine⟨by omega,?_⟩;refine Fit.to (iZ (m:=jw bs / 65536) (by omega) (Int.fdiv_eq_ediv_of_nonneg (b:=65536) _ (by omega))) ?_;refine⟨by omega,?_⟩;refine Fit.to (iZ (m:=jw bs / 256) (by omega) (Int.fdiv_eq_ediv_of_nonneg (b:=256) _ (by omega))) ?_;refine Fit.to (iZ (m:=jw bs) (by omega) rfl) ?_;intro g F2 j l;exact⟨[1000],_,rfl,by decide,rfl,Nd (p:=l8 bs) (ace (cs:=dX (l8 bs)) l) (ac4 _) (by rw[AB];simp[maxLen])⟩
theorem VP (bs:List UInt8):Lg PZ 24 [.rw 1000] 5 1 (ah bs) (.sl (ah (l8 bs))):=by
 refine⟨fun F o xs vs j d=>?_⟩;obtain⟨_,_,_,⟨h,a,c,rfl,f⟩,b⟩:=j;have l:=lq b;subst l;simp only[aK,Rel] at d;obtain⟨v,k,rfl,⟨m,p,t,sz,n,xs,rfl,e⟩,rfl⟩:=d;rw[aG] at e h f ⊢;injection e with e
 injection e with e1 e2 e3 e4 e5
 rw[<-e1];exact a24 F a c bs f h
theorem VQ (b:Nat) {f:Nat}{args a:List C}{L:TL}{ρ:bg}{d:Option Nat}{K:TL->bg->C->Prop}{t sz:Nat}{els:List (List C)}{x:C}(h:Lg PZ f a t sz els x) (e:L.get b=some (.row t sz els))
  (j:(args.map fun c=>c.abk.ren (cn [b] 1000))=a) (k:Wf x->K L ρ x.slt):rM PZ f args L ρ d K:=by
 subst j;exact .lent b t sz els x e h k
end Go.Fr.Tryz
namespace Go.Fr.Tryz
open Go Go.RowKit Go.Proofs Go.Fr Go.Fr.T Go.Fr.Api
theorem t55 (x:Tk):DT 55 [.own 1000 0,.agg (vM x)] (Du kW x) (6*(wP x).bulk):=by
 intro s0 hb;have b0:(wP x).bulk=1+((G.aaL (x.frames.map yO)+1)+((G.aaL (x.loans.map DK)+1)+(1+(1+(1+((G.sl 1 (x.cells.map I)).bulk+0))))))+1:=rfl;rw[b0] at hb ⊢;refine au Tryz.func55 Qq rfl fun hw ho=>?_;have al:Wf (.sl (x.frames.map yE)):=hw.2.1.2.1;have ac:Wf (.sl (x.loans.map F8)):=hw.2.1.2.2.1;refine cO [1000,1001] (Ko [x.state] s0 (by simp only[xo,acV];omega)) rfl rfl rfl rfl ?_;rintro v Mo ⟨t1,rfl,rfl,n⟩ _ _;refine⟨rfl,?_⟩;have an:=n.len;simp only[xo,acV] at an n;refine cO [1000,1001] (t51 (x.frames.map yE).length t1 (by omega)) rfl rfl rfl rfl ?_;rintro v Mo ⟨t2,rfl,rfl,h⟩ _ _;refine⟨rfl,?_⟩;have bl:=h.len;rw[bL] at h;have r2:t2.1.length+6*G.aaL (x.frames.map yO)<=70368744177664:=by omega
 refine aP x.frames.length 4 [] t2 (fun _=>[]) VN (fun k s=>LW (Fq kW) yO x.frames t2 k s) Oq (af rfl) trivial ⟨bJ,bJ,trivial⟩ ?_;rintro kA sA bk a _ _ _;refine aF (fun d=>?_) (fun ae=>?_)
 rotate_left
 have q:=a.fin (.inl (by rw[bL] at ae;omega))
 rotate_left
 have d:kA<x.frames.length:=by rw[bL] at d;omega
 have bv:=bw al;obtain⟨e,t⟩:=aO d;refine aj (fun bm=>?_) (fun ag=>?_)
 ·have aa:=a.room t (by assumption);have bA:(yO e).bulk=1+(1+(1+(1+(1+((vW e.slots).bulk+((G.sl 1 (e.since.map I)).bulk+0))))))+1:=rfl;rw[bA] at aa;refine bK t rfl rfl ?_;refine cO [1000,1001] (Ko [e.number,e.routine,e.block,e.index,e.dst] sA (by simp only[xo,acV];omega)) rfl rfl rfl rfl ?_;rintro v Mo ⟨u1,rfl,rfl,f⟩ _ _;refine⟨rfl,?_⟩;have ak:=f.len;simp only[xo,acV] at ak f;refine cO [1000,1001] (t56 e.slots u1 (by omega)) rfl rfl rfl rfl ?_;rintro v Mo ⟨u2,rfl,rfl,y⟩ _ _;refine⟨rfl,?_⟩;have bD:=y.len;refine cO [1000,1001] (Yr e.since u2 (by omega)) rfl rfl rfl rfl ?_;rintro v Mo ⟨u3,rfl,rfl,z⟩ _ _;refine⟨rfl,?_⟩;have bu:=z.len;refine bf ?_;exact⟨(kA+1,_),⟨d,a.next t ((f.and (y.and z)).mono (by rw[bA];omega))⟩,⟨aR,trivial⟩,⟨bJ,bJ,trivial⟩,aS d⟩
 have q:=a.fin (.inr (DU ag))
 all_goals
  have qz:=q.len;refine cO [1000,1001] (t51 (x.loans.map F8).length sA (by omega)) rfl rfl rfl rfl ?_;rintro v Mo ⟨t3,rfl,rfl,j⟩ _ _;refine⟨rfl,?_⟩;have bp:=j.len;rw[bL] at j;have r3:t3.1.length+6*G.aaL (x.loans.map DK)<=70368744177664:=by omega
  refine aP x.loans.length 6 [] t3 (fun _=>[]) VN (fun k s=>LW (Fs kW) DK x.loans t3 k s) Oq (af rfl) trivial ⟨bJ,bJ,trivial⟩ ?_;rintro kB sB be b _ _ _;refine aF (fun c=>?_) (fun ad=>?_)
  rotate_left
  have o:=b.fin (.inl (by rw[bL] at ad;omega))
  rotate_left
  have c:kB<x.loans.length:=by rw[bL] at c;omega
  have bt:=bw ac;obtain⟨u,l⟩:=aO c;refine aj (fun okB=>?_) (fun ab=>?_)
  ·have ar:=b.room l (by assumption);have bB:(DK u).bulk=1+(1+(1+(1+(1+0))))+1:=rfl;rw[bB] at ar;refine bK l rfl rfl ?_;refine cO [1000,1001] (Ko [u.frame,u.slot] sB (by simp only[xo,acV];omega)) rfl rfl rfl rfl ?_;rintro v Mo ⟨v1,rfl,rfl,p⟩ _ _;refine⟨rfl,?_⟩;have ap:=p.len;simp only[xo,acV] at ap p;refine cO [1000,1001] (Yq [u.excl,u.re,u.over] v1 (by simp only[xo,acV];omega)) rfl rfl rfl rfl ?_;rintro v Mo ⟨v2,rfl,rfl,r⟩ _ _;refine⟨rfl,?_⟩;have ao:=r.len;simp only[xo,acV] at ao r;refine bf ?_;exact⟨(kB+1,_),⟨c,b.next l ((p.and r).mono (by rw[bB];omega))⟩,⟨aR,trivial⟩,⟨bJ,bJ,trivial⟩,aS c⟩
  have o:=b.fin (.inr (DU ab))
  all_goals
   have qy:=o.len;refine cO [1000,1001] (Ko [x.allocs,x.clock,x.next] sB (by simp only[xo,acV];omega)) rfl rfl rfl rfl ?_;rintro v Mo ⟨t4,rfl,rfl,m⟩ _ _;refine⟨rfl,?_⟩;have av:=m.len;simp only[xo,acV] at av m;refine cO [1000,1001] (Yr x.cells t4 (by omega)) rfl rfl rfl rfl ?_;rintro v Mo ⟨t5,rfl,rfl,w⟩ _ _;refine⟨rfl,?_⟩;have bi:=w.len;exact cD [1000,1001] rfl rfl rfl rfl ⟨t5,rfl,rfl,(n.and ((lK (sz:=7) h q).and ((lK (sz:=5) j o).and (m.and w)))).mono (by simp only[G.bulk];omega)⟩
def Yt (s:WS):TL:=[(10,.box 115 [.rw 8,.bool s.2]),(8,.row 5 1 (ah s.1))]
theorem VR (l:List Bool):G.aaL (l.map G.bool)=l.length:=by
 induction l with
 | nil=>rfl
 | cons x l a=>simp only[acU,G.aaL,a,xo];show 1+_=_;omega
theorem R2 {x:Wd}{N:Nat}{t:WS}(h:qd (mQ kW x) N (cB,false) t) (a:t.2=false):fV t.1=kg x:=by
 unfold kg;cases b:(mQ kW x).2 with
 | true=>rw[o6 rfl,h.ok rfl b]
 | false=>rw[h.bad (.inr b)] at a;cases a
theorem Oh {x:Wd}{N:Nat}{t:WS}(h:qd (mQ kW x) N (cB,false) t) (a:t.2=true):[]=kg x:=by
 unfold kg;cases b:(mQ kW x).2 with
 | true=>rw[h.ok rfl b] at a;cases a
 | false=>rfl
section
variable {L:TL}{ρ:bg}
theorem R3 (ks:List Nat) {f:Nat}{args a:List C}{K:TL->bg->C->Prop}{R:List TO->C->Prop}{Lin Lin':List TO}(h:CallsT PZ f a Lin' R) (l:L.sub ks=some Lin)
  (d:(T.bR ks&&T.lN L ks ks&&aY Lin ks ks)=true) (j:(args.map fun c=>c.abk.ren (cn ks 1000))=a) (m:Lin.map (TO.aa8 (C.ren (cn ks 1000)))=Lin')
  (k:∀v Mo,R Mo v->Wf v->(∀o∈Mo,o.Wf)->ks.length=Mo.length/\K (((L.aa7 ks).kills (rowsOf L ks)).puts ks (Mo.map (TO.aa8 (C.ren (bF ks))))) (fQ (rowsOf L ks) ρ) (v.ren (bF ks)).slt):CU PZ f args L ρ K:=by
 subst j m;simp only[acR] at d;obtain⟨⟨b,e⟩,c3⟩:=d;exact .mk ⟨ks,ks,Lin,_,l,b,b,e,c3,h,k⟩
end
theorem Jl:∀l:List Bool,aL (iS kW) l=aL (Iy kW) l
 | []=>rfl
 | b::l=>by rw[aL,aL,Jl l];congr 1;exact(nk _).symm
set_option maxHeartbeats 4000000 in
theorem t15 (i:uQ) (x:Wd) (hb:6*(yP i x).bulk<=70368744177600):CallsT PZ 15 [.agg (yK i x)] [] (gL [] (.sl (ah (kg x)))):=by
 have b0:(yP i x).bulk=(Br i).bulk+(((G.aaL (x.cells.map xK)+1)+((G.aaL (x.arenas.map G.bool)+1)+0)+1)+((G.aaL (x.tasks.map wP)+1)+((G.aaL (x.channels.map vW)+1)+((G.aaL (x.outputs.map Cz)+1)+(1+(1+(1+0)))))))+1:=rfl;rw[b0] at hb;have b1:=VR x.arenas;have l0:cB.length=3:=rfl;have l1:((cB,false):WS).1.length=3:=rfl;refine au Tryz.func15 PJ rfl fun hw ho=>?_;have n:Wf (.sl (x.cells.map tY)):=hw.1.2.2.2.1;have ax:Wf (.sl (x.tasks.map vM)):=hw.1.2.2.2.2.2.1;have az:Wf (.sl (x.channels.map DX)):=hw.1.2.2.2.2.2.2.1;have bp:Wf (.sl (x.outputs.map GR)):=hw.1.2.2.2.2.2.2.2.1;refine cO [10,8] (t51 (x.cells.map tY).length (cB,false) (by omega)) rfl rfl rfl rfl ?_;rintro v Mo ⟨t1,rfl,rfl,w⟩ _ _;refine⟨rfl,?_⟩;have cy:=w.len;rw[bL] at w;have r1:t1.1.length+6*G.aaL (x.cells.map xK)<=70368744177664:=by omega
 refine aP x.cells.length 4 [] t1 (fun _=>[]) Yt (fun k s=>LW (Fp kW) xK x.cells t1 k s) Oq (af rfl) trivial ⟨bJ,bJ,trivial⟩ ?_;rintro kA sA dl c _ _ _;refine aF (fun h=>?_) (fun bc=>?_)
 rotate_left
 have r:=c.fin (.inl (by rw[bL] at bc;omega))
 rotate_left
 have h:kA<x.cells.length:=by rw[bL] at h;omega
 have du:=bw n;obtain⟨xA,l⟩:=aO h;refine aj (fun dp=>?_) (fun bd=>?_)
 ·have aw:=c.room l (by assumption);have bA:(xK xA).bulk=1+(1+((nC xA.value).bulk+0))+1:=rfl;rw[bA] at aw;refine AA l ?_;refine cO [10,8] (Yq [xA.live] sA (by simp only[xo,acV];omega)) rfl rfl rfl rfl ?_;rintro v Mo ⟨u1,rfl,rfl,ab⟩ _ _;refine⟨rfl,?_⟩;have bz:=ab.len;simp only[xo,acV] at bz ab;refine AA l ?_;refine cO [10,8] (Ko [xA.arena] u1 (by simp only[xo,acV];omega)) rfl rfl rfl rfl ?_;rintro v Mo ⟨u2,rfl,rfl,ak⟩ _ _;refine⟨rfl,?_⟩;have ba:=ak.len;simp only[xo,acV] at ba ak;refine AA l ?_;refine cO [10,8] (t54 xA.value 60 u2 (by omega)) rfl rfl rfl rfl ?_;rintro v Mo ⟨u3,rfl,rfl,ao⟩ _ _;refine⟨rfl,?_⟩;have dt:=ao.len;refine bf ?_;exact⟨(kA+1,_),⟨h,c.next l ((ab.and (ak.and ao)).mono (by rw[bA];omega))⟩,⟨aR,trivial⟩,⟨bJ,bJ,trivial⟩,aS h⟩
 have r:=c.fin (.inr (DU bd))
 all_goals
  have qz:=r.len;refine cO [10,8] (t51 (x.arenas.map Af).length sA (by omega)) rfl rfl rfl rfl ?_;rintro v Mo ⟨t2,rfl,rfl,ac⟩ _ _;refine⟨rfl,?_⟩;have cw:=ac.len;rw[bL] at ac;refine cO [10,8] (Yq x.arenas t2 (by omega)) rfl rfl rfl rfl ?_;rintro v Mo ⟨t3,rfl,rfl,am⟩ _ _;refine⟨rfl,?_⟩;have dq:=am.len;have ap:qd (bI kW (Iy kW) x.arenas) (6*(G.sl 1 (x.arenas.map G.bool)).bulk) _ t3:=(ac.and am).to (by rw[bI];congr 1;exact Jl _) (by simp only[G.bulk];omega);refine cO [10,8] (t51 (x.tasks.map vM).length t3 (by omega)) rfl rfl rfl rfl ?_;rintro v Mo ⟨t4,rfl,rfl,u⟩ _ _;refine⟨rfl,?_⟩;have dv:=u.len;rw[bL] at u;have r4:t4.1.length+6*G.aaL (x.tasks.map wP)<=70368744177664:=by omega
  refine aP x.tasks.length 5 [] t4 (fun _=>[]) Yt (fun k s=>LW (Du kW) wP x.tasks t4 k s) Oq (af rfl) trivial ⟨bJ,bJ,trivial⟩ ?_;rintro kB sB da d _ _ _;refine aF (fun j=>?_) (fun bx=>?_)
  rotate_left
  have ag:=d.fin (.inl (by rw[bL] at bx;omega))
  rotate_left
  have j:kB<x.tasks.length:=by rw[bL] at j;omega
  have db:=bw ax;obtain⟨xB,ae⟩:=aO j;refine aj (fun okB=>?_) (fun bb=>?_)
  ·have bu:=d.room ae (by assumption);refine bK ae rfl rfl ?_;refine cO [10,8] (t55 xB sB (bu)) rfl rfl rfl rfl ?_;rintro v Mo ⟨v1,rfl,rfl,an⟩ _ _;refine⟨rfl,?_⟩;have cM:=an.len;refine bf ?_;exact⟨(kB+1,_),⟨j,d.next ae (an)⟩,⟨aR,trivial⟩,⟨bJ,bJ,trivial⟩,aS j⟩
  have ag:=d.fin (.inr (DU bb))
  all_goals
   have qy:=ag.len;refine cO [10,8] (t51 (x.channels.map DX).length sB (by omega)) rfl rfl rfl rfl ?_;rintro v Mo ⟨t5,rfl,rfl,y⟩ _ _;refine⟨rfl,?_⟩;have dk:=y.len;rw[bL] at y;have r5:t5.1.length+6*G.aaL (x.channels.map vW)<=70368744177664:=by omega
   refine aP x.channels.length 6 [] t5 (fun _=>[]) Yt (fun k s=>LW (GU kW) vW x.channels t5 k s) Oq (af rfl) trivial ⟨bJ,bJ,trivial⟩ ?_;rintro kC sC dd b _ _ _;refine aF (fun e=>?_) (fun bm=>?_)
   rotate_left
   have aa:=b.fin (.inl (by rw[bL] at bm;omega))
   rotate_left
   have e:kC<x.channels.length:=by rw[bL] at e;omega
   have cX:=bw az;obtain⟨xC,p⟩:=aO e;refine aj (fun dj=>?_) (fun ay=>?_)
   ·have be:=b.room p (by assumption);refine bK p rfl rfl ?_;refine cO [10,8] (t56 xC sC (be)) rfl rfl rfl rfl ?_;rintro v Mo ⟨w1,rfl,rfl,n⟩ _ _;refine⟨rfl,?_⟩;have cz:=n.len;refine bf ?_;exact⟨(kC+1,_),⟨e,b.next p (n)⟩,⟨aR,trivial⟩,⟨bJ,bJ,trivial⟩,aS e⟩
   have aa:=b.fin (.inr (DU ay))
   all_goals
    have qv:=aa.len;refine cO [10,8] (t51 (x.outputs.map GR).length sC (by omega)) rfl rfl rfl rfl ?_;rintro v Mo ⟨t6,rfl,rfl,ad⟩ _ _;refine⟨rfl,?_⟩;have cY:=ad.len;rw[bL] at ad;have r6:t6.1.length+6*G.aaL (x.outputs.map Cz)<=70368744177664:=by omega
    refine aP x.outputs.length 7 [] t6 (fun _=>[]) Yt (fun k s=>LW (F9 kW) Cz x.outputs t6 k s) Oq (af rfl) trivial ⟨bJ,bJ,trivial⟩ ?_;rintro kD sD cs a _ _ _;refine aF (fun f=>?_) (fun bv=>?_)
    rotate_left
    have z:=a.fin (.inl (by rw[bL] at bv;omega))
    rotate_left
    have f:kD<x.outputs.length:=by rw[bL] at f;omega
    have dr:=bw bp;obtain⟨xD,m⟩:=aO f;refine aj (fun okD=>?_) (fun bo=>?_)
    ·have aE:=a.room m (by assumption);have bD:(Cz xD).bulk=1+(1+0)+1:=rfl;rw[bD] at aE;refine bK m rfl rfl ?_;refine bK m rfl rfl ?_;refine R3 [10,8] (Ko [xD.task,xD.number] sD (by simp only[xo,acV];omega)) rfl rfl rfl rfl ?_;rintro v Mo ⟨y1,rfl,rfl,bt⟩ _ _;refine⟨rfl,?_⟩;refine bf ?_;exact⟨(kD+1,_),⟨f,a.next m (bt.mono (by rw[bD];simp only[xo,acV];omega))⟩,⟨aR,trivial⟩,⟨bJ,bJ,trivial⟩,aS f⟩
    have z:=a.fin (.inr (DU bo))
    all_goals
     have qu:=z.len;refine cO [10,8] (Ko [x.made,x.dropped,x.closed] sD (by simp only[xo,acV];omega)) rfl rfl rfl rfl ?_;rintro v Mo ⟨t7,rfl,rfl,t⟩ _ _;refine⟨rfl,?_⟩;have bl:=t.len;simp only[xo,acV] at bl t;have o:qd (mQ kW x) (6*(yP i x).bulk) (cB,false) t7:=((lK (sz:=10) w r).and (ap.and ((lK (sz:=7) u ag).and ((lK (sz:=1) y aa).and ((lK (sz:=2) ad z).and t))))).mono (by rw[b0];simp only[G.bulk];omega);refine aj (fun bad=>?_) (fun al=>?_)
     ·exact aM rfl (j3 (fun q=>C.sl (ah q)) (Oh o bad))
     refine VQ 8 (VP t7.1) rfl rfl fun _=>?_;refine m9 (bs:=l8 t7.1) t7.1.length aG (by rw[AB];omega) ?_;exact YM [8] [] ⟨_,_,rfl,rfl,rfl,rfl,j3 C.sl (by rw[uP,<-R2 o al];rfl)⟩
end Go.Fr.Tryz
