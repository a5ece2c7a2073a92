/- Part of the proofs of the statements of this seat. -/
import Derived.Test.YthfdbepkalpplaaUnH1G
import Derived.Test.YthfdbepkalpplaaTrCode
set_option maxRecDepth 10000
set_option linter.unusedVariables false
set_option linter.unusedSimpArgs false
namespace Go.Fr.Try
open Go Go.RowKit Go.Proofs Go.Fr Go.Fr.T Go.Fr.Api
def zT:Ty:=.mk 0 0 []
def iT:Ty:=.mk 1 0 []
def bx (t:Ty):Ty:=.mk 3 0 [t]
def two:List Ty:=[zT,zT]
theorem cN {t:Ty}(h:decide (cnt t<=100)=true):ji t:=HI t (by have:=abt h;omega)
theorem gU {t:Ty}(h:decide (cu t<=100)=true):cu t<=2 ^ 40:=by have:=abt h;omega
theorem Mj:∀x∈two,ji x:=fun x a=>by
 rcases aaT.1 a with rfl | a
 ·exact cN rfl
 ·rw[abH.1 a];exact cN rfl
theorem Mk:∃d o,bJ two 10=some (some (d,o)):=⟨_,_,rfl⟩
theorem u1:CallsT P 23 [.sl (two.map aI),aV (bx (vr 0)),aV (bx iT)] [] (aU [] (.tup [.sl ([iT,zT].map aI),IC 0])) :=
 EC (by decide) Mj (cN rfl) (cN rfl) (gU rfl) (gU rfl) (m:=10) [iT,zT] [iT,zT] [(0,1)] [(0,true)] 2 Mk rfl rfl rfl ⟨_,_,rfl⟩ (by decide) rfl
theorem u2:CallsT P 23 [.sl (two.map aI),aV (vr 0),aV (vr 1)] [] (aU [] (.tup [.sl ([zT,vr 0].map aI),IC 0])) :=
 EC (by decide) Mj (cN rfl) (cN rfl) (gU rfl) (gU rfl) (m:=10) [zT,vr 0] [zT,vr 0] [(1,1)] [(1,true)] 1 Mk rfl rfl rfl ⟨_,_,rfl⟩ (by decide) rfl
theorem u3:CallsT P 23 [.sl (two.map aI),aV (bx (vr 0)),aV (.mk 4 0 [vr 0])] [] (aU [] (.tup [.sl [],IC 8])) :=
 Mi (by decide) Mj (cN rfl) (cN rfl) (gU rfl) (gU rfl) (m:=10) Mk rfl rfl
theorem a1:CallsT P 22 [.sl ([iT,zT].map aI),aV (bx (vr 0))] [] (aU [] (aV (bx iT))) :=
 apply [iT,zT] 10 (bx (vr 0)) (bx iT) [(0,1)] [(0,true)] rfl (fun x a=>by
  rcases aaT.1 a with rfl | a
  ·exact cN rfl
  ·rw[abH.1 a];exact cN rfl) (cN rfl) rfl
section
variable {L:TL}{ρ:aM}
end
theorem UR.no {n m:Nat}{s:List Ty}{a b:Ty}{r:List Ty}{e:Int}(f:UR n s a b r e) (h1:∃d o,bJ s m=some (some (d,o))) (h:nD s a b=true) (c:lQ m s a b=some none):e=8:=by
 obtain⟨d,o,h1⟩:=h1;rcases f with⟨s',g,_⟩ | ⟨g,rfl⟩
 ·have:=kP c g.2.2.1;cases this
 ·rcases g with⟨q,_⟩ | ⟨_,⟨q,_⟩ | ⟨_,⟨_,q⟩ | ⟨s',q,_⟩⟩⟩
  ·have:=iS h1 q;cases this
  ·rw[h] at q;cases q
  ·exact q
  ·have:=kP c q;cases this
def zeros (m:Nat):List Ty:=List.replicate m (.mk 0 0 [])
theorem Ga {m:Nat}{t x:Ty}(h:bW (zeros m) t=some x):x=.mk 0 0 []:=by
 have:=qH h;exact(abU.1 this).2
theorem Gb (m n i:Nat) (hi:i<m):bI (zeros m) (n+1) (vr i) [] []=some (some (1,[],[])):=by
 have he:∃x,bW (zeros m) (vr i)=some x/\x∈zeros m:=za (sV (show i<(zeros m).length by rw[zeros,abk];exact hi)) rfl;obtain⟨x,he,_⟩:=he;have a:=Ga he;subst a;rw[Bx (x:=.mk 0 0 []) (by rw[eu (show(vr i).kind=9 from rfl)];exact he) rfl];rfl
theorem wj (m n:Nat):∀i,i<=m->dI (zeros m) (n+1) i=some (some (false,[],[]))
 | 0,_=>rfl
 | i+1,hi=>by
  rw[dI,wj m n i (by omega)];simp only;rw[Gb m n i (by omega)];rfl
theorem Gc (m n:Nat):∃d o,bJ (zeros m) (n+1)=some (some (d,o)):=by
 have b:(zeros m).length=m:=by rw[zeros,abk]
 refine⟨[],[],?_⟩;unfold bJ;rw[eu,b,wj m n m (aa0 _)]
 ·rfl
 ·rw[aaY];intro x a;rw[(abU.1 a).2];rfl
theorem BF {b:Bool}{A B:Prop}(h:b=true->A) (k:b=false->B):zP b A B:=by cases b;exact k rfl;exact h rfl
def ef (n:Int) (len:Nat):Bool:=decide (0<=n)&&decide (n<len)
theorem eM {n:Int}{len:Nat}:ef n len=true↔0<=n/\n<len:=by rw[ef,v5,aaZ,aaZ]
abbrev SM (f:Nat):Prop:=∀(els:List (List C)) (n:Int),CallsT P f [.sl els,IC n] [] (aU [] (.bool (ef n els.length)))
theorem YQ:SM 84:=fun els n=>by
 refine af Try.func84 O8 rfl fun a _=>?_;refine ah (fun h=>?_) (fun h=>?_)
 ·exact aC rfl (vv C.bool (by rw[ef,aaN (show(0:Int)<=n from h),aaS]))
 ·exact aC rfl (vv C.bool (by rw[ef,aaP (show¬(0:Int)<=n from h),aaV]))
theorem t85:SM 85:=fun els n=>by
 refine af Try.func85 O9 rfl fun a _=>?_;refine ah (fun h=>?_) (fun h=>?_)
 ·exact aC rfl (vv C.bool (by rw[ef,aaN (show(0:Int)<=n from h),aaS]))
 ·exact aC rfl (vv C.bool (by rw[ef,aaP (show¬(0:Int)<=n from h),aaV]))
theorem t86:SM 86:=fun els n=>by
 refine af Try.func86 Pb rfl fun a _=>?_;refine ah (fun h=>?_) (fun h=>?_)
 ·exact aC rfl (vv C.bool (by rw[ef,aaN (show(0:Int)<=n from h),aaS]))
 ·exact aC rfl (vv C.bool (by rw[ef,aaP (show¬(0:Int)<=n from h),aaV]))
theorem U1:SM 103:=fun els n=>by
 refine af Try.func103 K7 rfl fun a _=>?_;refine ah (fun h=>?_) (fun h=>?_)
 ·exact aC rfl (vv C.bool (by rw[ef,aaN (show(0:Int)<=n from h),aaS]))
 ·exact aC rfl (vv C.bool (by rw[ef,aaP (show¬(0:Int)<=n from h),aaV]))
theorem XJ:SM 108:=fun els n=>by
 refine af Try.func108 Ld rfl fun a _=>?_;refine ah (fun h=>?_) (fun h=>?_)
 ·exact aC rfl (vv C.bool (by rw[ef,aaN (show(0:Int)<=n from h),aaS]))
 ·exact aC rfl (vv C.bool (by rw[ef,aaP (show¬(0:Int)<=n from h),aaV]))
theorem XK:SM 111:=fun els n=>by
 refine af Try.func111 Lh rfl fun a _=>?_;refine ah (fun h=>?_) (fun h=>?_)
 ·exact aC rfl (vv C.bool (by rw[ef,aaN (show(0:Int)<=n from h),aaS]))
 ·exact aC rfl (vv C.bool (by rw[ef,aaP (show¬(0:Int)<=n from h),aaV]))
theorem XL:SM 112:=fun els n=>by
 refine af Try.func112 Lj rfl fun a _=>?_;refine ah (fun h=>?_) (fun h=>?_)
 ·exact aC rfl (vv C.bool (by rw[ef,aaN (show(0:Int)<=n from h),aaS]))
 ·exact aC rfl (vv C.bool (by rw[ef,aaP (show¬(0:Int)<=n from h),aaV]))
theorem XM (t:Ty):CallsT P 104 [aV t] [] (aU [] (.bool (iY t))):=by
 have e:iY t=(decide (1<=t.kind)&&decide (t.kind<=5)):=rfl;refine af Try.func104 K8 rfl fun a _=>?_;refine ah (fun h=>?_) (fun h=>?_)
 ·exact aC rfl (vv C.bool (by rw[e,aaN (show(1:Int)<=t.kind from h),aaS]))
 ·exact aC rfl (vv C.bool (by rw[e,aaP (show¬(1:Int)<=t.kind from h),aaV]))
theorem VL (n:Int):CallsT P 71 [IC n] [] (aU [] (aV (.mk 5 n []))):=by
 refine af Try.func71 O1 rfl fun a _=>?_;exact aC rfl rfl
abbrev zq (x:Impl):C:=.agg (dH x)
abbrev mQ (p:Prog):C:=.agg (kg p)
theorem j4 {l:List Impl}{z:Int}{x:Impl}{K:List C->Prop}(h0:0<=z) (a:l[z.toNat]?=some x) (h:K (dH x)):uY (l.map dH) z 8 K :=
 ⟨_,h0,by rw[aa4,a];rfl,rfl,h⟩
theorem BG {l:List bh}{z:Int}{x:bh}{K:List C->Prop}(h0:0<=z) (a:l[z.toNat]?=some x) (h:K [IC x.param,IC x.trait]):uY (l.map aZ) z 2 K :=
 ⟨_,h0,by rw[aa4,a];rfl,rfl,h⟩
theorem XO (a b:List Ty) (t:∀x∈a,∀y,pT 80 [aV x,aV y] (x=y)):pT 67 [.sl (a.map aI),.sl (b.map aI),.fn 80 [] []] (a=b):=by
 refine af Try.func67 wY rfl fun u _=>?_;have n:(a.map aI).length=a.length:=by simp
 have hb:(b.map aI).length=b.length:=by simp
 have v:a.length<=9223372036854775807:=by have:=gZ u.1;rwa [n] at this
 refine aq (fun d=>?_) (fun d=>?_)
 ·have d:¬a.length=b.length:=fun e=>by
   rw[n,hb,e] at d;simp at d
  exact aC rfl (vv C.bool (ia (FL d)))
 have d:a.length=b.length:=by
  rw[n,hb] at d;simp at d;omega
 refine bX a.length 17 [] () (fun _=>[]) (fun _=>[]) (fun k _=>∀j<k,a[j]?=b[j]?) (fun j s=>fL s (by omega)) (ai rfl) trivial trivial (fun _=>rfl) (fun _=>rfl) ?_;rintro k ⟨⟩ r f _ _ _;refine ah (fun c=>?_) (fun m=>?_)
 ·have c:k<a.length:=by rw[n] at c;omega
  refine dP c fun x q o=>?_;refine dP (l:=b) (k:=k) (by omega) fun y p _=>?_;refine cL q ?_;refine cL p ?_;refine aY (t x o y) rfl fun _=>?_;refine aq (fun h=>?_) (fun h=>?_)
  ·have h:¬x=y:=He (by simpa using h);exact aC rfl (vv C.bool (ia (FM q p h)))
  ·have h:x=y:=Ee (by simpa using h);refine Fit.aaf (by omega) (by omega) ?_;exact⟨(k+1,()),⟨c,yS f q p h⟩,⟨bM,trivial⟩,trivial,bN c⟩
 ·have m:¬k<a.length:=by rw[n] at m;omega
  have r:k=a.length:=by omega
  exact aC rfl (vv C.bool (py (um rfl d.symm (r▸f))))
theorem YR:∀x y:Ty,pT 80 [aV x,aV y] (x=y):=fun x=>dc (p:=fun x=>∀y,pT 80 [aV x,aV y] (x=y)) (fun x a y=>by
  have b:(x.args.map aI).length=x.args.length:=by simp
  refine af Try.func80 O6 rfl fun c _=>?_;refine ah (fun h0=>?_) (fun h0=>aC rfl (vv C.bool (ia fun e=>h0 (by rw[e]))));refine ah (fun h1=>?_) (fun h1=>aC rfl (vv C.bool (ia fun e=>h1 (by rw[e]))));refine aY (XO x.args y.args a) rfl fun _=>?_;exact aC rfl (vv C.bool (vC ⟨fun h=>yT h0 h1 h,fun e=>by rw[e]⟩))) x
mutual
def fresh (n from':Int):Ty->Option Ty
 | .mk k i l=>if k<1\/5<k\/(k=5/\(i<0\/n<=i\/0<l.length)) then none else if k=5 then some (.mk 9 (from'+i) []) else match CW n from' l with
  | some l'=>some (.mk k i l')
  | none=>none
def CW (n from':Int):List Ty->Option (List Ty)
 | []=>some []
 | t::l=>match fresh n from' t,CW n from' l with
  | some t',some l'=>some (t'::l')
  | _,_=>none
end
theorem zu (n f:Int):∀l:List Ty,CW n f l=lA (fresh n f) l
 | []=>rfl
 | t::l=>by
  rw[CW,zu n f l,lA];rfl
theorem mP (n f:Int) (t:Ty):fresh n f t=if t.kind<1\/5<t.kind\/(t.kind=5/\(t.id<0\/n<=t.id\/0<t.args.length)) then none else if t.kind=5 then some (.mk 9 (f+t.id) []) else match lA (fresh n f) t.args with
  | some a=>some (.mk t.kind t.id a)
  | none=>none:=by
 cases t;rw[fresh,zu];rfl
def MT:Option Ty->Ty×Bool
 | some r=>(r,true)
 | none=>(zT,false)
def nE (n f:Int) (t:Ty):Ty×Bool:=MT (fresh n f t)
abbrev Gd (n f:Int) (t:Ty) (r:Ty×Bool):Prop:=CallsT P 74 [aV t,IC n,IC f] [] (aU [] (.tup [aV r.1,.bool r.2]))
theorem XP (n f:Int) (t:Ty) (h:t.kind<1\/5<t.kind\/(t.kind=5/\(t.id<0\/n<=t.id\/0<t.args.length))):Gd n f t (zT,false):=by
 have d:(t.args.map aI).length=t.args.length:=vz _;refine af Try.func74 CB rfl fun k _=>?_;refine ah (fun h1=>?_) (fun h1=>ah (fun a=>?_) (fun a=>ah (fun b=>ah (fun c=>?_) (fun c=>ah (fun e=>?_) (fun e=>?_))) (fun b=>?_)))
 ·refine ah (fun _=>aC rfl rfl) (fun q=>fL h1 q)
 ·refine ah (fun _=>aC rfl rfl) (fun q=>fL a q)
 ·exact aC rfl rfl
 ·exact aC rfl rfl
 ·refine ah (fun _=>aC rfl rfl) (fun j=>fL h (by omega))
 ·exact fL h (by omega)
theorem XQ (n f:Int) (t:Ty) (hf:0<=f/\f<=100) (m:n<=100) (h:¬(t.kind<1\/5<t.kind\/(t.kind=5/\(t.id<0\/n<=t.id\/0<t.args.length)))) (a:t.kind=5):Gd n f t (.mk 9 (f+t.id) [],true):=by
 have k:(t.args.map aI).length=t.args.length:=vz _;refine af Try.func74 CB rfl fun l _=>?_;refine ah (fun h1=>fL (Or.inl h1) h) (fun h1=>ah (fun d=>fL (Or.inr (Or.inl d)) h) (fun d=>ah (fun c=>ah (fun e=>fL (Or.inr (Or.inr ⟨a,Or.inl e⟩)) h) (fun e=>ah (fun b=>fL (Or.inr (Or.inr ⟨a,Or.inr (Or.inl b)⟩)) h) (fun b=>?_))) (fun c=>fL a c)));refine ah (fun j=>fL (Or.inr (Or.inr ⟨a,Or.inr (Or.inr (by omega))⟩)) h) (fun j=>?_);refine ah (fun _=>?_) (fun q=>fL a q);refine Fit.aaf (by omega) (by omega) ?_;exact aC rfl rfl
theorem XR (n f:Int) (t:Ty) (g:Ty->Ty×Bool) (hb:t.args.length<=2 ^ 30) (h:¬(t.kind<1\/5<t.kind\/(t.kind=5/\(t.id<0\/n<=t.id\/0<t.args.length)))) (u:¬t.kind=5) (y:∀x∈t.args,Gd n f x (g x)) :
  Gd n f t (if t.args.all (fun x=>(g x).2) then(.mk t.kind t.id (t.args.map fun x=>(g x).1),true) else(zT,false)):=by
 have d:(t.args.map aI).length=t.args.length:=vz _;refine af Try.func74 CB rfl fun hw _=>?_;refine ah (fun h1=>fL (Or.inl h1) h) (fun h1=>ah (fun s=>fL (Or.inr (Or.inl s)) h) (fun s=>ah (fun p=>fL p u) (fun p=>?_)));refine ah (fun q=>fL q u) (fun _=>?_);refine bX t.args.length 58 [] ([]:List Ty) (fun _=>[]) (fun s'=>[(6,.box 32 [IC 0,IC 0,.nils]),(8,.box 32 [IC t.kind,IC t.id,.rw 76]),(76,.row 32 3 (s'.map aI))]) (fun j s'=>s'=(t.args.take j).map (fun x=>(g x).1)/\(t.args.drop j).all (fun x=>(g x).2)=t.args.all (fun x=>(g x).2)) ⟨by simp,rfl⟩ (ai rfl) trivial
  ⟨.inl ⟨_,rfl,.inl ⟨rfl,rfl⟩⟩,.inl ⟨_,rfl,.inr ⟨32,_,_,rfl,rfl,_,_,rfl,ai rfl,_,_,rfl,ai rfl,_,_,rfl,sN rfl rfl,rfl⟩⟩,.inr ⟨rfl,32,3,rfl⟩,trivial⟩ (fun _=>rfl) (fun _=>rfl) ?_
 rintro j s' hj ⟨a,b⟩ _ _ _;have a:s'=(t.args.take j).map (fun x=>(g x).1):=a;have w:(s'.map aI).length=j:=by rw[a,vz,vz,abJ];omega
 refine ah (fun c=>?_) (fun l=>?_)
 ·have c:j<t.args.length:=by rw[d] at c;omega
  refine aX c fun x r o k=>?_;refine cL r ?_;refine aY (y x o) rfl fun _=>?_;refine aq (fun m=>?_) (fun m=>?_)
  ·have e:t.args.all (fun x=>(g x).2)=false:=by
    rw[<-b,k,abd,show(g x).2=false by simpa using m,aaV]
   exact aC rfl (by rw[e];rfl)
  ·have m:(g x).2=true:=by simpa using m
   refine rV j rfl w (by decide) (by omega) ?_;refine Fit.aaf (by omega) (by omega) ?_;refine⟨(j+1,s'++[(g x).1]),⟨c,?_,?_⟩,⟨bM,trivial⟩,⟨.inl ⟨_,rfl,.inl ⟨rfl,rfl⟩⟩,.inl ⟨_,rfl,.inl ⟨rfl,rfl⟩⟩,.inl ⟨_,rfl,.inl ⟨Ei I3,rfl⟩⟩,trivial⟩,bN c⟩
   ·show s'++[(g x).1]=(t.args.take (j+1)).map _;rw[gV r,a,abB];rfl
   ·have:=b;rw[k,abd,m,aaS] at this;exact this
 ·have l:¬j<t.args.length:=by rw[d] at l;omega
  have e:t.args.all (fun x=>(g x).2)=true:=by rw[<-b,List.drop_of_length_le (by omega),List.all_nil]
  have v:C.agg [IC t.kind,IC t.id,.sl (s'.map aI)]=aV (.mk t.kind t.id (t.args.map fun x=>(g x).1)):=by
   rw[a,abA (by omega)];rfl
  refine IG [76] [] ⟨_,[],rfl,rfl,rfl,rfl,?_⟩;rw[e];exact vv (fun z=>C.tup [z,.bool true]) v
theorem Ml {f:Ty->Option Ty}:∀l:List Ty,lA f l=if l.all (fun x=>(MT (f x)).2) then some (l.map fun x=>(MT (f x)).1) else none
 | []=>rfl
 | x::l=>by
  rw[lA,Ml l,abd,aaX];cases f x with
  | none=>rfl
  | some r =>
   rw[show(MT (some r)).2=true from rfl,show(MT (some r)).1=r from rfl,aaS]
   by_cases a:(l.all fun x=>(MT (f x)).2)=true
   ·rw[eu a,eu a]
   ·rw[fo a,fo a]
theorem YS (n f:Int) (hf:0<=f/\f<=100) (j:n<=100):∀t:Ty,ji t->Gd n f t (nE n f t):=dc fun t d hb=>by
 have hb:=(gu t).1 hb
 by_cases h:t.kind<1\/5<t.kind\/(t.kind=5/\(t.id<0\/n<=t.id\/0<t.args.length))
 ·have:=XP n f t h;rw[nE,mP,eu h];exact this
 by_cases b:t.kind=5
 ·have:=XQ n f t hf j h b;rw[nE,mP,fo h,eu b];exact this
 ·have:=XR n f t (nE n f) hb.1 h b fun x c=>d x c (hb.2 x c);have e:fresh n f t=if t.args.all (fun x=>(nE n f x).2) then some (.mk t.kind t.id (t.args.map fun x=>(nE n f x).1)) else none:=by
   rw[mP,fo h,fo b,Ml]
   by_cases a:(t.args.all fun x=>(MT (fresh n f x)).2)=true
   ·rw[eu a];exact(eu a).symm
   ·rw[fo a];exact(fo a).symm
  rw[nE,e]
  by_cases a:(t.args.all fun x=>(nE n f x).2)=true
  ·rw[eu a] at this ⊢;exact this
  ·rw[fo a] at this ⊢;exact this
def CX (s:List Ty) (a b:Ty):Prop:=∃n s',L5 n s a b s'
theorem UR.ok {n:Nat}{s:List Ty}{a b:Ty}{r:List Ty}{e:Int}(u:UR n s a b r e):e=0↔CX s a b:=by
 constructor
 ·rintro rfl;rcases u with⟨s',g,_⟩ | ⟨g,_⟩
  ·exact⟨n,s',g⟩
  ·have:=g.three;omega
 ·rintro⟨m,s',g⟩;rcases u with⟨_,_,_,h⟩ | ⟨q,_⟩
  ·exact h
  ·obtain⟨⟨d,o,h1⟩,y,w,d1,o1,k,d2,o2,v,t,hk⟩:=g;exfalso;rcases q with⟨q,_⟩ | ⟨_,⟨q,_⟩ | ⟨_,⟨q,_⟩ | ⟨x,q,_,j⟩⟩⟩
   ·have:=iS h1 q;cases this
   ·rw[y] at q;cases q
   ·have:=kP w q;cases this
   ·have p:=kP w q;injection p with p
    subst p;rcases j with j | ⟨d',o',j,c⟩
    ·have:=iS v j;cases this
    ·have f:=iS v j;injection f with f
     injection f with f e3
     subst f e3;rcases c with c | ⟨k',z,aa,c,q4⟩
     ·have:=uD t c;cases this
     ·have l:=uD t c;injection l with l
      injection l with l
      omega
def Rb (a b:Impl):Prop:=a.trait=b.trait/\0<=a.params/\0<=b.params/\a.params<=4/\b.params<=4/\∃x y,fresh a.params 0 a.type=some x/\fresh b.params a.params b.type=some y/\CX (zeros (a.params+b.params).toNat) x y
theorem xj {n f:Int}:∀t r:Ty,fresh n f t=some r->ji t->ji r/\cu r=cu t:=dc (p:=fun t=>∀r,fresh n f t=some r->ji t->ji r/\cu r=cu t) fun t e r h hb=>by
 rw[mP] at h;split at h
 ·cases h
 ·rename_i m;split at h
  ·rename_i o;injection h with h
   subst h;have k:t.args=[]:=abu (by omega);exact⟨(gu _).2 ⟨aa8 _,fun x h=>by cases h⟩,by rw[di t,k];rfl⟩
  ·cases b:lA (fresh n f) t.args with
   | none=>rw[b] at h;cases h
   | some l =>
    rw[b] at h;injection h with h
    subst h;obtain⟨h1,j⟩:=jH b;have hb:=(gu t).1 hb;have key:∀x∈t.args,ji ((fresh n f x).getD x)/\cu ((fresh n f x).getD x)=cu x:=fun x a=>e x a _ (h1 x a) (hb.2 x a);refine⟨(gu _).2 ⟨by show l.length<=_;rw[j,vz];exact hb.1,fun y c=>?_⟩,?_⟩
    ·have c:y∈l:=c;rw[j] at c;obtain⟨x,a,rfl⟩:=abq.1 c;exact(key x a).1
    ·rw[di,di t];show cG l+1=_;have:∀d:List Ty,(∀x∈d,cu ((fresh n f x).getD x)=cu x)->cG (d.map fun x=>(fresh n f x).getD x)=cG d:=by
      intro d
      induction d with
      | nil=>exact fun _=>rfl
      | cons x d e=>intro b;rw[aaX,cG,cG,b x (by simp),e fun y c=>b y (by simp[c])]
     rw[j,this t.args fun x a=>(key x a).2]
abbrev Mn (f:Nat) (a b:Impl):Prop:=CallsT P f [zq a,zq b] [] (aU [] (.bool (uP (Rb a b))))
theorem U2 (a b:Impl) (h:¬(a.trait=b.trait/\0<=a.params/\0<=b.params/\a.params<=4/\b.params<=4)):Mn 32 a b:=by
 have j:¬Rb a b:=fun q=>h ⟨q.1,q.2.1,q.2.2.1,q.2.2.2.1,q.2.2.2.2.1⟩;have e:=ia j;refine af Try.func32 G6 rfl fun c _=>?_;refine aR (fun _=>?_) (fun h1=>?_)
 ·exact aC rfl (vv C.bool e)
 refine⟨Sw (by exact c.1.2.2.1) (by exact c.2.1.2.2.1),?_⟩;refine ah (fun _=>?_) (fun f=>?_)
 ·exact aC rfl (vv C.bool e)
 refine⟨FR (by exact c.1.2.2.1) (by exact c.2.1.2.2.1),?_⟩;refine ah (fun _=>?_) (fun d=>?_)
 ·exact aC rfl (vv C.bool e)
 have f:¬(if b.params<a.params then b.params else a.params)<0:=f;have d:¬(if b.params>a.params then b.params else a.params)>4:=d;exact fL ⟨h1,by split at f<;>split at d<;>omega⟩ h
section
variable {L:TL}{ρ:aM}
theorem P1 (l:Nat) {t sz:Nat}{els:List (List C)}{n:Nat}{s:List Ty}{a b:Ty}{args f:List C}{K:TL->aM->C->Prop}{d:Option Nat}(h:CallsT P 23 f [] (RN n s a b)) (he:DH P 23) (p:L.get l=some (.row t sz els)) (w:(args.map fun c=>(c.frz l els).aaj.ren (bB [] 1000))=f)
  (k:∀r e,UR n s a b r e->Wf (.tup [.sl (r.map aI),IC e])->K ((L.aad (C.kill l)).set l (.row t sz [])) (fun j=>(ρ j).kill l) (C.tup [.sl (r.map aI),IC e])):uZ P 23 args L ρ d K:=by
 subst w;exact .row _ l t sz els he p h fun v Mo ⟨q,r,e,m,o⟩ u=>by subst q o;exact⟨rfl,k r e m u⟩
end
theorem U3:DH P 23:=⟨Try.f23,Try.func23,by kernel_rfl,by kernel_rfl⟩
theorem Rc (a b:Impl) (h:a.trait=b.trait/\0<=a.params/\0<=b.params/\a.params<=4/\b.params<=4) (x y:Ty×Bool) (h1:Gd a.params 0 a.type x) (s:Gd b.params a.params b.type y) (m:Nat) (u:(m:Int)=a.params+b.params) (v:Bool)
  (p:x.2=false->v=false) (o:y.2=false->v=false) (n:Nat) (c:x.2=true->y.2=true->CallsT P 23 [.sl (List.replicate m [IC 0,IC 0,.sl []]),aV x.1,aV y.1] [] (RN n (zeros m) x.1 y.1)/\∀r e,UR n (zeros m) x.1 y.1 r e->decide (e=0)=v):CallsT P 32 [zq a,zq b] [] (aU [] (.bool v)):=by
 obtain⟨x,k⟩:=x;obtain⟨y,l⟩:=y;generalize f:UR=U at c;refine af Try.func32 G6 rfl fun d _=>?_;refine aR (fun q=>fL h.1 q) (fun _=>?_);refine⟨Sw (by exact d.1.2.2.1) (by exact d.2.1.2.2.1),?_⟩;refine ah (fun q=>?_) (fun _=>?_)
 ·have q:(if b.params<a.params then b.params else a.params)<0:=q;exact fL q (by split<;>omega)
 refine⟨FR (by exact d.1.2.2.1) (by exact d.2.1.2.2.1),?_⟩;refine ah (fun q=>?_) (fun _=>?_)
 ·have q:(if b.params>a.params then b.params else a.params)>4:=q;exact fL q (by split<;>omega)
 refine aY h1 rfl fun _=>?_;refine aY s rfl fun _=>?_;refine aq (fun q=>?_) (fun q=>?_)
 ·exact aC rfl (vv C.bool (p (by simpa using q)).symm)
 refine aq (fun j=>?_) (fun j=>?_)
 ·exact aC rfl (vv C.bool (o (by simpa using j)).symm)
 have c:=c (by simpa using q) (by simpa using j);refine Br (m:=(m:Int)) (by rw[IntKind.wrap_i64];omega) ?_;refine nk.mk (by omega) (abb _) (by omega) (by simp only[maxLen];omega) ?_;subst f;refine P1 62 c.1 U3 rfl rfl fun r e t _=>?_;exact aC rfl (vv C.bool (c.2 r e t))
theorem t32 (a b:Impl) (u:ji a.type) (hb:ji b.type) (am:cu a.type<=2 ^ 40) (ag:cu b.type<=2 ^ 40):Mn 32 a b:=by
 by_cases h:a.trait=b.trait/\0<=a.params/\0<=b.params/\a.params<=4/\b.params<=4
 ·have h1:=YS a.params 0 (by omega) (by omega) a.type u;have t:=YS b.params a.params (by omega) (by omega) b.type hb;have p:∀{o:Option Ty},(MT o).2=true->o=some (MT o).1:=fun{o} h=>by cases o with | none=>cases h | some r=>rfl
  have v:∀{o:Option Ty}{r:Ty},o=some r->(MT o).2=true:=fun{o} {r} h=>by rw[h];rfl
  by_cases c:(nE a.params 0 a.type).2=true/\(nE b.params a.params b.type).2=true
  ·have ex:=p c.1;have j:=p c.2;obtain⟨k,aa⟩:=xj a.type _ ex u;obtain⟨l,w⟩:=xj b.type _ j hb;have z:(zeros (a.params+b.params).toNat).length=(a.params+b.params).toNat:=by rw[zeros,abk]
   obtain⟨n,m,_⟩:=F9 (s:=zeros (a.params+b.params).toNat) (by rw[z];omega) (fun x c=>by rw[(abU.1 c).2];exact(gu _).2 ⟨aa8 _,fun x h=>by cases h⟩) k l (by omega) (by omega);have hz:(zeros (a.params+b.params).toNat).map aI=List.replicate (a.params+b.params).toNat [IC 0,IC 0,.sl []]:=by rw[zeros,abW];rfl
   rw[hz] at m;refine Rc a b h _ _ h1 t (a.params+b.params).toNat (by omega) _ (fun q=>by rw[c.1] at q;cases q) (fun q=>by rw[c.2] at q;cases q) n fun _ _=>⟨m,fun r e hr=>Pu (hr.ok.trans ?_)⟩;constructor
   ·exact fun q=>⟨h.1,h.2.1,h.2.2.1,h.2.2.2.1,h.2.2.2.2,_,_,ex,j,q⟩
   ·rintro⟨_,_,_,_,_,x,y,f,d,q⟩;rw[ex] at f;rw[j] at d;injection f with f
    injection d with d
    subst f d;exact q
  ·have hv:¬Rb a b:=fun⟨_,_,_,_,_,x,y,f,d,_⟩=>c ⟨v f,v d⟩;have e:=ia hv;refine Rc a b h _ _ h1 t (a.params+b.params).toNat (by omega) _ (fun _=>e.symm) (fun _=>e.symm) 0 fun q1 q2=>fL ⟨q1,q2⟩ c
 ·exact U2 a b h
mutual
def qJ (q:Int->Bool):Ty->Bool
 | .mk k i l=>if k=9 then q i else HJ q l
def HJ (q:Int->Bool):List Ty->Bool
 | []=>true
 | t::l=>qJ q t&&HJ q l
end
theorem BH (q:Int->Bool):∀l:List Ty,HJ q l=l.all (qJ q)
 | []=>rfl
 | t::l=>by rw[HJ,BH q l];rfl
theorem iU (q:Int->Bool) (t:Ty):qJ q t=if t.kind=9 then q t.id else t.args.all (qJ q):=by
 cases t;rw[qJ,BH];rfl
theorem uE {q q':Int->Bool}{n:Int}(h:∀w,0<=w->w<n->q w=true->q' w=true):∀t:Ty,ins n t=true->qJ q t=true->qJ q' t=true:=dc fun t j f c=>by
 rw[iU] at c ⊢
 by_cases e:t.kind=9
 ·rw[eu e] at c ⊢;obtain⟨a,b,_⟩:=pE f e;exact h _ a b c
 ·rw[fo e,aaY] at c ⊢;exact fun x d=>j x d (fe f x d) (c x d)
def kn (s:List Ty):Nat->Int->Bool
 | 0,_=>false
 | j+1,v=>match s[v.toNat]? with
  | none=>true
  | some x=>decide (x.kind=0)||qJ (kn s j) x
theorem zw {s:List Ty}(c:EX s):∀(j:Nat) (v:Int),kn s j v=true->kn s (j+1) v=true
 | 0,v,h=>by cases h
 | j+1,v,h=>by
  rw[kn] at h ⊢;cases b:s[v.toNat]? with
  | none=>rfl
  | some x =>
   rw[b] at h;simp only at h ⊢
   by_cases a:x.kind=0
   ·rw[aaN a];rfl
   ·rw[aaP a,Bool.false_or] at h ⊢;exact uE (fun w _ _=>zw c j w) x ((c x (aaW b)).resolve_left a) h
theorem P2 {s:List Ty}(o:EX s) {j:Nat}{t:Ty}(h:j8 s t):ins s.length t=true->qJ (kn s j) t=false->∃i:Nat,i<s.length/\kn s j i=false/\kn s (j+1) i=true:=by
 induction h with
 | @step t x b he f _ k =>
  intro d a;obtain⟨p,c,l⟩:=bP he
  by_cases n:qJ (kn s j) x=true
  ·rw[iU,eu b] at a;have e:((t.id.toNat:Nat):Int)=t.id:=by omega
   refine⟨t.id.toNat,l,by rw[e];exact a,?_⟩;rw[kn,e,c];simp only;rw[n,Bool.or_true]
  ·exact k (o.elem he f) (by simpa using n)
 | @stop t x b he f _ _ =>
  intro d a;obtain⟨p,c,l⟩:=bP he;rw[iU,eu b] at a;have e:((t.id.toNat:Nat):Int)=t.id:=by omega
  refine⟨t.id.toNat,l,by rw[e];exact a,?_⟩;rw[kn,e,c];simp only;rw[aaN f,Bool.true_or]
 | @arg t b _ k =>
  intro d a;rw[iU,fo b,List.all_eq_false] at a;obtain⟨y,m,a⟩:=a;exact k y m (fe d y m) (by simpa using a)
def rM (q:Nat->Bool):Nat->Nat
 | 0=>0
 | n+1=>(if q n=true then 1 else 0)+rM q n
theorem HK (q:Nat->Bool):∀n,rM q n<=n
 | 0=>aa0 _
 | n+1=>by have:=HK q n;rw[rM];split<;>omega
theorem BI {q q':Nat->Bool}(h:∀i,q i=true->q' i=true):∀n,rM q n<=rM q' n
 | 0=>aa0 _
 | n+1=>by
  have:=BI h n;rw[rM,rM]
  by_cases a:q n=true
  ·rw[eu a,eu (h n a)];omega
  ·rw[fo a];split<;>omega
theorem HL {q q':Nat->Bool}(h:∀i,q i=true->q' i=true) {i:Nat}(h1:q i=false) (b:q' i=true):∀n,i<n->rM q n<rM q' n
 | 0,hi=>fL hi (abz _)
 | n+1,hi=>by
  rw[rM,rM]
  by_cases e:i=n
  ·subst e;have:=BI h i;rw[fo (by rw[h1];exact aa7),eu b];omega
  ·have:=HL h h1 b n (by omega)
   by_cases a:q n=true
   ·rw[eu a,eu (h n a)];omega
   ·rw[fo a];split<;>omega
theorem BJ {q:Nat->Bool}:∀{n},n<=rM q n->∀i<n,q i=true
 | 0,_,i,hi=>fL hi (abz _)
 | n+1,h,i,hi=>by
  rw[rM] at h;have:=HK q n
  by_cases a:q n=true
  ·rw[eu a] at h
   by_cases e:i=n
   ·rw[e];exact a
   ·exact BJ (n:=n) (q:=q) (by omega) i (by omega)
  ·rw[fo a] at h;omega
theorem Good.kn {s:List Ty}(g:Good s):∀i:Nat,i<s.length->Try.kn s s.length i=true:=by
 have k:∀j,j<=s.length->j<=rM (fun i=>Try.kn s j i) s.length:=by
  intro j
  induction j with
  | zero=>exact fun _=>aa8 _
  | succ j e =>
   intro f;have e:=e (by omega)
   by_cases a:∀i:Nat,i<s.length->Try.kn s j i=true
   ·have:∀n,n<=s.length->n<=rM (fun i=>Try.kn s (j+1) i) n:=by
     intro n
     induction n with
     | zero=>exact fun _=>aa8 _
     | succ n c =>
      intro o;have:=c (by omega);rw[rM,eu (zw g.ins j n (a n (by omega)))];omega
    exact abv f (this s.length (aa0 _))
   ·have:∃i:Nat,i<s.length/\Try.kn s j i=false:=by
     refine Classical.byContradiction fun b=>a fun i hi=>?_;cases d:Try.kn s j i with
     | true=>rfl
     | false=>exact fL ⟨i,hi,d⟩ b
    obtain⟨i,hi,d⟩:=this;obtain⟨m,h1,l,h⟩:=P2 g.ins (j:=j) (g.fin i hi) (sV hi) (by rw[iU,eu (show(vr i).kind=9 from rfl)];exact d);have:=HL (q:=fun i=>Try.kn s j i) (q':=fun i=>Try.kn s (j+1) i) (fun i=>zw g.ins j i) (i:=m) l h s.length h1;omega
 exact BJ (k s.length (aa0 _))
theorem Mp {p:Nat->Prop}:∀n,p n->∃m,m<=n/\p m/\∀k<m,¬p k
 | 0,h=>⟨0,aa0 _,h,fun k a=>fL a (abz _)⟩
 | n+1,h=>by
  by_cases e:∃k,k<=n/\p k
  ·obtain⟨k,a,h⟩:=e;have l:∀k,k<=n->p k->∃m,m<=k/\p m/\∀j<m,¬p j:=by
    intro k
    induction k using Nat.strongRecOn with
    | _ k f =>
     intro a h
     by_cases d:∃j,j<k/\p j
     ·obtain⟨j,c,b⟩:=d;obtain⟨m,m1,m2,m3⟩:=f j c (by omega) b;exact⟨m,by omega,m2,m3⟩
     ·exact⟨k,aa0 _,h,fun j c b=>d ⟨j,c,b⟩⟩
   obtain⟨m,m1,m2,m3⟩:=l k a h;exact⟨m,by omega,m2,m3⟩
  ·exact⟨n+1,aa0 _,h,fun k a b=>e ⟨k,by omega,b⟩⟩
structure Rk (s:List Ty) (ρ:Int->Nat):Prop where
 lt:∀i:Nat,i<s.length->ρ i<s.length
 dn:∀(i:Nat) (x:Ty),s[i]?=some x->¬x.kind=0->qJ (fun w=>decide (ρ w<ρ i)) x=true
theorem Good.aaH {s:List Ty}(g:Good s):∃ρ,Rk s ρ:=by
 have h:∀v:Int,∃m,(0<=v->v<s.length->m<s.length/\Try.kn s (m+1) v=true/\∀k<m,Try.kn s (k+1) v=false):=by
  intro v
  by_cases o:0<=v/\v<s.length
  ·have h1:=g.kn v.toNat (by omega);rw[show((v.toNat:Nat):Int)=v by omega] at h1;obtain⟨m,m1,m2,m3⟩:=Mp (p:=fun m=>Try.kn s (m+1) v=true) (s.length-1) (by rw[show s.length-1+1=s.length by omega];exact h1);exact⟨m,fun _ _=>⟨by omega,m2,fun k d=>by simpa using m3 k d⟩⟩
  ·exact⟨0,fun a b=>fL ⟨a,b⟩ o⟩
 refine⟨fun v=>(h v).choose,⟨fun i hi=>((h i).choose_spec (by omega) (by omega)).1,fun i x l d=>?_⟩⟩;have hi:i<s.length:=(aaR.1 l).1;obtain⟨a,b,c⟩:=(h i).choose_spec (by omega) (by omega);have e:=(g.ins x (aaW l)).resolve_left d;show qJ (fun w=>decide ((h w).choose<(h i).choose)) x=true;generalize q:(h (i:Int)).choose=m at a b c ⊢;rw[Try.kn,show((i:Nat):Int).toNat=i by omega,l] at b;simp only at b;rw[aaP d,Bool.false_or] at b;refine uE (fun w h0 h1 f=>?_) x e b;obtain⟨a',r,n⟩:=(h w).choose_spec h0 h1;cases m with
 | zero=>cases f
 | succ m =>
  rw[aaZ];have:=fun(k:Nat) (d:k<(h w).choose)=>n k d
  by_cases j:m<(h w).choose
  ·rw[n m j] at f;cases f
  ·omega
theorem SN {u:List Ty}{B:Nat}(e:∀x∈u,cu x<=B):∀t:Ty,cu (gs u t)<=cu t+B:=dc fun t d=>by
 by_cases b:t.kind=9
 ·rw[mO b];cases a:u[t.id.toNat]? with
  | none=>show cu (.mk 0 0 [])<=_;rw[show cu (.mk 0 0 [])=1 from rfl];have:=di t;omega
  | some x=>have:=e x (aaW a);show cu x<=_;omega
 ·rw[jx b,di,di t];have:cG (t.args.map (gs u))<=cG t.args+B:=wZ fun y c=>by
   obtain⟨x,a,rfl⟩:=abq.1 c;have:=d x a;have:=jY a;omega
  show cG (t.args.map (gs u))+1<=_;omega
def Rf (u:List Ty) (ex:Prop) (d:DM):Prop:=∀j k,br d j=some k->1<=k/\k<=cu (gs u (.mk 9 j []))/\(ex->k=cu (gs u (.mk 9 j [])))
def Mq (d:DM) (o:OM) (j:Int):Prop:=br o j=some true/\br d j=none
theorem P3 {n:Nat}(h:n<=2 ^ 50):zR ((n:Int)+1)=((n+1:Nat):Int):=by
 unfold zR;rw[IntKind.wrap_i64];omega
theorem uF {u s:List Ty}{ρ:Int->Nat}{ex:Prop}(hS:Sat u s) (hs:EX s) (hR:Rk s ρ) (hu:∀x∈u,cu x<=2 ^ 30) (ao:ex->∀(t:Ty) (x:Ty),t.kind=9->bW s t=some x->x.kind=0->cu (gs u t)=1) :
  ∀(n:Nat) (t:Ty) (d:DM) (o:OM) r,ins s.length t=true->cu t<=2 ^ 30->(∀x∈s,cu x<=2 ^ 30)->Rf u ex d->(∀j,Mq d o j->qJ (fun w=>decide (ρ w<ρ j)) t=true)->bI s n t d o=some r ->
   ∃k v o',r=some (k,v,o')/\1<=k/\k<=cu (gs u t)/\(ex->k=cu (gs u t))/\Rf u ex v/\∀j,Mq v o' j->Mq d o j
 | 0,t,d,o,r,_,_,_,_,_,h=>by cases h
 | n+1,t,d,o,r,ht,ci,an,hd,ho,h=>by
  have hL:∀(l:List Ty) (k:Int) (d:DM) (o:OM) r,(∀x∈l,ins s.length x=true/\cu x<=2 ^ 30/\∀j,Mq d o j->qJ (fun w=>decide (ρ w<ρ j)) x=true)->Rf u ex d->eH (bI s n) l k d o=some r ->
    ∃k' v o',r=some (k',v,o')/\(∀m:Nat,k<=m->k'<=(max m (cG (l.map (gs u))):Nat))/\k<=k'/\(ex->∀m:Nat,k=m->k'=(max m (cG (l.map (gs u))):Nat))/\Rf u ex v/\∀j,Mq v o' j->Mq d o j:=by
   intro l
   induction l with
   | nil =>
    intro k d o r _ hd h;rw[eH] at h;injection h with h
    refine⟨k,d,o,h.symm,fun m hm=>?_,abb _,fun _ m hm=>?_,hd,fun j h=>h⟩
    ·rw[abC,cG];omega
    ·rw[abC,cG];omega
   | cons x l ih =>
    intro k d o r z hd h;rw[eH] at h;obtain⟨bc,bi,bj⟩:=z x (by simp);cases hx:bI s n x d o with
    | none=>rw[hx] at h;cases h
    | some r1 =>
     rw[hx] at h;obtain⟨k1,d1,o1,rfl,c1,c2,c3,c4,c5⟩:=uF hS hs hR hu ao n x d o r1 bc bi an hd bj hx;simp only at h;obtain⟨k2,d2,o2,rfl,e1,e2,e3,e4,e5⟩:=ih _ d1 o1 r (fun y hy=>⟨(z y (by simp[hy])).1,(z y (by simp[hy])).2.1,fun j c=>(z y (by simp[hy])).2.2 j (c5 j c)⟩) c4 h;refine⟨k2,d2,o2,rfl,fun m hm=>?_,?_,fun hx m hm=>?_,e4,fun j c=>c5 j (e5 j c)⟩
     ·have:=e1 (max m (cu (gs u x))) (by split<;>omega);rw[aaX,cG];omega
     ·have:k<=if k1>k then k1 else k:=by split<;>omega
      omega
     ·have:=e3 hx (max m (cu (gs u x))) (by have:=c3 hx;split<;>omega);rw[aaX,cG];omega
  rw[bI] at h;cases he:(if t.kind=9 then bW s t else some (.mk 0 0 [])) with
  | none=>simp only[he] at h;cases h
  | some x =>
   simp only[he] at h
   by_cases hk:x.kind=0
   ·rw[fo (fun p=>p hk)] at h;cases z:eH (bI s n) t.args 0 d o with
    | none=>simp only[z] at h;cases h
    | some r1 =>
     simp only[z] at h
     by_cases f:t.kind=9
     ·have ha:=(pE ht f).2.2;rw[ha,eH] at z;injection z with z
      subst z;simp only at h;injection h with h
      rw[eu f] at he;have hg:1<=cu (gs u t):=by rw[di];omega
      refine⟨_,d,o,h.symm,?_,?_,fun hx=>?_,hd,fun j h=>h⟩
      ·rw[show zR (0+1)=1 from rfl];omega
      ·rw[show zR (0+1)=1 from rfl];omega
      ·rw[show zR (0+1)=1 from rfl,ao hx t x f he hk];rfl
     ·obtain⟨k1,d1,o1,rfl,c1,c2,c3,c4,c5⟩:=hL t.args 0 d o r1 (fun y hy=>⟨fe ht y hy,by have:=jY hy;have:=di t;omega,fun j c=>by
       have:=ho j c;rw[iU,fo f,aaY] at this;exact this y hy⟩) hd z
      simp only at h;injection h with h
      have hg:=SN hu t;have c1:=c1 0 (by omega);have hq:cu (gs u t)=cG (t.args.map (gs u))+1:=by rw[jx f,di];rfl
      have bd:k1=(k1.toNat:Int):=by omega
      have hw:zR (k1+1)=k1+1:=by rw[bd,P3 (by omega)];omega
      refine⟨_,d1,o1,h.symm,by omega,by omega,fun hx=>?_,c4,c5⟩;have:=c3 hx 0 rfl;omega
   ·rw[eu hk] at h;have f:t.kind=9:=by
     by_cases f:t.kind=9
     ·exact f
     ·rw[fo f] at he;injection he with he
      exact fL (by rw[<-he];rfl) hk
    rw[eu f] at he;obtain⟨e1,e2,e3⟩:=bP he;have bo:gs u x=gs u t:=hS.elem f he hk;have aE:gs u (.mk 9 t.id [])=gs u t:=lS rfl f rfl;cases hm:br d t.id with
    | some k =>
     rw[hm] at h;simp only at h;injection h with h
     have:=hd _ _ hm;rw[aE] at this;exact⟨k,d,o,h.symm,this.1,this.2.1,this.2.2,hd,fun j h=>h⟩
    | none =>
     rw[hm] at h;simp only at h;have be:¬br o t.id=some true:=fun q=>by
      have:=ho t.id ⟨q,hm⟩;rw[iU,eu f,aaZ] at this;omega
     have ag:=hR.dn t.id.toNat x e2 hk;rw[show((t.id.toNat:Nat):Int)=t.id by omega] at ag;have key:∀r1,bI s n x d (eI o t.id true)=some r1->∃k v o',r1=some (k,v,o')/\1<=k/\k<=cu (gs u t)/\(ex->k=cu (gs u t))/\Rf u ex (eI v t.id k)/\∀j,Mq (eI v t.id k) o' j->Mq d o j:=by
      intro r1 a;obtain⟨k1,d1,o1,rfl,c1,c2,c3,c4,c5⟩:=uF hS hs hR hu ao n x d (eI o t.id true) r1 (hs.elem he hk) (an x (qH he)) an hd (fun j c=>by
       obtain⟨q1,q2⟩:=c;rw[iK] at q1
       by_cases e:j=t.id
       ·rw[e];exact ag
       ·rw[fo e] at q1;have:=ho j ⟨q1,q2⟩;rw[iU,eu f,aaZ] at this;exact uE (n:=s.length) (fun w _ _ hw=>by rw[aaZ] at hw ⊢;omega) x (hs.elem he hk) ag) a
      rw[bo] at c2 c3;refine⟨k1,d1,o1,rfl,c1,c2,c3,fun j k c=>?_,fun j c=>?_⟩
      ·rw[iK] at c
       by_cases e:j=t.id
       ·rw[eu e] at c;injection c with c
        rw[e,aE,<-c];exact⟨c1,c2,c3⟩
       ·rw[fo e] at c;exact c4 j k c
      ·obtain⟨q1,q2⟩:=c;rw[iK] at q2
       by_cases e:j=t.id
       ·rw[eu e] at q2;cases q2
       ·rw[fo e] at q2;obtain⟨q3,q4⟩:=c5 j ⟨q1,q2⟩;rw[iK,fo e] at q3;exact⟨q3,q4⟩
     cases am:br o t.id with
     | none =>
      rw[am] at h;simp only at h;cases a:bI s n x d (eI o t.id true) with
      | none=>rw[a] at h;cases h
      | some r1 =>
       rw[a] at h;obtain⟨k,v,o',rfl,q⟩:=key r1 a;simp only at h;injection h with h
       exact⟨_,_,_,h.symm,q⟩
     | some b =>
      rw[am] at h;cases b with
      | true=>exact fL am be
      | false =>
       simp only at h;cases a:bI s n x d (eI o t.id true) with
       | none=>rw[a] at h;cases h
       | some r1 =>
        rw[a] at h;obtain⟨k,v,o',rfl,q⟩:=key r1 a;simp only at h;injection h with h
        exact⟨_,_,_,h.symm,q⟩
theorem uG {u s:List Ty}{ρ:Int->Nat}{ex:Prop}(hS:Sat u s) (v:EX s) (w:Rk s ρ) (p:∀x∈u,cu x<=2 ^ 30) (c:ex->∀(t:Ty) (x:Ty),t.kind=9->bW s t=some x->x.kind=0->cu (gs u t)=1) (f:∀x∈s,cu x<=2 ^ 30) (n:Nat) :
  ∀(i:Nat) r,i<=s.length->dI s n i=some r->∃b d o,r=some (b,d,o)/\((∀j:Nat,j<i->cu (gs u (vr j))<=8)->b=false)/\(ex->b=false->∀j:Nat,j<i->cu (gs u (vr j))<=8)/\Rf u ex d/\∀j,¬Mq d o j
 | 0,r,_,h=>by
  rw[dI] at h;injection h with h
  exact⟨false,[],[],h.symm,fun _=>rfl,fun _ _ j a=>fL a (abz _),fun j k e=>(by cases e),fun j q=>by have:=q.1;cases this⟩
 | i+1,r,hi,h=>by
  rw[dI] at h;cases l:dI s n i with
  | none=>rw[l] at h;cases h
  | some r1 =>
   rw[l] at h;obtain⟨b,d,o,rfl,z,c2,c3,c4⟩:=uG hS v w p c f n i r1 (by omega) l;simp only at h;cases m:bI s n (vr i) d o with
   | none=>rw[m] at h;cases h
   | some r2 =>
    rw[m] at h;obtain⟨k,d',o',rfl,e1,e2,e3,e4,e5⟩:=uF hS v w p c n (vr i) d o r2 (sV (by omega)) (by rw[show cu (vr i)=1 from rfl];omega) f c3 (fun j a=>fL a (c4 j)) m;simp only at h;injection h with h
    refine⟨_,d',o',h.symm,fun q=>?_,fun y q j a=>?_,e4,fun j a=>c4 j (e5 j a)⟩
    ·have:=q i (abT i);rw[z fun j a=>q j (by omega),aaP (by omega)];rfl
    ·rw[Bool.or_eq_false_iff,abY] at q
     by_cases e:j=i
     ·subst e;have:=e3 y;omega
     ·exact c2 y q.1 j (by omega)
theorem ED {s:List Ty}(h0:∀x∈s,x.kind=0->x=.mk 0 0 []) (c:EX s):s.all (eS s.length)=true:=by
 rw[aaY];intro x b;rcases c x b with a | a
 ·rw[h0 x b a];rfl
 ·rw[zi (by have:=ou a;omega)];exact a
theorem Ge {s:List Ty}(h:s.all (eS s.length)=true):∀x∈s,x.kind=0->x=.mk 0 0 []:=fun x b a=>by
 have h:=(aaY.1 h) x b;unfold eS at h;rw[eu a,v5,aaZ,aaZ] at h;exact yT a h.1 (abu h.2)
theorem CY {p:Ty->Prop}(hp:∀t,p t->∀x∈t.args,p x) (hv:∀i,p (.mk 9 i [])):∀(n:Nat) (s:List Ty) (a b:Ty) (s':List Ty),(∀x∈s,p x)->p a->p b->lQ n s a b=some (some s')->∀x∈s',p x:=by
 intro n
 induction n with
 | zero=>intro s a b s' _ _ _ h;cases h
 | succ n ih =>
  intro s a b s' c ha hb h;have m:∀{t r:Ty},aQ s n t=some r->p t->p r:=fun hf ht=>rG (p:=p) (fun t x _ _ he _=>c x (qH he)) hf ht;have d:∀{i:Nat}{b:Ty},p b->∀x∈s.set i b,p x:=fun hb x f=>by
   rcases ab4 f with f | rfl
   ·exact c x f
   ·exact hb
  cases q:aQ s n a with
  | none=>rw[lQ,q] at h;cases h
  | some a' =>
  cases w:aQ s n b with
  | none=>rw[lQ,q,w] at h;cases h
  | some u =>
  rw[mN q w] at h;have k:=m q ha;have e:=m w hb;split at h
  ·split at h
   ·injection h with h;injection h with h;exact h▸c
   ·injection h with h;injection h with h;rw[<-h]
    exact d (hv _)
  ·split at h
   ·cases ho:lm s a'.id n u with
    | none=>rw[ho] at h;cases h
    | some o =>
     rw[ho] at h;cases o with
     | true=>cases h
     | false=>injection h with h;injection h with h;rw[<-h];exact d e
   ·split at h
    ·exact ih s u a' s' c e k h
    ·split at h
     ·cases h
     ·have hL:∀(l j:List Ty) (s:List Ty),(∀x∈l,p x)->(∀x∈j,p x)->(∀x∈s,p x)->kH (lQ n) s l j=some (some s')->∀x∈s',p x:=by
       intro l
       induction l with
       | nil=>intro j s _ _ c h;rw[kH] at h;injection h with h;injection h with h;exact h▸c
       | cons x l v =>
        intro j s h1 h2 c h;cases j with
        | nil=>cases h
        | cons y j =>
         rw[kH] at h;cases f:lQ n s x y with
         | none=>rw[f] at h;cases h
         | some r =>
          rw[f] at h;cases r with
          | none=>cases h
          | some s1=>exact v j s1 (fun z hz=>h1 z (by simp[hz])) (fun z hz=>h2 z (by simp[hz])) (ih s x y s1 c (h1 x (by simp)) (h2 y (by simp)) f) h
      exact hL a'.args u.args s (hp a' k) (hp u e) c h
theorem Mr {n:Nat}{s:List Ty}{a b:Ty}{s':List Ty}(e:∀x∈s,x.kind=0->x=.mk 0 0 []) (hi:EX s) (f:ins s.length a=true) (hb:ins s.length b=true) (h:lQ n s a b=some (some s')):∀x∈s',x.kind=0->x=.mk 0 0 []:=by
 have:∀x∈s',x=.mk 0 0 []\/(x.kind=9/\x.args=[])\/(∃m,ins m x=true):=by
  refine CY (p:=fun x=>x=.mk 0 0 []\/(x.kind=9/\x.args=[])\/(∃m,ins m x=true)) ?_ (fun i=>.inr (.inl ⟨rfl,rfl⟩)) n s a b s' (fun x c=>?_) (.inr (.inr ⟨_,f⟩)) (.inr (.inr ⟨_,hb⟩)) h
  ·rintro t (rfl | ⟨_,h⟩ | ⟨m,h⟩) x c
   ·cases c
   ·rw[h] at c;cases c
   ·exact .inr (.inr ⟨m,fe h x c⟩)
  ·rcases hi x c with d | d
   ·exact .inl (e x c d)
   ·exact .inr (.inr ⟨_,d⟩)
 intro x c d;rcases this x c with h | ⟨h,_⟩ | ⟨m,h⟩
 ·exact h
 ·omega
 ·have:=ou h;omega
theorem Gf (s:List Ty):mM s<s.length+1:=by
 induction s with
 | nil=>exact Nat.zero_lt_one
 | cons x s a=>rw[mM,aa5];split<;>omega
theorem CZ {n:Nat}{s:List Ty}{a b:Ty}{s':List Ty}(g:Good s) (d:ins s.length a=true) (hb:ins s.length b=true) (h:lQ n s a b=some (some s')):EY s s':=by
 obtain⟨m,r,h1,c⟩:=zb _ s g (Gf s) a b d hb;have e:=kP h h1;exact c s' e.symm
theorem Jl {s u:List Ty}{a b:Ty}{m:Nat}{d0:DM}{o0:OM}(hf:bJ s m=some (some (d0,o0))) (z:nD s a b=true) (ae:∀x∈s,cu x<=2 ^ 30) (hS:Sat u s) (ad:gs u a=gs u b) (hv:∀x∈u,cu x<=8) (hd:cu (gs u a)<=8):CX s a b:=by
 have g:=pF hf;obtain⟨i1,i2,p1,p2⟩:=zh z;obtain⟨n,F,_,_⟩:=Q8 s a b;have f:∃d o,bJ s n=some (some (d,o)):=by
  obtain⟨r,c⟩:=F.form;exact⟨d0,o0,by rw[c,iS c hf]⟩
 obtain⟨r,c⟩:=F.eq f z;obtain⟨s',rfl,w⟩:=hS.eqs ad c;have nx:=CZ g i1 i2 c;obtain⟨ρ,hR⟩:=nx.good.aaH;have v:∀x∈s',cu x<=2 ^ 30:=CY (p:=fun x=>cu x<=2 ^ 30) (fun t h x hx=>by have:=jY hx;have:=di t;omega) (fun i=>by rw[show cu (.mk 9 i [])=1 from rfl];omega) n s a b s' ae (by omega) (by omega) c;have hu:∀x∈u,cu x<=2 ^ 30:=fun x hx=>by have:=hv x hx;omega
 have hz:s.all (eS s.length)=true:=by
  unfold bJ at hf;split at hf
  ·assumption
  ·cases hf
 obtain⟨r2,e⟩:=F.form' f z s' c;have ac:∀j:Nat,j<s'.length->cu (gs u (vr j))<=8:=fun j hj=>by
  rw[mO (show(vr j).kind=9 from rfl)];cases hx:u[((vr j).id).toNat]? with
  | none=>show cu (.mk 0 0 [])<=8;decide
  | some x=>exact hv x (aaW hx)
 have l:∃d o,bJ s' n=some (some (d,o))/\Rf u False d/\∀j,¬Mq d o j:=by
  unfold bJ at e ⊢;rw[eu (ED (Mr (Ge hz) g.ins i1 i2 c) nx.good.ins)] at e ⊢;cases hl:dI s' n s'.length with
  | none=>rw[hl] at e;cases e
  | some r1 =>
   obtain⟨b1,d,o,rfl,c1,_,c3,c4⟩:=uG (ex:=False) w nx.good.ins hR hu (fun q=>q.elim) v n s'.length r1 (aa0 _) hl;have:=c1 ac;subst this;exact⟨d,o,rfl,c3,c4⟩
 obtain⟨d,o,l,al,ag⟩:=l;obtain⟨r3,y⟩:=F.deep f z s' c d o l;obtain⟨k,d',o',rfl,e1,e2,_⟩:=uF (ex:=False) w nx.good.ins hR hu (fun q=>q.elim) n a d o r3 (by rw[nx.len];exact i1) (by omega) v al (fun j hj=>fL hj (ag j)) y;exact⟨n,s',f,z,c,d,o,k,d',o',l,y,by omega⟩
theorem Sat.back {u s:List Ty}{v:Int}{b c:Ty}(h:Sat u (s.set v.toNat b)) (h0:0<=v) (d:s[v.toNat]?=some c) (a:c.kind=0) (hb:¬b.kind=0):Sat u s/\gs u (.mk 9 v [])=gs u b:=by
 have f:=h.len;rw[abw] at f;refine⟨⟨f,fun i x hi j=>?_⟩,?_⟩
 ·by_cases e:v.toNat=i
  ·rw[<-e,d] at hi;injection hi with hi
   exact fL (hi▸a) j
  ·exact h.eq i x (by rw[abN e];exact hi) j
 ·have:=h.eq v.toNat b (abS (aaR.1 d).1) hb;rw[mO rfl];show(u[v.toNat]?).getD _=_;rw[this];rfl
theorem vJ {u:List Ty}:∀(n:Nat) (s:List Ty) (a b:Ty) (s':List Ty),Good s->ins s.length a=true->ins s.length b=true->lQ n s a b=some (some s')->Sat u s'->Sat u s/\gs u a=gs u b
 | 0,s,a,b,s',_,_,_,h,_=>by cases h
 | n+1,s,a,b,s',g,ha,hb,h,hS=>by
  cases v:aQ s n a with
  | none=>rw[lQ,v] at h;cases h
  | some a' =>
  cases fb:aQ s n b with
  | none=>rw[lQ,v,fb] at h;cases h
  | some f =>
  rw[mN v fb] at h;have ad:=g.ins.front v ha;have t:=g.ins.front fb hb;have fin:Sat u s/\gs u a'=gs u f->Sat u s/\gs u a=gs u b:=fun⟨d,e⟩=>⟨d,by rw[<-d.front v,<-d.front fb,e]⟩;refine fin ?_
  by_cases m:a'.kind=9
  ·obtain⟨xa,az,ab⟩:=fQ v m;obtain⟨w,ac,bc⟩:=bP az;have e1:gs u (.mk 9 a'.id [])=gs u a':=lS rfl m rfl
   by_cases c:f.kind=9
   ·obtain⟨xb,ar,al⟩:=fQ fb c;obtain⟨an,am,bd⟩:=bP ar;have e2:gs u (.mk 9 f.id [])=gs u f:=lS rfl c rfl;rw[eu ⟨m,c⟩] at h
    by_cases hi:a'.id=f.id
    ·rw[eu hi] at h;injection h with h;injection h with h
     exact⟨h▸hS,lS m c hi⟩
    ·rw[fo hi] at h;injection h with h;injection h with h
     subst h;rcases Int.le_total a'.id f.id with j | j
     ·rw[Int.max_eq_right j,Int.min_eq_left j] at hS;obtain⟨d,e⟩:=hS.back an am al (by show¬(9:Int)=0;omega);exact⟨d,by rw[<-e1,<-e2,e]⟩
     ·rw[Int.max_eq_left j,Int.min_eq_right j] at hS;obtain⟨d,e⟩:=hS.back w ac ab (by show¬(9:Int)=0;omega);exact⟨d,by rw[<-e1,<-e2,e]⟩
   ·rw[fo (fun q=>c q.2),eu m] at h;cases ho:lm s a'.id n f with
    | none=>rw[ho] at h;cases h
    | some o =>
     rw[ho] at h;cases o with
     | true=>cases h
     | false =>
      injection h with h;injection h with h
      subst h;obtain⟨d,e⟩:=hS.back w ac ab (by have:=ou t;omega);exact⟨d,by rw[<-e1,e]⟩
  ·rw[fo (fun p=>m p.1),fo m] at h
   by_cases c:f.kind=9
   ·rw[eu c] at h;obtain⟨d,e⟩:=vJ n s f a' s' g t ad h hS;exact⟨d,e.symm⟩
   ·rw[fo c] at h;split at h
    ·cases h
    ·rename_i hc;have hL:∀(l k:List Ty) (s:List Ty),Good s->l.length=k.length->(∀x∈l,ins s.length x=true)->(∀x∈k,ins s.length x=true)->kH (lQ n) s l k=some (some s')->Sat u s/\l.map (gs u)=k.map (gs u):=by
      intro l
      induction l with
      | nil =>
       intro k s g hl _ _ h;rw[kH] at h;injection h with h;injection h with h
       cases k with
       | nil=>exact⟨h▸hS,rfl⟩
       | cons y k=>cases hl
      | cons x l ao =>
       intro k s g hl h1 h2 h;cases k with
       | nil=>cases h
       | cons y k =>
        rw[kH] at h;cases hx:lQ n s x y with
        | none=>rw[hx] at h;cases h
        | some r =>
         rw[hx] at h;cases r with
         | none=>cases h
         | some s1 =>
          have nx:=CZ g (h1 x (by simp)) (h2 y (by simp)) hx;obtain⟨d,e⟩:=ao k s1 nx.good (by simpa using hl) (fun z hz=>by rw[nx.len];exact h1 z (by simp[hz])) (fun z hz=>by rw[nx.len];exact h2 z (by simp[hz])) h;obtain⟨q3,q4⟩:=vJ n s x y s1 g (h1 x (by simp)) (h2 y (by simp)) hx d;exact⟨q3,by rw[aaX,aaX,e,q4]⟩
     obtain⟨d,e⟩:=hL a'.args f.args s g (by omega) (fe ad) (fe t) h;refine⟨d,?_⟩;rw[jx m,jx c,e,show a'.kind=f.kind by omega,show a'.id=f.id by omega]
theorem SQ (n:Nat):∀t:Ty,ins n t=true->cu (gs (List.replicate n iT) t)=cu t:=dc fun t d j=>by
 by_cases e:t.kind=9
 ·obtain⟨a,b,c⟩:=pE j e;rw[mO e,di t,c];rw[ab0,eu (by omega)];rfl
 ·rw[jx e,di,di t];have:∀l:List Ty,(∀x∈l,cu (gs (List.replicate n iT) x)=cu x)->cG (l.map (gs (List.replicate n iT)))=cG l:=by
   intro l
   induction l with
   | nil=>exact fun _=>rfl
   | cons x l d=>intro h;rw[aaX,cG,cG,h x (by simp),d fun y k=>h y (by simp[k])]
  show cG (t.args.map _)+1=_;rw[this t.args fun x f=>d x f (fe j x f)]
theorem Good.inst {s:List Ty}(g:Good s):∃u,Sat u s/\(∀(t x:Ty),t.kind=9->bW s t=some x->x.kind=0->cu (gs u t)=1):=by
 have a:∀i:Nat,∃r,i<s.length->Ex s (vr i) r:=fun i=>by
  by_cases hi:i<s.length
  ·obtain⟨n,r,h⟩:=(g.fin i hi).ap;exact⟨r,fun _=>⟨n,h⟩⟩
  ·exact⟨zT,fun h=>fL h hi⟩
 let G:=List.replicate s.length iT
 let u:=(List.range s.length).map fun i=>gs G (a i).choose
 have w:u.length=s.length:=by simp[u]
 have b:∀i:Nat,i<s.length->u[i]?=some (gs G (a i).choose):=fun i hi=>by simp[u,hi]
 have f:∀t:Ty,Try.ins s.length t=true->∀r,Ex s t r->gs u t=gs G r:=dc fun t ih ht r m=>by
  by_cases d:t.kind=9
  ·obtain⟨i,hi,e,z⟩:=y9 ht d;rw[mO d,z,show((i:Nat):Int).toNat=i by omega,b i hi];show gs G (a i).choose=_;rw[((a i).choose_spec hi).one (e▸m)]
  ·obtain⟨h1,h2,h3,h4⟩:=m.args d;rw[jx d,jx (by rw[h1];exact d),h1,h2];congr 1;refine abP fun j=>?_;rw[aa4,aa4];cases c:t.args[j]? with
   | none =>
    have:r.args[j]?=none:=by rw[aby] at c ⊢;omega
    rw[this];rfl
   | some x =>
    obtain⟨y,hy,p⟩:=h4 j x c;rw[hy];exact vv some (ih x (aaW c) (fe ht x (aaW c)) y p)
 refine⟨u,⟨w,fun i x c l=>?_⟩,fun t x d he l=>?_⟩
 ·have hi:i<s.length:=(aaR.1 c).1;obtain⟨n,k⟩:=(a i).choose_spec hi;have v:Ex s x (a i).choose:=by
   cases n with
   | zero=>cases k
   | succ n =>
    have he:bW s (vr i)=some x:=by
     unfold bW;rw[fo (by show¬((i:Int)<0);omega)];show s[((i:Int)).toNat]?=some x;rw[show((i:Int)).toNat=i by omega];exact c
    rw[pA,eu (show(vr i).kind=9 from rfl),he] at k;simp only at k;rw[eu l] at k;exact⟨n,k⟩
  rw[b i hi,f x ((g.ins x (aaW c)).resolve_left l) _ v]
 ·obtain⟨e1,z,e3⟩:=bP he;have hg:gs u t=gs u (vr t.id.toNat):=lS d rfl (by show t.id=((t.id.toNat:Nat):Int);omega);have o:bW s (vr t.id.toNat)=some x:=(Hu (by show((t.id.toNat:Nat):Int)=t.id;omega)).trans he;have m:Ex s (vr t.id.toNat) (vr t.id.toNat):=⟨1,by rw[pA,eu (show(vr t.id.toNat).kind=9 from rfl),o];simp only;rw[fo (fun q=>q l)];rfl⟩;rw[hg,f _ (sV e3) _ m];exact SQ s.length _ (sV e3)
theorem Ms {u s:List Ty}{ρ:Int->Nat}(hS:Sat u s) (g:Good s) (q:Rk s ρ) {D:Nat}(hD:∀x∈s,cu x<=D) (j:∀(t x:Ty),t.kind=9->bW s t=some x->x.kind=0->cu (gs u t)=1):∀(k:Nat) (t:Ty),ins s.length t=true->qJ (fun w=>decide (ρ w<k)) t=true->cu (gs u t)<=cu t+k*D
 | k,t,e,c=>by
  induction k generalizing t with
  | zero =>
   revert e c
   refine dc (p:=fun t=>ins s.length t=true->qJ (fun w=>decide (ρ w<0)) t=true->cu (gs u t)<=cu t+0*D) (fun t m e c=>?_) t
   by_cases d:t.kind=9
   ·rw[iU,eu d,aaZ] at c;omega
   ·rw[iU,fo d,aaY] at c;rw[jx d,di,di t];have:cG (t.args.map (gs u))<=cG t.args+0*D:=wZ fun y l=>by
     obtain⟨x,a,rfl⟩:=abq.1 l;have:=m x a (fe e x a) (c x a);have:=jY a;omega
    show cG (t.args.map (gs u))+1<=_;omega
  | succ k h =>
   revert e c
   refine dc (p:=fun t=>ins s.length t=true->qJ (fun w=>decide (ρ w<k+1)) t=true->cu (gs u t)<=cu t+(k+1)*D) (fun t m e c=>?_) t
   by_cases d:t.kind=9
   ·rw[iU,eu d,aaZ] at c;obtain⟨x,he,a⟩:=za e d;obtain⟨v,o,z⟩:=bP he;have h1:=di t
    by_cases b:x.kind=0
    ·rw[j t x d he b];omega
    ·rw[<-hS.elem d he b];have f:=q.dn t.id.toNat x o b;rw[show((t.id.toNat:Nat):Int)=t.id by omega] at f;have:=h x (g.ins.elem he b) (uE (n:=s.length) (fun w _ _ r=>by rw[aaZ] at r ⊢;omega) x (g.ins.elem he b) f);have:=hD x a;rw[Nat.succ_mul];omega
   ·rw[iU,fo d,aaY] at c;rw[jx d,di,di t];have:cG (t.args.map (gs u))<=cG t.args+(k+1)*D:=wZ fun y l=>by
     obtain⟨x,a,rfl⟩:=abq.1 l;have:=m x a (fe e x a) (c x a);have:=jY a;omega
    show cG (t.args.map (gs u))+1<=_;omega
theorem Jm {s:List Ty}{a b:Ty}(m:s.length<=1000) (al:∀x∈s,cu x<=8) (h:CX s a b):∃u,u.length=s.length/\gs u a=gs u b/\(∀x∈u,cu x<=8)/\cu (gs u a)<=8:=by
 obtain⟨n,s',⟨d0,o0,hf⟩,hp,he,d,o,k,d',o',r,hd,hk⟩:=h;have g:=pF hf;have v:=pF r;obtain⟨i1,i2,p1,p2⟩:=zh hp;have nx:=CZ g i1 i2 he;obtain⟨ρ,w⟩:=v.aaH;obtain⟨u,hS,l⟩:=v.inst;have q:∀x∈s',cu x<=8:=CY (p:=fun x=>cu x<=8) (fun t h x f=>by have:=jY f;have:=di t;omega) (fun i=>by rw[show cu (.mk 9 i [])=1 from rfl];omega) n s a b s' al p1 p2 he;have e:∀x∈s',cu x<=2 ^ 30:=fun x f=>by have:=q x f;omega
 obtain⟨_,ad⟩:=vJ n s a b s' g i1 i2 he hS;have ae:u.length=s.length:=by rw[hS.len,nx.len]
 have aa:∀(i:Nat) (x:Ty),u[i]?=some x->i<s'.length/\gs u (vr i)=x:=fun i x f=>by
  refine⟨by rw[<-hS.len];exact(aaR.1 f).1,?_⟩;rw[mO (show(vr i).kind=9 from rfl),show((vr i).id).toNat=i from by show((i:Nat):Int).toNat=i;omega,f];rfl
 have hu:∀x∈u,cu x<=2 ^ 30:=fun x f=>by
  obtain⟨i,hi⟩:=List.getElem?_of_mem f;obtain⟨h1,z⟩:=aa i x hi;have:=Ms hS v w q l s'.length (vr i) (sV h1) (by rw[iU,eu (show(vr i).kind=9 from rfl),aaZ];exact w.lt i h1);rw[z,show cu (vr i)=1 from rfl,nx.len] at this;omega
 have hq:∀j:Nat,j<s'.length->cu (gs u (vr j))<=8:=by
  have c:=r;unfold bJ at c;split at c
  ·cases m:dI s' n s'.length with
   | none=>rw[m] at c;cases c
   | some r1 =>
    obtain⟨b1,d1,o1,rfl,_,c2,_⟩:=uG (ex:=True) hS v.ins w hu (fun _=>l) e n s'.length r1 (aa0 _) m;rw[m] at c;cases b1 with
    | true=>cases c
    | false=>exact c2 trivial rfl
  ·cases c
 have y:Rf u True d/\∀j,¬Mq d o j:=by
  have c:=r;unfold bJ at c;split at c
  ·cases m:dI s' n s'.length with
   | none=>rw[m] at c;cases c
   | some r1 =>
    obtain⟨b1,d1,o1,rfl,_,_,c3,c4⟩:=uG (ex:=True) hS v.ins w hu (fun _=>l) e n s'.length r1 (aa0 _) m;rw[m] at c;cases b1 with
    | true=>cases c
    | false =>
     injection c with c;injection c with c;injection c with h1 z
     subst h1 z;exact⟨c3,c4⟩
  ·cases c
 obtain⟨k1,d1,o1,e1,_,_,e3,_⟩:=uF (ex:=True) hS v.ins w hu (fun _=>l) n a d o _ (by rw[nx.len];exact i1) (by omega) e y.1 (fun j hj=>fL hj (y.2 j)) hd;injection e1 with e1
 injection e1 with e1 _
 refine⟨u,ae,ad,fun x f=>?_,?_⟩
 ·obtain⟨i,hi⟩:=List.getElem?_of_mem f;obtain⟨h1,z⟩:=aa i x hi;rw[<-z];exact hq i h1
 ·have:=e3 trivial;omega
def bC (b:Bool):List C:=[.bool b]
abbrev LO (l:List Bool):List TO:=[.box 123 [.rw 1001],.row 4 1 (l.map bC)]
theorem XS (l:List Bool) (n:Int) (h0:0<=n) (h1:n<l.length):CallsT P 106 [IC n,.own 1000 0] (LO l) (aU (LO (l.set n.toNat true)) (.tup [])):=by
 have b:(l.map bC)[n.toNat]?=some [.bool l[n.toNat]]:=by rw[aa4,aaO (by omega)];rfl
 have a:(l.map bC).set n.toNat [.bool true]=(l.set n.toNat true).map bC:=by rw[List.map_set];rfl
 generalize l.set n.toNat true=l' at a ⊢;refine af Try.func106 Lb rfl fun c _=>?_;refine BS.mk h0 (by rw[vz];exact h1) ?_;refine⟨rfl,Bp b rfl ?_⟩;exact bF [1000,1001] rfl rfl (vv (fun q=>[TO.box 123 [.rw 1001],.row 4 1 q]) a) rfl
mutual
def mark:Ty->List Bool->List Bool
 | .mk k i l,o=>oC l (if k=5 then o.set i.toNat true else o)
def oC:List Ty->List Bool->List Bool
 | [],o=>o
 | t::l,o=>oC l (mark t o)
end
mutual
def zx (n:Int):Ty->Bool
 | .mk k i l=>(if k=5 then decide (0<=i)&&decide (i<n) else true)&&C0 n l
def C0 (n:Int):List Ty->Bool
 | []=>true
 | t::l=>zx n t&&C0 n l
end
theorem zy (n:Int):∀l:List Ty,C0 n l=l.all (zx n)
 | []=>rfl
 | t::l=>by rw[C0,zy n l,abd]
theorem EF (n:Int) (t:Ty):zx n t=((if t.kind=5 then decide (0<=t.id)&&decide (t.id<n) else true)&&t.args.all (zx n)):=by
 cases t;rw[zx,zy];rfl
mutual
theorem qK:∀(t:Ty) (o:List Bool),(mark t o).length=o.length
 | .mk k i l,o=>by
  rw[mark,BK];split
  ·rw[abw]
  ·rfl
theorem BK:∀(l:List Ty) (o:List Bool),(oC l o).length=o.length
 | [],o=>by rw[oC]
 | t::l,o=>by rw[oC,BK,qK]
end
theorem mark_eq (t:Ty) (o:List Bool):mark t o=oC t.args (if t.kind=5 then o.set t.id.toNat true else o):=by cases t;rw[mark];rfl
abbrev EG (t:Ty) (o o':List Bool):Prop:=CallsT P 105 [aV t,.fn 106 [] [.own 1000 0]] (LO o) (aU (LO o') (.tup []))
theorem U4 (t:Ty) (n:Nat) (mk:Ty->List Bool->List Bool) (tU:List Ty->List Bool->List Bool) (h:∀o,tU [] o=o) (d:∀x l o,tU (x::l) o=tU l (mk x o)) (m:∀x o,(mk x o).length=o.length)
  (ih:∀x∈t.args,∀o,o.length=n->EG x o (mk x o)) (o b:List Bool) (u:b.length=n) (ha:t.kind=5->CallsT P 106 [IC t.id,.own 1000 0] (LO o) (aU (LO b) (.tup []))) (hb:¬t.kind=5->o=b):EG t o (tU t.args b):=by
 have j:(t.args.map aI).length=t.args.length:=vz _;refine af Try.func105 K9 rfl fun w _=>?_;have hl:t.args.length<=9223372036854775807:=f7 w.1.2.2.1;refine ah (fun s=>callO [1000,1001] [1000,1001] (ha s) rfl rfl rfl rfl rfl fun _ _=>bX t.args.length 16 [] b (fun _=>[]) (fun q=>[(1000,.box 123 [.rw 1001]),(1001,.row 4 1 (q.map bC))]) (fun k q=>tU (t.args.drop k) q=tU t.args b/\q.length=n) ⟨rfl,u⟩ (ai rfl) trivial
   ⟨.inl ⟨_,rfl,.inl ⟨rfl,rfl⟩⟩,.inl ⟨_,rfl,.inl ⟨rfl,rfl⟩⟩,trivial⟩ (fun _=>rfl) (fun _=>rfl) ?_) (fun s=>bX t.args.length 16 [] b (fun _=>[]) (fun q=>[(1000,.box 123 [.rw 1001]),(1001,.row 4 1 (q.map bC))]) (fun k q=>tU (t.args.drop k) q=tU t.args b/\q.length=n) ⟨rfl,u⟩ (ai rfl) trivial
   ⟨.inl ⟨_,rfl,.inl ⟨rfl,rfl⟩⟩,.inl ⟨_,rfl,.inl ⟨vv (fun z=>TO.row 4 1 (z.map bC)) (hb s),rfl⟩⟩,trivial⟩ (fun _=>rfl) (fun _=>rfl) ?_)
 all_goals
  rintro k q hk ⟨c,v⟩ _ _ _;refine ah (fun a=>?_) (fun f=>?_)
  ·have a:k<t.args.length:=by rw[j] at a;omega
   refine aX a fun x y r p=>?_;refine cL y ?_;refine callO [1000,1001] [1000,1001] (ih x r q v) rfl rfl rfl rfl rfl fun _ _=>?_;refine Fit.aaf (by omega) (by omega) ?_;refine⟨(k+1,mk x q),⟨a,?_,by rw[m];exact v⟩,⟨bM,trivial⟩,⟨.inl ⟨_,rfl,.inl ⟨rfl,rfl⟩⟩,.inl ⟨_,rfl,.inl ⟨rfl,rfl⟩⟩,trivial⟩,bN a⟩;have:=c;rw[p,d] at this;exact this
  ·have f:¬k<t.args.length:=by rw[j] at f;omega
   have e:q=tU t.args b:=by
    have:=c;rw[bQ f,h] at this;exact this
   exact bF [1000,1001] rfl rfl (vv (fun z=>LO z) e) rfl
theorem XT (n:Nat):∀t:Ty,zx n t=true->∀o,o.length=n->EG t o (mark t o):=dc fun t e a o b=>by
 rw[EF,v5,aaY] at a;rw[mark_eq];refine U4 t n mark oC (fun o=>by rw[oC]) (fun x l o=>by rw[oC]) qK (fun x d o b=>e x d (a.2 x d) o b) o _ ?_ (fun c=>?_) (fun c=>?_)
 ·split
  ·rw[abw];exact b
  ·exact b
 ·rw[eu c] at a ⊢;have a:=a.1;rw[v5,aaZ,aaZ] at a;exact XS o t.id a.1 (by rw[b];exact a.2)
 ·rw[fo c]
section
variable {α:Type}
def aW (q:α->Bool):List α->Int->Int
 | [],_=>-1
 | x::l,k=>if q x then k else aW q l (k+1)
theorem lV {q:α->Bool}{l:List α}{k:Nat}{x:α}{r:Int}(a:l.drop k=x::l.drop (k+1)) (hi:aW q (l.drop k) k=r) (b:q x=true):(k:Int)=r:=by
 rw[a,aW,eu b] at hi;exact hi
theorem oD {q:α->Bool}{l:List α}{k:Nat}{x:α}{r:Int}(a:l.drop k=x::l.drop (k+1)) (hi:aW q (l.drop k) k=r) (b:q x=false):aW q (l.drop (k+1)) ((k+1:Nat):Int)=r:=by
 rw[a,aW,fo (by rw[b];exact aa7)] at hi;exact hi
theorem oE {q:α->Bool}{l:List α}{k:Nat}{r:Int}(h:¬k<l.length) (hi:aW q (l.drop k) k=r):(-1:Int)=r:=by
 rw[bQ h,aW] at hi;exact hi
theorem zA (q:α->Bool):∀(l:List α) (k:Int),0<=k->decide (0<=aW q l k)=l.any q
 | [],k,_=>rfl
 | x::l,k,h=>by
  rw[aW,abE];cases a:q x
  ·rw[fo aa7,Bool.false_or];exact zA q l (k+1) (by omega)
  ·rw[eu rfl,Bool.true_or];exact aaN h
theorem rI (q:α->Bool) (l:List α):decide (aW q l 0>=0)=l.any q:=zA q l 0 (abb _)
end
theorem P4 (o:List Bool) (p:Prog) (l:List bh) (q:bh->Bool) (h:∀x∈l,CallsT P 107 [.agg (aZ x),.pt [.sl (o.map bC)] 0,.pt (kg p) 0] [] (aU [] (.bool (q x)))) :
  CallsT P 81 [.sl (l.map aZ),.fn 107 [] [.pt [.sl (o.map bC)] 0,.pt (kg p) 0]] [] (aU [] (IC (aW q l 0))):=by
 have c:(l.map aZ).length=l.length:=vz _;refine af Try.func81 GW rfl fun n _=>?_;have m:l.length<=9223372036854775807:=by have:=gZ n.1;rwa [c] at this
 refine bX l.length 8 [] () (fun _=>[]) (fun _=>[]) (fun k _=>aW q (l.drop k) k=aW q l 0) rfl (ai rfl) trivial trivial (fun _=>rfl) (fun _=>rfl) ?_;rintro k _ s a _ _ _;refine ah (fun b=>?_) (fun d=>?_)
 ·have b:k<l.length:=by rw[c] at b;omega
  refine aX b fun x r f e=>?_;refine BG (by omega) (show l[((k:Int)).toNat]?=some x from r) ?_;refine aY (h x f) rfl fun _=>?_;refine aq (fun j=>?_) (fun j=>?_)
  ·exact aC rfl (vv IC (lV e a j))
  ·refine Fit.aaf (by omega) (by omega) ?_;exact⟨(k+1,()),⟨b,oD e a j⟩,⟨bM,trivial⟩,trivial,bN b⟩
 ·have d:¬k<l.length:=by rw[c] at d;omega
  exact aC rfl (vv IC (oE d a))
theorem Mt (o:List Bool) (p:Prog) (l:List bh) (q:bh->Bool) (h:∀x∈l,CallsT P 107 [.agg (aZ x),.pt [.sl (o.map bC)] 0,.pt (kg p) 0] [] (aU [] (.bool (q x)))) :
  CallsT P 110 [.sl (l.map aZ),.fn 107 [] [.pt [.sl (o.map bC)] 0,.pt (kg p) 0]] [] (aU [] (.bool (l.any q))):=by
 have h1:=P4 o p l q h;have e:=rI q l;generalize aW q l 0=n at h1 e;refine af Try.func110 Lg rfl fun a _=>?_;refine aY h1 rfl fun _=>?_;exact aC rfl (vv C.bool e)
theorem P5 (g:Int) (t:Ty) (l:List bh) (q:bh->Bool) (h:∀x∈l,CallsT P 82 [.agg (aZ x),.pt [IC g,IC t.kind,IC t.id,.sl (t.args.map aI)] 0] [] (aU [] (.bool (q x)))) :
  CallsT P 81 [.sl (l.map aZ),.fn 82 [] [.pt [IC g,IC t.kind,IC t.id,.sl (t.args.map aI)] 0]] [] (aU [] (IC (aW q l 0))):=by
 have c:(l.map aZ).length=l.length:=vz _;refine af Try.func81 GW rfl fun n _=>?_;have m:l.length<=9223372036854775807:=by have:=gZ n.1;rwa [c] at this
 refine bX l.length 8 [] () (fun _=>[]) (fun _=>[]) (fun k _=>aW q (l.drop k) k=aW q l 0) rfl (ai rfl) trivial trivial (fun _=>rfl) (fun _=>rfl) ?_;rintro k _ p a _ _ _;refine ah (fun b=>?_) (fun d=>?_)
 ·have b:k<l.length:=by rw[c] at b;omega
  refine aX b fun x o f e=>?_;refine BG (by omega) (show l[((k:Int)).toNat]?=some x from o) ?_;refine aY (h x f) rfl fun _=>?_;refine aq (fun j=>?_) (fun j=>?_)
  ·exact aC rfl (vv IC (lV e a j))
  ·refine Fit.aaf (by omega) (by omega) ?_;exact⟨(k+1,()),⟨b,oD e a j⟩,⟨bM,trivial⟩,trivial,bN b⟩
 ·have d:¬k<l.length:=by rw[c] at d;omega
  exact aC rfl (vv IC (oE d a))
theorem P6 (y:Impl) (l:List Impl) (q:Impl->Bool) (h:∀x∈l,CallsT P 91 [.agg (dH x),.pt [IC y.trait,IC y.module,IC y.params,.sl (y.bounds.map aZ),IC y.type.kind,IC y.type.id,.sl (y.type.args.map aI),IC y.func] 0] [] (aU [] (.bool (q x)))) :
  CallsT P 90 [.sl (l.map dH),.fn 91 [] [.pt [IC y.trait,IC y.module,IC y.params,.sl (y.bounds.map aZ),IC y.type.kind,IC y.type.id,.sl (y.type.args.map aI),IC y.func] 0]] [] (aU [] (IC (aW q l 0))):=by
 have d:(l.map dH).length=l.length:=vz _;refine af Try.func90 Pd rfl fun o _=>?_;have m:l.length<=9223372036854775807:=by have:=gZ o.1;rwa [d] at this
 refine bX l.length 8 [] () (fun _=>[]) (fun _=>[]) (fun k _=>aW q (l.drop k) k=aW q l 0) rfl (ai rfl) trivial trivial (fun _=>rfl) (fun _=>rfl) ?_;rintro k _ p b _ _ _;refine ah (fun a=>?_) (fun c=>?_)
 ·have a:k<l.length:=by rw[d] at a;omega
  refine aX a fun x n f e=>?_;refine j4 (by omega) (show l[((k:Int)).toNat]?=some x from n) ?_;refine aY (h x f) rfl fun _=>?_;refine aq (fun j=>?_) (fun j=>?_)
  ·exact aC rfl (vv IC (lV e b j))
  ·refine Fit.aaf (by omega) (by omega) ?_;exact⟨(k+1,()),⟨a,oD e b j⟩,⟨bM,trivial⟩,trivial,bN a⟩
 ·have c:¬k<l.length:=by rw[d] at c;omega
  exact aC rfl (vv IC (oE c b))
end Go.Fr.Try
