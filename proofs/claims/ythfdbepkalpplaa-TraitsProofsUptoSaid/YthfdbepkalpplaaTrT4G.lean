/- Part of the proofs of the statements of this seat. -/
import Derived.Test.YthfdbepkalpplaaUnH1G
import Derived.Test.YthfdbepkalpplaaTrCode
set_option maxRecDepth 10000
set_option linter.unusedVariables false
set_option linter.unusedSimpArgs false
namespace Go.Fr.Try
open Go Go.RowKit Go.Proofs Go.Fr Go.Fr.T Go.Fr.Api
def zT:Ty:=.mk 0 0 []
def iT:Ty:=.mk 1 0 []
def bx (t:Ty):Ty:=.mk 3 0 [t]
def two:List Ty:=[zT,zT]
theorem cE {t:Ty}(h:decide (cnt t<=100)=true):jl t:=GY t (by have:=abv h;omega)
theorem gH {t:Ty}(h:decide (cK t<=100)=true):cK t<=2 ^ 40:=by have:=abv h;omega
theorem LB:∀x∈two,jl x:=fun x a=>by
 rcases aaW.1 a with rfl | a
 ·exact cE rfl
 ·rw[abI.1 a];exact cE rfl
theorem LC:∃d o,bF two 10=some (some (d,o)):=⟨_,_,rfl⟩
theorem u1:CallsT P 23 [.sl (two.map aM),aT (bx (vr 0)),aT (bx iT)] [] (aU [] (.tup [.sl ([iT,zT].map aM),IC 0])) :=
 D5 (by decide) LB (cE rfl) (cE rfl) (gH rfl) (gH rfl) (m:=10) [iT,zT] [iT,zT] [(0,1)] [(0,true)] 2 LC rfl rfl rfl ⟨_,_,rfl⟩ (by decide) rfl
theorem u2:CallsT P 23 [.sl (two.map aM),aT (vr 0),aT (vr 1)] [] (aU [] (.tup [.sl ([zT,vr 0].map aM),IC 0])) :=
 D5 (by decide) LB (cE rfl) (cE rfl) (gH rfl) (gH rfl) (m:=10) [zT,vr 0] [zT,vr 0] [(1,1)] [(1,true)] 1 LC rfl rfl rfl ⟨_,_,rfl⟩ (by decide) rfl
theorem u3:CallsT P 23 [.sl (two.map aM),aT (bx (vr 0)),aT (.mk 4 0 [vr 0])] [] (aU [] (.tup [.sl [],IC 8])) :=
 LA (by decide) LB (cE rfl) (cE rfl) (gH rfl) (gH rfl) (m:=10) LC rfl rfl
theorem a1:CallsT P 22 [.sl ([iT,zT].map aM),aT (bx (vr 0))] [] (aU [] (aT (bx iT))) :=
 apply [iT,zT] 10 (bx (vr 0)) (bx iT) [(0,1)] [(0,true)] rfl (fun x a=>by
  rcases aaW.1 a with rfl | a
  ·exact cE rfl
  ·rw[abI.1 a];exact cE rfl) (cE rfl) rfl
section
variable {L:TL}{ρ:aK}
end
theorem UR.no {n m:Nat}{s:List Ty}{a b:Ty}{r:List Ty}{e:Int}(f:UR n s a b r e) (h1:∃d o,bF s m=some (some (d,o))) (h:mW s a b=true) (c:lG m s a b=some none):e=8:=by
 obtain⟨d,o,h1⟩:=h1;rcases f with⟨s',g,_⟩ | ⟨g,rfl⟩
 ·have:=kF c g.2.2.1;cases this
 ·rcases g with⟨q,_⟩ | ⟨_,⟨q,_⟩ | ⟨_,⟨_,q⟩ | ⟨s',q,_⟩⟩⟩
  ·have:=iH h1 q;cases this
  ·rw[h] at q;cases q
  ·exact q
  ·have:=kF c q;cases this
def zeros (m:Nat):List Ty:=List.replicate m (.mk 0 0 [])
theorem Fw {m:Nat}{t x:Ty}(h:bQ (zeros m) t=some x):x=.mk 0 0 []:=by
 have:=qu h;exact(abY.1 this).2
theorem Fx (m n i:Nat) (hi:i<m):bE (zeros m) (n+1) (vr i) [] []=some (some (1,[],[])):=by
 have he:∃x,bQ (zeros m) (vr i)=some x/\x∈zeros m:=yI (sG (show i<(zeros m).length by rw[zeros,aby];exact hi)) rfl;obtain⟨x,he,_⟩:=he;have a:=Fw he;subst a;rw[Bb (x:=.mk 0 0 []) (by rw[o5 (show(vr i).kind=9 from rfl)];exact he) rfl];rfl
theorem vK (m n:Nat):∀i,i<=m->dw (zeros m) (n+1) i=some (some (false,[],[]))
 | 0,_=>rfl
 | i+1,hi=>by
  rw[dw,vK m n i (by omega)];simp only;rw[Fx m n i (by omega)];rfl
theorem Fy (m n:Nat):∃d o,bF (zeros m) (n+1)=some (some (d,o)):=by
 have b:(zeros m).length=m:=by rw[zeros,aby]
 refine⟨[],[],?_⟩;unfold bF;rw[o5,b,vK m n m (aa3 _)]
 ·rfl
 ·rw[aa1];intro x a;rw[(abY.1 a).2];rfl
theorem Bf {b:Bool}{A B:Prop}(h:b=true->A) (k:b=false->B):zq b A B:=by cases b;exact k rfl;exact h rfl
def dR (n:Int) (len:Nat):Bool:=decide (0<=n)&&decide (n<len)
theorem fu {n:Int}{len:Nat}:dR n len=true↔0<=n/\n<len:=by rw[dR,aaN,aa2,aa2]
abbrev R5 (f:Nat):Prop:=∀(els:List (List C)) (n:Int),CallsT P f [.sl els,IC n] [] (aU [] (.bool (dR n els.length)))
theorem X0:R5 84:=fun els n=>by
 refine af Try.func84 Ot rfl fun a _=>?_;refine ah (fun h=>?_) (fun h=>?_)
 ·exact aC rfl (xo C.bool (by rw[dR,aaS (show(0:Int)<=n from h),aaV]))
 ·exact aC rfl (xo C.bool (by rw[dR,aaT (show¬(0:Int)<=n from h),aaY]))
theorem t85:R5 85:=fun els n=>by
 refine af Try.func85 Ou rfl fun a _=>?_;refine ah (fun h=>?_) (fun h=>?_)
 ·exact aC rfl (xo C.bool (by rw[dR,aaS (show(0:Int)<=n from h),aaV]))
 ·exact aC rfl (xo C.bool (by rw[dR,aaT (show¬(0:Int)<=n from h),aaY]))
theorem t86:R5 86:=fun els n=>by
 refine af Try.func86 Ov rfl fun a _=>?_;refine ah (fun h=>?_) (fun h=>?_)
 ·exact aC rfl (xo C.bool (by rw[dR,aaS (show(0:Int)<=n from h),aaV]))
 ·exact aC rfl (xo C.bool (by rw[dR,aaT (show¬(0:Int)<=n from h),aaY]))
theorem Uh:R5 103:=fun els n=>by
 refine af Try.func103 KC rfl fun a _=>?_;refine ah (fun h=>?_) (fun h=>?_)
 ·exact aC rfl (xo C.bool (by rw[dR,aaS (show(0:Int)<=n from h),aaV]))
 ·exact aC rfl (xo C.bool (by rw[dR,aaT (show¬(0:Int)<=n from h),aaY]))
theorem WW:R5 108:=fun els n=>by
 refine af Try.func108 KH rfl fun a _=>?_;refine ah (fun h=>?_) (fun h=>?_)
 ·exact aC rfl (xo C.bool (by rw[dR,aaS (show(0:Int)<=n from h),aaV]))
 ·exact aC rfl (xo C.bool (by rw[dR,aaT (show¬(0:Int)<=n from h),aaY]))
theorem WX:R5 111:=fun els n=>by
 refine af Try.func111 KL rfl fun a _=>?_;refine ah (fun h=>?_) (fun h=>?_)
 ·exact aC rfl (xo C.bool (by rw[dR,aaS (show(0:Int)<=n from h),aaV]))
 ·exact aC rfl (xo C.bool (by rw[dR,aaT (show¬(0:Int)<=n from h),aaY]))
theorem WY:R5 112:=fun els n=>by
 refine af Try.func112 KM rfl fun a _=>?_;refine ah (fun h=>?_) (fun h=>?_)
 ·exact aC rfl (xo C.bool (by rw[dR,aaS (show(0:Int)<=n from h),aaV]))
 ·exact aC rfl (xo C.bool (by rw[dR,aaT (show¬(0:Int)<=n from h),aaY]))
theorem WZ (t:Ty):CallsT P 104 [aT t] [] (aU [] (.bool (iN t))):=by
 have e:iN t=(decide (1<=t.kind)&&decide (t.kind<=5)):=rfl;refine af Try.func104 KD rfl fun a _=>?_;refine ah (fun h=>?_) (fun h=>?_)
 ·exact aC rfl (xo C.bool (by rw[e,aaS (show(1:Int)<=t.kind from h),aaV]))
 ·exact aC rfl (xo C.bool (by rw[e,aaT (show¬(1:Int)<=t.kind from h),aaY]))
theorem U0 (n:Int):CallsT P 71 [IC n] [] (aU [] (aT (.mk 5 n []))):=by
 refine af Try.func71 Oh rfl fun a _=>?_;exact aC rfl rfl
abbrev GZ (x:Impl):C:=.agg (dF x)
abbrev pq (p:Prog):C:=.agg (jU p)
theorem yV {l:List Impl}{z:Int}{x:Impl}{K:List C->Prop}(h0:0<=z) (a:l[z.toNat]?=some x) (h:K (dF x)):uI (l.map dF) z 8 K :=
 ⟨_,h0,by rw[aa9,a];rfl,rfl,h⟩
theorem Bg {l:List aR}{z:Int}{x:aR}{K:List C->Prop}(h0:0<=z) (a:l[z.toNat]?=some x) (h:K [IC x.param,IC x.trait]):uI (l.map aS) z 2 K :=
 ⟨_,h0,by rw[aa9,a];rfl,rfl,h⟩
theorem W4 (a b:List Ty) (t:∀x∈a,∀y,qo 80 [aT x,aT y] (x=y)):qo 67 [.sl (a.map aM),.sl (b.map aM),.fn 80 [] []] (a=b):=by
 refine af Try.func67 wD rfl fun u _=>?_;have m:(a.map aM).length=a.length:=by simp
 have hb:(b.map aM).length=b.length:=by simp
 have v:a.length<=9223372036854775807:=by have:=gL u.1;rwa [m] at this
 refine aq (fun d=>?_) (fun d=>?_)
 ·have d:¬a.length=b.length:=fun e=>by
   rw[m,hb,e] at d;simp at d
  exact aC rfl (xo C.bool (gM (Fb d)))
 have d:a.length=b.length:=by
  rw[m,hb] at d;simp at d;omega
 refine cu a.length 17 [] () (fun _=>[]) (fun _=>[]) (fun k _=>∀j<k,a[j]?=b[j]?) (fun j s=>vv s (by omega)) (ak rfl) trivial trivial (fun _=>rfl) (fun _=>rfl) ?_;rintro k ⟨⟩ r f _ _ _;refine ah (fun c=>?_) (fun n=>?_)
 ·have c:k<a.length:=by rw[m] at c;omega
  refine fJ c fun x q p=>?_;refine fJ (l:=b) (k:=k) (by omega) fun y o _=>?_;refine cP q ?_;refine cP o ?_;refine bh (t x p y) rfl fun _=>?_;refine aq (fun h=>?_) (fun h=>?_)
  ·have h:¬x=y:=KZ (by simpa using h);exact aC rfl (xo C.bool (gM (Fc q o h)))
  ·have h:x=y:=Gv (by simpa using h);refine Fit.aag (by omega) (by omega) ?_;exact⟨(k+1,()),⟨c,yA f q o h⟩,⟨bS,trivial⟩,trivial,bV c⟩
 ·have n:¬k<a.length:=by rw[m] at n;omega
  have r:k=a.length:=by omega
  exact aC rfl (xo C.bool (oN (tT rfl d.symm (r▸f))))
theorem X1:∀x y:Ty,qo 80 [aT x,aT y] (x=y):=fun x=>dL (p:=fun x=>∀y,qo 80 [aT x,aT y] (x=y)) (fun x b y=>by
  have a:(x.args.map aM).length=x.args.length:=by simp
  refine af Try.func80 Oo rfl fun c _=>?_;refine ah (fun h0=>?_) (fun h0=>aC rfl (xo C.bool (gM fun e=>h0 (by rw[e]))));refine ah (fun h1=>?_) (fun h1=>aC rfl (xo C.bool (gM fun e=>h1 (by rw[e]))));refine bh (W4 x.args y.args b) rfl fun _=>?_;exact aC rfl (xo C.bool (u4 ⟨fun h=>AR h0 h1 h,fun e=>by rw[e]⟩))) x
mutual
def fresh (n from':Int):Ty->Option Ty
 | .mk k i l=>if k<1\/5<k\/(k=5/\(i<0\/n<=i\/0<l.length)) then none else if k=5 then some (.mk 9 (from'+i) []) else match Cu n from' l with
  | some l'=>some (.mk k i l')
  | none=>none
def Cu (n from':Int):List Ty->Option (List Ty)
 | []=>some []
 | t::l=>match fresh n from' t,Cu n from' l with
  | some t',some l'=>some (t'::l')
  | _,_=>none
end
theorem yX (n f:Int):∀l:List Ty,Cu n f l=kY (fresh n f) l
 | []=>rfl
 | t::l=>by
  rw[Cu,yX n f l,kY];rfl
theorem mF (n f:Int) (t:Ty):fresh n f t=if t.kind<1\/5<t.kind\/(t.kind=5/\(t.id<0\/n<=t.id\/0<t.args.length)) then none else if t.kind=5 then some (.mk 9 (f+t.id) []) else match kY (fresh n f) t.args with
  | some a=>some (.mk t.kind t.id a)
  | none=>none:=by
 cases t;rw[fresh,yX];rfl
def Me:Option Ty->Ty×Bool
 | some r=>(r,true)
 | none=>(zT,false)
def mX (n f:Int) (t:Ty):Ty×Bool:=Me (fresh n f t)
abbrev Fz (n f:Int) (t:Ty) (r:Ty×Bool):Prop:=CallsT P 74 [aT t,IC n,IC f] [] (aU [] (.tup [aT r.1,.bool r.2]))
theorem W5 (n f:Int) (t:Ty) (h:t.kind<1\/5<t.kind\/(t.kind=5/\(t.id<0\/n<=t.id\/0<t.args.length))):Fz n f t (zT,false):=by
 have e:(t.args.map aM).length=t.args.length:=aaP _;refine af Try.func74 Cc rfl fun k _=>?_;refine ah (fun h1=>?_) (fun h1=>ah (fun a=>?_) (fun a=>ah (fun c=>ah (fun d=>?_) (fun d=>ah (fun b=>?_) (fun b=>?_))) (fun c=>?_)))
 ·refine ah (fun _=>aC rfl rfl) (fun q=>vv h1 q)
 ·refine ah (fun _=>aC rfl rfl) (fun q=>vv a q)
 ·exact aC rfl rfl
 ·exact aC rfl rfl
 ·refine ah (fun _=>aC rfl rfl) (fun j=>vv h (by omega))
 ·exact vv h (by omega)
theorem W6 (n f:Int) (t:Ty) (hf:0<=f/\f<=100) (l:n<=100) (h:¬(t.kind<1\/5<t.kind\/(t.kind=5/\(t.id<0\/n<=t.id\/0<t.args.length)))) (a:t.kind=5):Fz n f t (.mk 9 (f+t.id) [],true):=by
 have k:(t.args.map aM).length=t.args.length:=aaP _;refine af Try.func74 Cc rfl fun m _=>?_;refine ah (fun h1=>vv (Or.inl h1) h) (fun h1=>ah (fun d=>vv (Or.inr (Or.inl d)) h) (fun d=>ah (fun c=>ah (fun e=>vv (Or.inr (Or.inr ⟨a,Or.inl e⟩)) h) (fun e=>ah (fun b=>vv (Or.inr (Or.inr ⟨a,Or.inr (Or.inl b)⟩)) h) (fun b=>?_))) (fun c=>vv a c)));refine ah (fun j=>vv (Or.inr (Or.inr ⟨a,Or.inr (Or.inr (by omega))⟩)) h) (fun j=>?_);refine ah (fun _=>?_) (fun q=>vv a q);refine Fit.aag (by omega) (by omega) ?_;exact aC rfl rfl
theorem W7 (n f:Int) (t:Ty) (g:Ty->Ty×Bool) (hb:t.args.length<=2 ^ 30) (h:¬(t.kind<1\/5<t.kind\/(t.kind=5/\(t.id<0\/n<=t.id\/0<t.args.length)))) (r:¬t.kind=5) (w:∀x∈t.args,Fz n f x (g x)) :
  Fz n f t (if t.args.all (fun x=>(g x).2) then(.mk t.kind t.id (t.args.map fun x=>(g x).1),true) else(zT,false)):=by
 have k:(t.args.map aM).length=t.args.length:=aaP _;refine af Try.func74 Cc rfl fun hw _=>?_;refine ah (fun h1=>vv (Or.inl h1) h) (fun h1=>ah (fun s=>vv (Or.inr (Or.inl s)) h) (fun s=>ah (fun p=>vv p r) (fun p=>?_)));refine ah (fun q=>vv q r) (fun _=>?_);refine cu t.args.length 58 [] ([]:List Ty) (fun _=>[]) (fun s'=>[(6,.box 32 [IC 0,IC 0,.nils]),(8,.box 32 [IC t.kind,IC t.id,.rw 76]),(76,.row 32 3 (s'.map aM))]) (fun j s'=>s'=(t.args.take j).map (fun x=>(g x).1)/\(t.args.drop j).all (fun x=>(g x).2)=t.args.all (fun x=>(g x).2)) ⟨by simp,rfl⟩ (ak rfl) trivial
  ⟨.inl ⟨_,rfl,.inl ⟨rfl,rfl⟩⟩,.inl ⟨_,rfl,.inr ⟨32,_,_,rfl,rfl,_,_,rfl,ak rfl,_,_,rfl,ak rfl,_,_,rfl,su rfl rfl,rfl⟩⟩,.inr ⟨rfl,32,3,rfl⟩,trivial⟩ (fun _=>rfl) (fun _=>rfl) ?_
 rintro j s' hj ⟨a,c⟩ _ _ _;have a:s'=(t.args.take j).map (fun x=>(g x).1):=a;have v:(s'.map aM).length=j:=by rw[a,aaP,aaP,abP];omega
 refine ah (fun b=>?_) (fun l=>?_)
 ·have b:j<t.args.length:=by rw[k] at b;omega
  refine aZ b fun x u o m=>?_;refine cP u ?_;refine bh (w x o) rfl fun _=>?_;refine aq (fun d=>?_) (fun d=>?_)
  ·have e:t.args.all (fun x=>(g x).2)=false:=by
    rw[<-c,m,abf,show(g x).2=false by simpa using d,aaY]
   exact aC rfl (by rw[e];rfl)
  ·have d:(g x).2=true:=by simpa using d
   refine rH j rfl v (by decide) (by omega) ?_;refine Fit.aag (by omega) (by omega) ?_;refine⟨(j+1,s'++[(g x).1]),⟨b,?_,?_⟩,⟨bS,trivial⟩,⟨.inl ⟨_,rfl,.inl ⟨rfl,rfl⟩⟩,.inl ⟨_,rfl,.inl ⟨rfl,rfl⟩⟩,.inl ⟨_,rfl,.inl ⟨DI Il,rfl⟩⟩,trivial⟩,bV b⟩
   ·show s'++[(g x).1]=(t.args.take (j+1)).map _;rw[iG u,a,abD];rfl
   ·have:=c;rw[m,abf,d,aaV] at this;exact this
 ·have l:¬j<t.args.length:=by rw[k] at l;omega
  have e:t.args.all (fun x=>(g x).2)=true:=by rw[<-c,List.drop_of_length_le (by omega),List.all_nil]
  have y:C.agg [IC t.kind,IC t.id,.sl (s'.map aM)]=aT (.mk t.kind t.id (t.args.map fun x=>(g x).1)):=by
   rw[a,abC (by omega)];rfl
  refine HY [76] [] ⟨_,[],rfl,rfl,rfl,rfl,?_⟩;rw[e];exact xo (fun z=>C.tup [z,.bool true]) y
theorem LD {f:Ty->Option Ty}:∀l:List Ty,kY f l=if l.all (fun x=>(Me (f x)).2) then some (l.map fun x=>(Me (f x)).1) else none
 | []=>rfl
 | x::l=>by
  rw[kY,LD l,abf,aa0];cases f x with
  | none=>rfl
  | some r =>
   rw[show(Me (some r)).2=true from rfl,show(Me (some r)).1=r from rfl,aaV]
   by_cases a:(l.all fun x=>(Me (f x)).2)=true
   ·rw[o5 a,o5 a]
   ·rw[q9 a,q9 a]
theorem X2 (n f:Int) (hf:0<=f/\f<=100) (d:n<=100):∀t:Ty,jl t->Fz n f t (mX n f t):=dL fun t j hb=>by
 have hb:=(fS t).1 hb
 by_cases h:t.kind<1\/5<t.kind\/(t.kind=5/\(t.id<0\/n<=t.id\/0<t.args.length))
 ·have:=W5 n f t h;rw[mX,mF,o5 h];exact this
 by_cases b:t.kind=5
 ·have:=W6 n f t hf d h b;rw[mX,mF,q9 h,o5 b];exact this
 ·have:=W7 n f t (mX n f) hb.1 h b fun x c=>j x c (hb.2 x c);have e:fresh n f t=if t.args.all (fun x=>(mX n f x).2) then some (.mk t.kind t.id (t.args.map fun x=>(mX n f x).1)) else none:=by
   rw[mF,q9 h,q9 b,LD]
   by_cases a:(t.args.all fun x=>(Me (fresh n f x)).2)=true
   ·rw[o5 a];exact(o5 a).symm
   ·rw[q9 a];exact(q9 a).symm
  rw[mX,e]
  by_cases a:(t.args.all fun x=>(mX n f x).2)=true
  ·rw[o5 a] at this ⊢;exact this
  ·rw[q9 a] at this ⊢;exact this
def Cv (s:List Ty) (a b:Ty):Prop:=∃n s',Ll n s a b s'
theorem UR.ok {n:Nat}{s:List Ty}{a b:Ty}{r:List Ty}{e:Int}(t:UR n s a b r e):e=0↔Cv s a b:=by
 constructor
 ·rintro rfl;rcases t with⟨s',g,_⟩ | ⟨g,_⟩
  ·exact⟨n,s',g⟩
  ·have:=g.three;omega
 ·rintro⟨m,s',g⟩;rcases t with⟨_,_,_,h⟩ | ⟨q,_⟩
  ·exact h
  ·obtain⟨⟨d,o,h1⟩,hp,v,d1,o1,k,d2,o2,u,w,hk⟩:=g;exfalso;rcases q with⟨q,_⟩ | ⟨_,⟨q,_⟩ | ⟨_,⟨q,_⟩ | ⟨z,q,_,c⟩⟩⟩
   ·have:=iH h1 q;cases this
   ·rw[hp] at q;cases q
   ·have:=kF v q;cases this
   ·have p:=kF v q;injection p with p
    subst p;rcases c with c | ⟨d',o',c,f⟩
    ·have:=iH u c;cases this
    ·have j:=iH u c;injection j with j
     injection j with j e3
     subst j e3;rcases f with f | ⟨k',y,x,f,q4⟩
     ·have:=t9 w f;cases this
     ·have l:=t9 w f;injection l with l
      injection l with l
      omega
def R6 (a b:Impl):Prop:=a.trait=b.trait/\0<=a.params/\0<=b.params/\a.params<=4/\b.params<=4/\∃x y,fresh a.params 0 a.type=some x/\fresh b.params a.params b.type=some y/\Cv (zeros (a.params+b.params).toNat) x y
theorem wI {n f:Int}:∀t r:Ty,fresh n f t=some r->jl t->jl r/\cK r=cK t:=dL (p:=fun t=>∀r,fresh n f t=some r->jl t->jl r/\cK r=cK t) fun t e r h hb=>by
 rw[mF] at h;split at h
 ·cases h
 ·rename_i m;split at h
  ·rename_i o;injection h with h
   subst h;have k:t.args=[]:=abu (by omega);exact⟨(fS _).2 ⟨abe _,fun x h=>by cases h⟩,by rw[dH t,k];rfl⟩
  ·cases d:kY (fresh n f) t.args with
   | none=>rw[d] at h;cases h
   | some l =>
    rw[d] at h;injection h with h
    subst h;obtain⟨h1,j⟩:=ju d;have hb:=(fS t).1 hb;have key:∀x∈t.args,jl ((fresh n f x).getD x)/\cK ((fresh n f x).getD x)=cK x:=fun x a=>e x a _ (h1 x a) (hb.2 x a);refine⟨(fS _).2 ⟨by show l.length<=_;rw[j,aaP];exact hb.1,fun y b=>?_⟩,?_⟩
    ·have b:y∈l:=b;rw[j] at b;obtain⟨x,a,rfl⟩:=abt.1 b;exact(key x a).1
    ·rw[dH,dH t];show cS l+1=_;have:∀c:List Ty,(∀x∈c,cK ((fresh n f x).getD x)=cK x)->cS (c.map fun x=>(fresh n f x).getD x)=cS c:=by
      intro c
      induction c with
      | nil=>exact fun _=>rfl
      | cons x c e=>intro d;rw[aa0,cS,cS,d x (by simp),e fun y b=>d y (by simp[b])]
     rw[j,this t.args fun x a=>(key x a).2]
abbrev LF (f:Nat) (a b:Impl):Prop:=CallsT P f [GZ a,GZ b] [] (aU [] (.bool (zw (R6 a b))))
theorem Ui (a b:Impl) (h:¬(a.trait=b.trait/\0<=a.params/\0<=b.params/\a.params<=4/\b.params<=4)):LF 32 a b:=by
 have j:¬R6 a b:=fun q=>h ⟨q.1,q.2.1,q.2.2.1,q.2.2.2.1,q.2.2.2.2.1⟩;have e:=gM j;refine af Try.func32 Gr rfl fun c _=>?_;refine aX (fun _=>?_) (fun h1=>?_)
 ·exact aC rfl (xo C.bool e)
 refine⟨RJ (by exact c.1.2.2.1) (by exact c.2.1.2.2.1),?_⟩;refine ah (fun _=>?_) (fun f=>?_)
 ·exact aC rfl (xo C.bool e)
 refine⟨Fh (by exact c.1.2.2.1) (by exact c.2.1.2.2.1),?_⟩;refine ah (fun _=>?_) (fun d=>?_)
 ·exact aC rfl (xo C.bool e)
 have f:¬(if b.params<a.params then b.params else a.params)<0:=f;have d:¬(if b.params>a.params then b.params else a.params)>4:=d;exact vv ⟨h1,by split at f<;>split at d<;>omega⟩ h
section
variable {L:TL}{ρ:aK}
theorem O9 (l:Nat) {t sz:Nat}{els:List (List C)}{n:Nat}{s:List Ty}{a b:Ty}{args f:List C}{K:TL->aK->C->Prop}{d:Option Nat}(h:CallsT P 23 f [] (RN n s a b)) (he:Da P 23) (o:L.get l=some (.row t sz els)) (p:(args.map fun c=>(c.frz l els).aaj.ren (bA [] 1000))=f)
  (k:∀r e,UR n s a b r e->Wf (.tup [.sl (r.map aM),IC e])->K ((L.aad (C.kill l)).set l (.row t sz [])) (fun j=>(ρ j).kill l) (C.tup [.sl (r.map aM),IC e])):uJ P 23 args L ρ d K:=by
 subst p;exact .row _ l t sz els he o h fun v Mo ⟨q,r,e,m,u⟩ w=>by subst q u;exact⟨rfl,k r e m w⟩
end
theorem Uj:Da P 23:=⟨Try.f23,Try.func23,by kernel_rfl,by kernel_rfl⟩
theorem Qv (a b:Impl) (h:a.trait=b.trait/\0<=a.params/\0<=b.params/\a.params<=4/\b.params<=4) (x y:Ty×Bool) (h1:Fz a.params 0 a.type x) (o:Fz b.params a.params b.type y) (m:Nat) (u:(m:Int)=a.params+b.params) (v:Bool)
  (p:x.2=false->v=false) (k:y.2=false->v=false) (n:Nat) (c:x.2=true->y.2=true->CallsT P 23 [.sl (List.replicate m [IC 0,IC 0,.sl []]),aT x.1,aT y.1] [] (RN n (zeros m) x.1 y.1)/\∀r e,UR n (zeros m) x.1 y.1 r e->decide (e=0)=v):CallsT P 32 [GZ a,GZ b] [] (aU [] (.bool v)):=by
 obtain⟨x,s⟩:=x;obtain⟨y,t⟩:=y;generalize j:UR=U at c;refine af Try.func32 Gr rfl fun d _=>?_;refine aX (fun q=>vv h.1 q) (fun _=>?_);refine⟨RJ (by exact d.1.2.2.1) (by exact d.2.1.2.2.1),?_⟩;refine ah (fun q=>?_) (fun _=>?_)
 ·have q:(if b.params<a.params then b.params else a.params)<0:=q;exact vv q (by split<;>omega)
 refine⟨Fh (by exact d.1.2.2.1) (by exact d.2.1.2.2.1),?_⟩;refine ah (fun q=>?_) (fun _=>?_)
 ·have q:(if b.params>a.params then b.params else a.params)>4:=q;exact vv q (by split<;>omega)
 refine bh h1 rfl fun _=>?_;refine bh o rfl fun _=>?_;refine aq (fun q=>?_) (fun q=>?_)
 ·exact aC rfl (xo C.bool (p (by simpa using q)).symm)
 refine aq (fun f=>?_) (fun f=>?_)
 ·exact aC rfl (xo C.bool (k (by simpa using f)).symm)
 have c:=c (by simpa using q) (by simpa using f);refine AY (m:=(m:Int)) (by rw[IntKind.wrap_i64];omega) ?_;refine uw.mk (by omega) (abm _) (by omega) (by simp only[maxLen];omega) ?_;subst j;refine O9 62 c.1 Uj rfl rfl fun r e l _=>?_;exact aC rfl (xo C.bool (c.2 r e l))
theorem t32 (a b:Impl) (t:jl a.type) (hb:jl b.type) (ad:cK a.type<=2 ^ 40) (am:cK b.type<=2 ^ 40):LF 32 a b:=by
 by_cases h:a.trait=b.trait/\0<=a.params/\0<=b.params/\a.params<=4/\b.params<=4
 ·have h1:=X2 a.params 0 (by omega) (by omega) a.type t;have u:=X2 b.params a.params (by omega) (by omega) b.type hb;have v:∀{o:Option Ty},(Me o).2=true->o=some (Me o).1:=fun{o} h=>by cases o with | none=>cases h | some r=>rfl
  have p:∀{o:Option Ty}{r:Ty},o=some r->(Me o).2=true:=fun{o} {r} h=>by rw[h];rfl
  by_cases c:(mX a.params 0 a.type).2=true/\(mX b.params a.params b.type).2=true
  ·have ex:=v c.1;have l:=v c.2;obtain⟨k,ac⟩:=wI a.type _ ex t;obtain⟨j,al⟩:=wI b.type _ l hb;have hl:(zeros (a.params+b.params).toNat).length=(a.params+b.params).toNat:=by rw[zeros,aby]
   obtain⟨n,m,_⟩:=Fv (s:=zeros (a.params+b.params).toNat) (by rw[hl];omega) (fun x c=>by rw[(abY.1 c).2];exact(fS _).2 ⟨abe _,fun x h=>by cases h⟩) k j (by omega) (by omega);have z:(zeros (a.params+b.params).toNat).map aM=List.replicate (a.params+b.params).toNat [IC 0,IC 0,.sl []]:=by rw[zeros,ab6];rfl
   rw[z] at m;refine Qv a b h _ _ h1 u (a.params+b.params).toNat (by omega) _ (fun q=>by rw[c.1] at q;cases q) (fun q=>by rw[c.2] at q;cases q) n fun _ _=>⟨m,fun r e hr=>OO (hr.ok.trans ?_)⟩;constructor
   ·exact fun q=>⟨h.1,h.2.1,h.2.2.1,h.2.2.2.1,h.2.2.2.2,_,_,ex,l,q⟩
   ·rintro⟨_,_,_,_,_,x,y,f,d,q⟩;rw[ex] at f;rw[l] at d;injection f with f
    injection d with d
    subst f d;exact q
  ·have hv:¬R6 a b:=fun⟨_,_,_,_,_,x,y,f,d,_⟩=>c ⟨p f,p d⟩;have e:=gM hv;refine Qv a b h _ _ h1 u (a.params+b.params).toNat (by omega) _ (fun _=>e.symm) (fun _=>e.symm) 0 fun q1 w=>vv ⟨q1,w⟩ c
 ·exact Ui a b h
mutual
def qx (q:Int->Bool):Ty->Bool
 | .mk k i l=>if k=9 then q i else G3 q l
def G3 (q:Int->Bool):List Ty->Bool
 | []=>true
 | t::l=>qx q t&&G3 q l
end
theorem Bh (q:Int->Bool):∀l:List Ty,G3 q l=l.all (qx q)
 | []=>rfl
 | t::l=>by rw[G3,Bh q l];rfl
theorem iI (q:Int->Bool) (t:Ty):qx q t=if t.kind=9 then q t.id else t.args.all (qx q):=by
 cases t;rw[qx,Bh];rfl
theorem uc {q q':Int->Bool}{n:Int}(h:∀w,0<=w->w<n->q w=true->q' w=true):∀t:Ty,ins n t=true->qx q t=true->qx q' t=true:=dL fun t j f c=>by
 rw[iI] at c ⊢
 by_cases d:t.kind=9
 ·rw[o5 d] at c ⊢;obtain⟨a,b,_⟩:=oU f d;exact h _ a b c
 ·rw[q9 d,aa1] at c ⊢;exact fun x e=>j x e (eT f x e) (c x e)
def kn (s:List Ty):Nat->Int->Bool
 | 0,_=>false
 | j+1,v=>match s[v.toNat]? with
  | none=>true
  | some x=>decide (x.kind=0)||qx (kn s j) x
theorem yY {s:List Ty}(b:En s):∀(j:Nat) (v:Int),kn s j v=true->kn s (j+1) v=true
 | 0,v,h=>by cases h
 | j+1,v,h=>by
  rw[kn] at h ⊢;cases c:s[v.toNat]? with
  | none=>rfl
  | some x =>
   rw[c] at h;simp only at h ⊢
   by_cases a:x.kind=0
   ·rw[aaS a];rfl
   ·rw[aaT a,Bool.false_or] at h ⊢;exact uc (fun w _ _=>yY b j w) x ((b x (aaZ c)).resolve_left a) h
theorem Pb {s:List Ty}(o:En s) {j:Nat}{t:Ty}(h:jQ s t):ins s.length t=true->qx (kn s j) t=false->∃i:Nat,i<s.length/\kn s j i=false/\kn s (j+1) i=true:=by
 induction h with
 | @step t x b he f _ d =>
  intro k a;obtain⟨p,l,c⟩:=bJ he
  by_cases n:qx (kn s j) x=true
  ·rw[iI,o5 b] at a;have e:((t.id.toNat:Nat):Int)=t.id:=by omega
   refine⟨t.id.toNat,c,by rw[e];exact a,?_⟩;rw[kn,e,l];simp only;rw[n,Bool.or_true]
  ·exact d (o.elem he f) (by simpa using n)
 | @stop t x b he f _ _ =>
  intro k a;obtain⟨p,l,c⟩:=bJ he;rw[iI,o5 b] at a;have e:((t.id.toNat:Nat):Int)=t.id:=by omega
  refine⟨t.id.toNat,c,by rw[e];exact a,?_⟩;rw[kn,e,l];simp only;rw[aaS f,Bool.true_or]
 | @arg t b _ d =>
  intro k a;rw[iI,q9 b,List.all_eq_false] at a;obtain⟨y,m,a⟩:=a;exact d y m (eT k y m) (by simpa using a)
def rz (q:Nat->Bool):Nat->Nat
 | 0=>0
 | n+1=>(if q n=true then 1 else 0)+rz q n
theorem G5 (q:Nat->Bool):∀n,rz q n<=n
 | 0=>aa3 _
 | n+1=>by have:=G5 q n;rw[rz];split<;>omega
theorem Bj {q q':Nat->Bool}(h:∀i,q i=true->q' i=true):∀n,rz q n<=rz q' n
 | 0=>aa3 _
 | n+1=>by
  have:=Bj h n;rw[rz,rz]
  by_cases a:q n=true
  ·rw[o5 a,o5 (h n a)];omega
  ·rw[q9 a];split<;>omega
theorem G6 {q q':Nat->Bool}(h:∀i,q i=true->q' i=true) {i:Nat}(h1:q i=false) (b:q' i=true):∀n,i<n->rz q n<rz q' n
 | 0,hi=>vv hi (abB _)
 | n+1,hi=>by
  rw[rz,rz]
  by_cases e:i=n
  ·subst e;have:=Bj h i;rw[q9 (by rw[h1];exact abd),o5 b];omega
  ·have:=G6 h h1 b n (by omega)
   by_cases a:q n=true
   ·rw[o5 a,o5 (h n a)];omega
   ·rw[q9 a];split<;>omega
theorem Bk {q:Nat->Bool}:∀{n},n<=rz q n->∀i<n,q i=true
 | 0,_,i,hi=>vv hi (abB _)
 | n+1,h,i,hi=>by
  rw[rz] at h;have:=G5 q n
  by_cases a:q n=true
  ·rw[o5 a] at h
   by_cases e:i=n
   ·rw[e];exact a
   ·exact Bk (n:=n) (q:=q) (by omega) i (by omega)
  ·rw[q9 a] at h;omega
theorem Good.kn {s:List Ty}(g:Good s):∀i:Nat,i<s.length->Try.kn s s.length i=true:=by
 have l:∀j,j<=s.length->j<=rz (fun i=>Try.kn s j i) s.length:=by
  intro j
  induction j with
  | zero=>exact fun _=>abe _
  | succ j e =>
   intro f;have e:=e (by omega)
   by_cases a:∀i:Nat,i<s.length->Try.kn s j i=true
   ·have:∀n,n<=s.length->n<=rz (fun i=>Try.kn s (j+1) i) n:=by
     intro n
     induction n with
     | zero=>exact fun _=>abe _
     | succ n c =>
      intro o;have:=c (by omega);rw[rz,o5 (yY g.ins j n (a n (by omega)))];omega
    exact abx f (this s.length (aa3 _))
   ·have:∃i:Nat,i<s.length/\Try.kn s j i=false:=by
     refine Classical.byContradiction fun d=>a fun i hi=>?_;cases b:Try.kn s j i with
     | true=>rfl
     | false=>exact vv ⟨i,hi,b⟩ d
    obtain⟨i,hi,b⟩:=this;obtain⟨k,h1,m,h⟩:=Pb g.ins (j:=j) (g.fin i hi) (sG hi) (by rw[iI,o5 (show(vr i).kind=9 from rfl)];exact b);have:=G6 (q:=fun i=>Try.kn s j i) (q':=fun i=>Try.kn s (j+1) i) (fun i=>yY g.ins j i) (i:=k) m h s.length h1;omega
 exact Bk (l s.length (aa3 _))
theorem LG {p:Nat->Prop}:∀n,p n->∃m,m<=n/\p m/\∀k<m,¬p k
 | 0,h=>⟨0,aa3 _,h,fun k b=>vv b (abB _)⟩
 | n+1,h=>by
  by_cases e:∃k,k<=n/\p k
  ·obtain⟨k,b,h⟩:=e;have f:∀k,k<=n->p k->∃m,m<=k/\p m/\∀j<m,¬p j:=by
    intro k
    induction k using Nat.strongRecOn with
    | _ k l =>
     intro b h
     by_cases d:∃j,j<k/\p j
     ·obtain⟨j,c,a⟩:=d;obtain⟨m,m1,m2,m3⟩:=l j c (by omega) a;exact⟨m,by omega,m2,m3⟩
     ·exact⟨k,aa3 _,h,fun j c a=>d ⟨j,c,a⟩⟩
   obtain⟨m,m1,m2,m3⟩:=f k b h;exact⟨m,by omega,m2,m3⟩
  ·exact⟨n+1,aa3 _,h,fun k b a=>e ⟨k,by omega,a⟩⟩
structure Rk (s:List Ty) (ρ:Int->Nat):Prop where
 lt:∀i:Nat,i<s.length->ρ i<s.length
 dn:∀(i:Nat) (x:Ty),s[i]?=some x->¬x.kind=0->qx (fun w=>decide (ρ w<ρ i)) x=true
theorem Good.aaH {s:List Ty}(g:Good s):∃ρ,Rk s ρ:=by
 have h:∀v:Int,∃m,(0<=v->v<s.length->m<s.length/\Try.kn s (m+1) v=true/\∀k<m,Try.kn s (k+1) v=false):=by
  intro v
  by_cases o:0<=v/\v<s.length
  ·have h1:=g.kn v.toNat (by omega);rw[show((v.toNat:Nat):Int)=v by omega] at h1;obtain⟨m,m1,m2,m3⟩:=LG (p:=fun m=>Try.kn s (m+1) v=true) (s.length-1) (by rw[show s.length-1+1=s.length by omega];exact h1);exact⟨m,fun _ _=>⟨by omega,m2,fun k d=>by simpa using m3 k d⟩⟩
  ·exact⟨0,fun a b=>vv ⟨a,b⟩ o⟩
 refine⟨fun v=>(h v).choose,⟨fun i hi=>((h i).choose_spec (by omega) (by omega)).1,fun i x j d=>?_⟩⟩;have hi:i<s.length:=(aaU.1 j).1;obtain⟨a,b,c⟩:=(h i).choose_spec (by omega) (by omega);have f:=(g.ins x (aaZ j)).resolve_left d;show qx (fun w=>decide ((h w).choose<(h i).choose)) x=true;generalize r:(h (i:Int)).choose=m at a b c ⊢;rw[Try.kn,show((i:Nat):Int).toNat=i by omega,j] at b;simp only at b;rw[aaT d,Bool.false_or] at b;refine uc (fun w h0 h1 l=>?_) x f b;obtain⟨a',q,n⟩:=(h w).choose_spec h0 h1;cases m with
 | zero=>cases l
 | succ m =>
  rw[aa2];have:=fun(k:Nat) (d:k<(h w).choose)=>n k d
  by_cases e:m<(h w).choose
  ·rw[n m e] at l;cases l
  ·omega
theorem R7 {u:List Ty}{B:Nat}(c:∀x∈u,cK x<=B):∀t:Ty,cK (gs u t)<=cK t+B:=dL fun t e=>by
 by_cases b:t.kind=9
 ·rw[mE b];cases a:u[t.id.toNat]? with
  | none=>show cK (.mk 0 0 [])<=_;rw[show cK (.mk 0 0 [])=1 from rfl];have:=dH t;omega
  | some x=>have:=c x (aaZ a);show cK x<=_;omega
 ·rw[jm b,dH,dH t];have:cS (t.args.map (gs u))<=cS t.args+B:=wE fun y d=>by
   obtain⟨x,a,rfl⟩:=abt.1 d;have:=e x a;have:=lF a;omega
  show cS (t.args.map (gs u))+1<=_;omega
def Qw (u:List Ty) (ex:Prop) (d:DM):Prop:=∀j k,bg d j=some k->1<=k/\k<=cK (gs u (.mk 9 j []))/\(ex->k=cK (gs u (.mk 9 j [])))
def LH (d:DM) (o:OM) (j:Int):Prop:=bg o j=some true/\bg d j=none
theorem Pc {n:Nat}(h:n<=2 ^ 50):zx ((n:Int)+1)=((n+1:Nat):Int):=by
 unfold zx;rw[IntKind.wrap_i64];omega
theorem ud {u s:List Ty}{ρ:Int->Nat}{ex:Prop}(hS:Sat u s) (hs:En s) (hR:Rk s ρ) (hu:∀x∈u,cK x<=2 ^ 30) (ar:ex->∀(t:Ty) (x:Ty),t.kind=9->bQ s t=some x->x.kind=0->cK (gs u t)=1) :
  ∀(n:Nat) (t:Ty) (d:DM) (o:OM) r,ins s.length t=true->cK t<=2 ^ 30->(∀x∈s,cK x<=2 ^ 30)->Qw u ex d->(∀j,LH d o j->qx (fun w=>decide (ρ w<ρ j)) t=true)->bE s n t d o=some r ->
   ∃k v o',r=some (k,v,o')/\1<=k/\k<=cK (gs u t)/\(ex->k=cK (gs u t))/\Qw u ex v/\∀j,LH v o' j->LH d o j
 | 0,t,d,o,r,_,_,_,_,_,h=>by cases h
 | n+1,t,d,o,r,ht,cd,al,hd,ho,h=>by
  have hL:∀(l:List Ty) (k:Int) (d:DM) (o:OM) r,(∀x∈l,ins s.length x=true/\cK x<=2 ^ 30/\∀j,LH d o j->qx (fun w=>decide (ρ w<ρ j)) x=true)->Qw u ex d->dW (bE s n) l k d o=some r ->
    ∃k' v o',r=some (k',v,o')/\(∀m:Nat,k<=m->k'<=(max m (cS (l.map (gs u))):Nat))/\k<=k'/\(ex->∀m:Nat,k=m->k'=(max m (cS (l.map (gs u))):Nat))/\Qw u ex v/\∀j,LH v o' j->LH d o j:=by
   intro l
   induction l with
   | nil =>
    intro k d o r _ hd h;rw[dW] at h;injection h with h
    refine⟨k,d,o,h.symm,fun m hm=>?_,abm _,fun _ m hm=>?_,hd,fun j h=>h⟩
    ·rw[abE,cS];omega
    ·rw[abE,cS];omega
   | cons x l ih =>
    intro k d o r hl hd h;rw[dW] at h;obtain⟨bk,bj,bs⟩:=hl x (by simp);cases hx:bE s n x d o with
    | none=>rw[hx] at h;cases h
    | some z =>
     rw[hx] at h;obtain⟨k1,d1,o1,rfl,c1,c2,c3,c4,c5⟩:=ud hS hs hR hu ar n x d o z bk bj al hd bs hx;simp only at h;obtain⟨k2,d2,o2,rfl,e1,e2,e3,e4,e5⟩:=ih _ d1 o1 r (fun y hy=>⟨(hl y (by simp[hy])).1,(hl y (by simp[hy])).2.1,fun j c=>(hl y (by simp[hy])).2.2 j (c5 j c)⟩) c4 h;refine⟨k2,d2,o2,rfl,fun m hm=>?_,?_,fun hx m hm=>?_,e4,fun j c=>c5 j (e5 j c)⟩
     ·have:=e1 (max m (cK (gs u x))) (by split<;>omega);rw[aa0,cS];omega
     ·have:k<=if k1>k then k1 else k:=by split<;>omega
      omega
     ·have:=e3 hx (max m (cK (gs u x))) (by have:=c3 hx;split<;>omega);rw[aa0,cS];omega
  rw[bE] at h;cases he:(if t.kind=9 then bQ s t else some (.mk 0 0 [])) with
  | none=>simp only[he] at h;cases h
  | some x =>
   simp only[he] at h
   by_cases hk:x.kind=0
   ·rw[q9 (fun p=>p hk)] at h;cases hl:dW (bE s n) t.args 0 d o with
    | none=>simp only[hl] at h;cases h
    | some z =>
     simp only[hl] at h
     by_cases f:t.kind=9
     ·have ha:=(oU ht f).2.2;rw[ha,dW] at hl;injection hl with hl
      subst hl;simp only at h;injection h with h
      rw[o5 f] at he;have hg:1<=cK (gs u t):=by rw[dH];omega
      refine⟨_,d,o,h.symm,?_,?_,fun hx=>?_,hd,fun j h=>h⟩
      ·rw[show zx (0+1)=1 from rfl];omega
      ·rw[show zx (0+1)=1 from rfl];omega
      ·rw[show zx (0+1)=1 from rfl,ar hx t x f he hk];rfl
     ·obtain⟨k1,d1,o1,rfl,c1,c2,c3,c4,c5⟩:=hL t.args 0 d o z (fun y hy=>⟨eT ht y hy,by have:=lF hy;have:=dH t;omega,fun j c=>by
       have:=ho j c;rw[iI,q9 f,aa1] at this;exact this y hy⟩) hd hl
      simp only at h;injection h with h
      have hg:=R7 hu t;have c1:=c1 0 (by omega);have hq:cK (gs u t)=cS (t.args.map (gs u))+1:=by rw[jm f,dH];rfl
      have be:k1=(k1.toNat:Int):=by omega
      have hw:zx (k1+1)=k1+1:=by rw[be,Pc (by omega)];omega
      refine⟨_,d1,o1,h.symm,by omega,by omega,fun hx=>?_,c4,c5⟩;have:=c3 hx 0 rfl;omega
   ·rw[o5 hk] at h;have f:t.kind=9:=by
     by_cases f:t.kind=9
     ·exact f
     ·rw[q9 f] at he;injection he with he
      exact vv (by rw[<-he];rfl) hk
    rw[o5 f] at he;obtain⟨e1,e2,e3⟩:=bJ he;have bl:gs u x=gs u t:=hS.elem f he hk;have ba:gs u (.mk 9 t.id [])=gs u t:=lI rfl f rfl;cases hm:bg d t.id with
    | some k =>
     rw[hm] at h;simp only at h;injection h with h
     have:=hd _ _ hm;rw[ba] at this;exact⟨k,d,o,h.symm,this.1,this.2.1,this.2.2,hd,fun j h=>h⟩
    | none =>
     rw[hm] at h;simp only at h;have bo:¬bg o t.id=some true:=fun q=>by
      have:=ho t.id ⟨q,hm⟩;rw[iI,o5 f,aa2] at this;omega
     have an:=hR.dn t.id.toNat x e2 hk;rw[show((t.id.toNat:Nat):Int)=t.id by omega] at an;have key:∀z,bE s n x d (dX o t.id true)=some z->∃k v o',z=some (k,v,o')/\1<=k/\k<=cK (gs u t)/\(ex->k=cK (gs u t))/\Qw u ex (dX v t.id k)/\∀j,LH (dX v t.id k) o' j->LH d o j:=by
      intro z a;obtain⟨k1,d1,o1,rfl,c1,c2,c3,c4,c5⟩:=ud hS hs hR hu ar n x d (dX o t.id true) z (hs.elem he hk) (al x (qu he)) al hd (fun j c=>by
       obtain⟨q1,q2⟩:=c;rw[ij] at q1
       by_cases e:j=t.id
       ·rw[e];exact an
       ·rw[q9 e] at q1;have:=ho j ⟨q1,q2⟩;rw[iI,o5 f,aa2] at this;exact uc (n:=s.length) (fun w _ _ hw=>by rw[aa2] at hw ⊢;omega) x (hs.elem he hk) an) a
      rw[bl] at c2 c3;refine⟨k1,d1,o1,rfl,c1,c2,c3,fun j k c=>?_,fun j c=>?_⟩
      ·rw[ij] at c
       by_cases e:j=t.id
       ·rw[o5 e] at c;injection c with c
        rw[e,ba,<-c];exact⟨c1,c2,c3⟩
       ·rw[q9 e] at c;exact c4 j k c
      ·obtain⟨q1,q2⟩:=c;rw[ij] at q2
       by_cases e:j=t.id
       ·rw[o5 e] at q2;cases q2
       ·rw[q9 e] at q2;obtain⟨q3,q4⟩:=c5 j ⟨q1,q2⟩;rw[ij,q9 e] at q3;exact⟨q3,q4⟩
     cases ao:bg o t.id with
     | none =>
      rw[ao] at h;simp only at h;cases a:bE s n x d (dX o t.id true) with
      | none=>rw[a] at h;cases h
      | some z =>
       rw[a] at h;obtain⟨k,v,o',rfl,q⟩:=key z a;simp only at h;injection h with h
       exact⟨_,_,_,h.symm,q⟩
     | some b =>
      rw[ao] at h;cases b with
      | true=>exact vv ao bo
      | false =>
       simp only at h;cases a:bE s n x d (dX o t.id true) with
       | none=>rw[a] at h;cases h
       | some z =>
        rw[a] at h;obtain⟨k,v,o',rfl,q⟩:=key z a;simp only at h;injection h with h
        exact⟨_,_,_,h.symm,q⟩
theorem uf {u s:List Ty}{ρ:Int->Nat}{ex:Prop}(hS:Sat u s) (p:En s) (y:Rk s ρ) (v:∀x∈u,cK x<=2 ^ 30) (c:ex->∀(t:Ty) (x:Ty),t.kind=9->bQ s t=some x->x.kind=0->cK (gs u t)=1) (f:∀x∈s,cK x<=2 ^ 30) (n:Nat) :
  ∀(i:Nat) r,i<=s.length->dw s n i=some r->∃b d o,r=some (b,d,o)/\((∀j:Nat,j<i->cK (gs u (vr j))<=8)->b=false)/\(ex->b=false->∀j:Nat,j<i->cK (gs u (vr j))<=8)/\Qw u ex d/\∀j,¬LH d o j
 | 0,r,_,h=>by
  rw[dw] at h;injection h with h
  exact⟨false,[],[],h.symm,fun _=>rfl,fun _ _ j a=>vv a (abB _),fun j k e=>(by cases e),fun j q=>by have:=q.1;cases this⟩
 | i+1,r,hi,h=>by
  rw[dw] at h;cases l:dw s n i with
  | none=>rw[l] at h;cases h
  | some r1 =>
   rw[l] at h;obtain⟨b,d,o,rfl,c1,c2,c3,c4⟩:=uf hS p y v c f n i r1 (by omega) l;simp only at h;cases m:bE s n (vr i) d o with
   | none=>rw[m] at h;cases h
   | some r2 =>
    rw[m] at h;obtain⟨k,d',o',rfl,e1,e2,e3,e4,z⟩:=ud hS p y v c n (vr i) d o r2 (sG (by omega)) (by rw[show cK (vr i)=1 from rfl];omega) f c3 (fun j a=>vv a (c4 j)) m;simp only at h;injection h with h
    refine⟨_,d',o',h.symm,fun q=>?_,fun w q j a=>?_,e4,fun j a=>c4 j (z j a)⟩
    ·have:=q i (abU i);rw[c1 fun j a=>q j (by omega),aaT (by omega)];rfl
    ·rw[Bool.or_eq_false_iff,abZ] at q
     by_cases e:j=i
     ·subst e;have:=e3 w;omega
     ·exact c2 w q.1 j (by omega)
theorem D6 {s:List Ty}(h0:∀x∈s,x.kind=0->x=.mk 0 0 []) (c:En s):s.all (eG s.length)=true:=by
 rw[aa1];intro x b;rcases c x b with a | a
 ·rw[h0 x b a];rfl
 ·rw[yN (by have:=nU a;omega)];exact a
theorem FA {s:List Ty}(h:s.all (eG s.length)=true):∀x∈s,x.kind=0->x=.mk 0 0 []:=fun x b a=>by
 have h:=(aa1.1 h) x b;unfold eG at h;rw[o5 a,aaN,aa2,aa2] at h;exact AR a h.1 (abu h.2)
theorem Cw {p:Ty->Prop}(hp:∀t,p t->∀x∈t.args,p x) (hv:∀i,p (.mk 9 i [])):∀(n:Nat) (s:List Ty) (a b:Ty) (s':List Ty),(∀x∈s,p x)->p a->p b->lG n s a b=some (some s')->∀x∈s',p x:=by
 intro n
 induction n with
 | zero=>intro s a b s' _ _ _ h;cases h
 | succ n ih =>
  intro s a b s' c ha hb h;have k:∀{t r:Ty},aO s n t=some r->p t->p r:=fun hf ht=>rj (p:=p) (fun t x _ _ he _=>c x (qu he)) hf ht;have d:∀{i:Nat}{b:Ty},p b->∀x∈s.set i b,p x:=fun hb x f=>by
   rcases ab8 f with f | rfl
   ·exact c x f
   ·exact hb
  cases u:aO s n a with
  | none=>rw[lG,u] at h;cases h
  | some a' =>
  cases fb:aO s n b with
  | none=>rw[lG,u,fb] at h;cases h
  | some q =>
  rw[mD u fb] at h;have m:=k u ha;have e:=k fb hb;split at h
  ·split at h
   ·injection h with h;injection h with h;exact h▸c
   ·injection h with h;injection h with h;rw[<-h]
    exact d (hv _)
  ·split at h
   ·cases ho:kS s a'.id n q with
    | none=>rw[ho] at h;cases h
    | some o =>
     rw[ho] at h;cases o with
     | true=>cases h
     | false=>injection h with h;injection h with h;rw[<-h];exact d e
   ·split at h
    ·exact ih s q a' s' c e m h
    ·split at h
     ·cases h
     ·have hL:∀(l j:List Ty) (s:List Ty),(∀x∈l,p x)->(∀x∈j,p x)->(∀x∈s,p x)->j9 (lG n) s l j=some (some s')->∀x∈s',p x:=by
       intro l
       induction l with
       | nil=>intro j s _ _ c h;rw[j9] at h;injection h with h;injection h with h;exact h▸c
       | cons x l w =>
        intro j s h1 h2 c h;cases j with
        | nil=>cases h
        | cons y j =>
         rw[j9] at h;cases f:lG n s x y with
         | none=>rw[f] at h;cases h
         | some r =>
          rw[f] at h;cases r with
          | none=>cases h
          | some s1=>exact w j s1 (fun z v=>h1 z (by simp[v])) (fun z v=>h2 z (by simp[v])) (ih s x y s1 c (h1 x (by simp)) (h2 y (by simp)) f) h
      exact hL a'.args q.args s (hp a' m) (hp q e) c h
theorem LI {n:Nat}{s:List Ty}{a b:Ty}{s':List Ty}(e:∀x∈s,x.kind=0->x=.mk 0 0 []) (hi:En s) (f:ins s.length a=true) (hb:ins s.length b=true) (h:lG n s a b=some (some s')):∀x∈s',x.kind=0->x=.mk 0 0 []:=by
 have:∀x∈s',x=.mk 0 0 []\/(x.kind=9/\x.args=[])\/(∃m,ins m x=true):=by
  refine Cw (p:=fun x=>x=.mk 0 0 []\/(x.kind=9/\x.args=[])\/(∃m,ins m x=true)) ?_ (fun i=>.inr (.inl ⟨rfl,rfl⟩)) n s a b s' (fun x c=>?_) (.inr (.inr ⟨_,f⟩)) (.inr (.inr ⟨_,hb⟩)) h
  ·rintro t (rfl | ⟨_,h⟩ | ⟨m,h⟩) x c
   ·cases c
   ·rw[h] at c;cases c
   ·exact .inr (.inr ⟨m,eT h x c⟩)
  ·rcases hi x c with d | d
   ·exact .inl (e x c d)
   ·exact .inr (.inr ⟨_,d⟩)
 intro x c d;rcases this x c with h | ⟨h,_⟩ | ⟨m,h⟩
 ·exact h
 ·omega
 ·have:=nU h;omega
theorem FB (s:List Ty):mC s<s.length+1:=by
 induction s with
 | nil=>exact Nat.zero_lt_one
 | cons x s a=>rw[mC,aa7];split<;>omega
theorem Cx {n:Nat}{s:List Ty}{a b:Ty}{s':List Ty}(g:Good s) (d:ins s.length a=true) (hb:ins s.length b=true) (h:lG n s a b=some (some s')):Eo s s':=by
 obtain⟨m,r,h1,c⟩:=yJ _ s g (FB s) a b d hb;have e:=kF h h1;exact c s' e.symm
theorem IQ {s u:List Ty}{a b:Ty}{m:Nat}{d0:DM}{o0:OM}(hf:bF s m=some (some (d0,o0))) (hp:mW s a b=true) (ag:∀x∈s,cK x<=2 ^ 30) (hS:Sat u s) (ad:gs u a=gs u b) (hv:∀x∈u,cK x<=8) (hd:cK (gs u a)<=8):Cv s a b:=by
 have g:=oV hf;obtain⟨i1,i2,p1,p2⟩:=yM hp;obtain⟨n,F,_,_⟩:=Qs s a b;have f:∃d o,bF s n=some (some (d,o)):=by
  obtain⟨r,c⟩:=F.form;exact⟨d0,o0,by rw[c,iH c hf]⟩
 obtain⟨r,c⟩:=F.eq f hp;obtain⟨s',rfl,y⟩:=hS.eqs ad c;have z:=Cx g i1 i2 c;obtain⟨ρ,hR⟩:=z.good.aaH;have v:∀x∈s',cK x<=2 ^ 30:=Cw (p:=fun x=>cK x<=2 ^ 30) (fun t h x hx=>by have:=lF hx;have:=dH t;omega) (fun i=>by rw[show cK (.mk 9 i [])=1 from rfl];omega) n s a b s' ag (by omega) (by omega) c;have hu:∀x∈u,cK x<=2 ^ 30:=fun x hx=>by have:=hv x hx;omega
 have hz:s.all (eG s.length)=true:=by
  unfold bF at hf;split at hf
  ·assumption
  ·cases hf
 obtain⟨r2,e⟩:=F.form' f hp s' c;have al:∀j:Nat,j<s'.length->cK (gs u (vr j))<=8:=fun j hj=>by
  rw[mE (show(vr j).kind=9 from rfl)];cases hx:u[((vr j).id).toNat]? with
  | none=>show cK (.mk 0 0 [])<=8;decide
  | some x=>exact hv x (aaZ hx)
 have l:∃d o,bF s' n=some (some (d,o))/\Qw u False d/\∀j,¬LH d o j:=by
  unfold bF at e ⊢;rw[o5 (D6 (LI (FA hz) g.ins i1 i2 c) z.good.ins)] at e ⊢;cases hl:dw s' n s'.length with
  | none=>rw[hl] at e;cases e
  | some r1 =>
   obtain⟨b1,d,o,rfl,c1,_,c3,c4⟩:=uf (ex:=False) y z.good.ins hR hu (fun q=>q.elim) v n s'.length r1 (aa3 _) hl;have:=c1 al;subst this;exact⟨d,o,rfl,c3,c4⟩
 obtain⟨d,o,l,ae,ac⟩:=l;obtain⟨r3,w⟩:=F.deep f hp s' c d o l;obtain⟨k,d',o',rfl,e1,e2,_⟩:=ud (ex:=False) y z.good.ins hR hu (fun q=>q.elim) n a d o r3 (by rw[z.len];exact i1) (by omega) v ae (fun j hj=>vv hj (ac j)) w;exact⟨n,s',f,hp,c,d,o,k,d',o',l,w,by omega⟩
theorem Sat.back {u s:List Ty}{v:Int}{b c:Ty}(h:Sat u (s.set v.toNat b)) (h0:0<=v) (f:s[v.toNat]?=some c) (a:c.kind=0) (hb:¬b.kind=0):Sat u s/\gs u (.mk 9 v [])=gs u b:=by
 have d:=h.len;rw[abK] at d;refine⟨⟨d,fun i x hi j=>?_⟩,?_⟩
 ·by_cases e:v.toNat=i
  ·rw[<-e,f] at hi;injection hi with hi
   exact vv (hi▸a) j
  ·exact h.eq i x (by rw[abW e];exact hi) j
 ·have:=h.eq v.toNat b (ab1 (aaU.1 f).1) hb;rw[mE rfl];show(u[v.toNat]?).getD _=_;rw[this];rfl
theorem vg {u:List Ty}:∀(n:Nat) (s:List Ty) (a b:Ty) (s':List Ty),Good s->ins s.length a=true->ins s.length b=true->lG n s a b=some (some s')->Sat u s'->Sat u s/\gs u a=gs u b
 | 0,s,a,b,s',_,_,_,h,_=>by cases h
 | n+1,s,a,b,s',g,ha,hb,h,hS=>by
  cases v:aO s n a with
  | none=>rw[lG,v] at h;cases h
  | some a' =>
  cases fb:aO s n b with
  | none=>rw[lG,v,fb] at h;cases h
  | some f =>
  rw[mD v fb] at h;have ad:=g.ins.front v ha;have t:=g.ins.front fb hb;have fin:Sat u s/\gs u a'=gs u f->Sat u s/\gs u a=gs u b:=fun⟨d,e⟩=>⟨d,by rw[<-d.front v,<-d.front fb,e]⟩;refine fin ?_
  by_cases m:a'.kind=9
  ·obtain⟨xa,aE,aa⟩:=fD v m;obtain⟨ab,w,bi⟩:=bJ aE;have e1:gs u (.mk 9 a'.id [])=gs u a':=lI rfl m rfl
   by_cases c:f.kind=9
   ·obtain⟨xb,am,ar⟩:=fD fb c;obtain⟨aw,ao,bd⟩:=bJ am;have e2:gs u (.mk 9 f.id [])=gs u f:=lI rfl c rfl;rw[o5 ⟨m,c⟩] at h
    by_cases hi:a'.id=f.id
    ·rw[o5 hi] at h;injection h with h;injection h with h
     exact⟨h▸hS,lI m c hi⟩
    ·rw[q9 hi] at h;injection h with h;injection h with h
     subst h;rcases Int.le_total a'.id f.id with j | j
     ·rw[Int.max_eq_right j,Int.min_eq_left j] at hS;obtain⟨d,e⟩:=hS.back aw ao ar (by show¬(9:Int)=0;omega);exact⟨d,by rw[<-e1,<-e2,e]⟩
     ·rw[Int.max_eq_left j,Int.min_eq_right j] at hS;obtain⟨d,e⟩:=hS.back ab w aa (by show¬(9:Int)=0;omega);exact⟨d,by rw[<-e1,<-e2,e]⟩
   ·rw[q9 (fun q=>c q.2),o5 m] at h;cases ho:kS s a'.id n f with
    | none=>rw[ho] at h;cases h
    | some o =>
     rw[ho] at h;cases o with
     | true=>cases h
     | false =>
      injection h with h;injection h with h
      subst h;obtain⟨d,e⟩:=hS.back ab w aa (by have:=nU t;omega);exact⟨d,by rw[<-e1,e]⟩
  ·rw[q9 (fun p=>m p.1),q9 m] at h
   by_cases c:f.kind=9
   ·rw[o5 c] at h;obtain⟨d,e⟩:=vg n s f a' s' g t ad h hS;exact⟨d,e.symm⟩
   ·rw[q9 c] at h;split at h
    ·cases h
    ·rename_i hc;have hL:∀(l k:List Ty) (s:List Ty),Good s->l.length=k.length->(∀x∈l,ins s.length x=true)->(∀x∈k,ins s.length x=true)->j9 (lG n) s l k=some (some s')->Sat u s/\l.map (gs u)=k.map (gs u):=by
      intro l
      induction l with
      | nil =>
       intro k s g hl _ _ h;rw[j9] at h;injection h with h;injection h with h
       cases k with
       | nil=>exact⟨h▸hS,rfl⟩
       | cons y k=>cases hl
      | cons x l an =>
       intro k s g hl h1 h2 h;cases k with
       | nil=>cases h
       | cons y k =>
        rw[j9] at h;cases hx:lG n s x y with
        | none=>rw[hx] at h;cases h
        | some r =>
         rw[hx] at h;cases r with
         | none=>cases h
         | some s1 =>
          have nx:=Cx g (h1 x (by simp)) (h2 y (by simp)) hx;obtain⟨d,e⟩:=an k s1 nx.good (by simpa using hl) (fun z hz=>by rw[nx.len];exact h1 z (by simp[hz])) (fun z hz=>by rw[nx.len];exact h2 z (by simp[hz])) h;obtain⟨q3,q4⟩:=vg n s x y s1 g (h1 x (by simp)) (h2 y (by simp)) hx d;exact⟨q3,by rw[aa0,aa0,e,q4]⟩
     obtain⟨d,e⟩:=hL a'.args f.args s g (by omega) (eT ad) (eT t) h;refine⟨d,?_⟩;rw[jm m,jm c,e,show a'.kind=f.kind by omega,show a'.id=f.id by omega]
theorem R8 (n:Nat):∀t:Ty,ins n t=true->cK (gs (List.replicate n iT) t)=cK t:=dL fun t e f=>by
 by_cases d:t.kind=9
 ·obtain⟨a,b,c⟩:=oU f d;rw[mE d,dH t,c];rw[ab2,o5 (by omega)];rfl
 ·rw[jm d,dH,dH t];have:∀l:List Ty,(∀x∈l,cK (gs (List.replicate n iT) x)=cK x)->cS (l.map (gs (List.replicate n iT)))=cS l:=by
   intro l
   induction l with
   | nil=>exact fun _=>rfl
   | cons x l e=>intro h;rw[aa0,cS,cS,h x (by simp),e fun y k=>h y (by simp[k])]
  show cS (t.args.map _)+1=_;rw[this t.args fun x j=>e x j (eT f x j)]
theorem Good.inst {s:List Ty}(g:Good s):∃u,Sat u s/\(∀(t x:Ty),t.kind=9->bQ s t=some x->x.kind=0->cK (gs u t)=1):=by
 have a:∀i:Nat,∃r,i<s.length->Ex s (vr i) r:=fun i=>by
  by_cases hi:i<s.length
  ·obtain⟨n,r,h⟩:=(g.fin i hi).ap;exact⟨r,fun _=>⟨n,h⟩⟩
  ·exact⟨zT,fun h=>vv h hi⟩
 let G:=List.replicate s.length iT
 let u:=(List.range s.length).map fun i=>gs G (a i).choose
 have v:u.length=s.length:=by simp[u]
 have b:∀i:Nat,i<s.length->u[i]?=some (gs G (a i).choose):=fun i hi=>by simp[u,hi]
 have k:∀t:Ty,Try.ins s.length t=true->∀r,Ex s t r->gs u t=gs G r:=dL fun t ih ht r m=>by
  by_cases d:t.kind=9
  ·obtain⟨i,hi,e,e2⟩:=yH ht d;rw[mE d,e2,show((i:Nat):Int).toNat=i by omega,b i hi];show gs G (a i).choose=_;rw[((a i).choose_spec hi).one (e▸m)]
  ·obtain⟨h1,h2,h3,h4⟩:=m.args d;rw[jm d,jm (by rw[h1];exact d),h1,h2];congr 1;refine abQ fun j=>?_;rw[aa9,aa9];cases c:t.args[j]? with
   | none =>
    have:r.args[j]?=none:=by rw[abA] at c ⊢;omega
    rw[this];rfl
   | some x =>
    obtain⟨y,hy,p⟩:=h4 j x c;rw[hy];exact xo some (ih x (aaZ c) (eT ht x (aaZ c)) y p)
 refine⟨u,⟨v,fun i x c l=>?_⟩,fun t x d he l=>?_⟩
 ·have hi:i<s.length:=(aaU.1 c).1;obtain⟨n,f⟩:=(a i).choose_spec hi;have o:Ex s x (a i).choose:=by
   cases n with
   | zero=>cases f
   | succ n =>
    have he:bQ s (vr i)=some x:=by
     unfold bQ;rw[q9 (by show¬((i:Int)<0);omega)];show s[((i:Int)).toNat]?=some x;rw[show((i:Int)).toNat=i by omega];exact c
    rw[oP,o5 (show(vr i).kind=9 from rfl),he] at f;simp only at f;rw[o5 l] at f;exact⟨n,f⟩
  rw[b i hi,k x ((g.ins x (aaZ c)).resolve_left l) _ o]
 ·obtain⟨e1,e2,z⟩:=bJ he;have hg:gs u t=gs u (vr t.id.toNat):=lI d rfl (by show t.id=((t.id.toNat:Nat):Int);omega);have w:bQ s (vr t.id.toNat)=some x:=(GL (by show((t.id.toNat:Nat):Int)=t.id;omega)).trans he;have m:Ex s (vr t.id.toNat) (vr t.id.toNat):=⟨1,by rw[oP,o5 (show(vr t.id.toNat).kind=9 from rfl),w];simp only;rw[q9 (fun q=>q l)];rfl⟩;rw[hg,k _ (sG z) _ m];exact R8 s.length _ (sG z)
theorem LJ {u s:List Ty}{ρ:Int->Nat}(hS:Sat u s) (g:Good s) (q:Rk s ρ) {D:Nat}(hD:∀x∈s,cK x<=D) (m:∀(t x:Ty),t.kind=9->bQ s t=some x->x.kind=0->cK (gs u t)=1):∀(k:Nat) (t:Ty),ins s.length t=true->qx (fun w=>decide (ρ w<k)) t=true->cK (gs u t)<=cK t+k*D
 | k,t,e,c=>by
  induction k generalizing t with
  | zero =>
   revert e c
   refine dL (p:=fun t=>ins s.length t=true->qx (fun w=>decide (ρ w<0)) t=true->cK (gs u t)<=cK t+0*D) (fun t j e c=>?_) t
   by_cases d:t.kind=9
   ·rw[iI,o5 d,aa2] at c;omega
   ·rw[iI,q9 d,aa1] at c;rw[jm d,dH,dH t];have:cS (t.args.map (gs u))<=cS t.args+0*D:=wE fun y l=>by
     obtain⟨x,b,rfl⟩:=abt.1 l;have:=j x b (eT e x b) (c x b);have:=lF b;omega
    show cS (t.args.map (gs u))+1<=_;omega
  | succ k h =>
   revert e c
   refine dL (p:=fun t=>ins s.length t=true->qx (fun w=>decide (ρ w<k+1)) t=true->cK (gs u t)<=cK t+(k+1)*D) (fun t j e c=>?_) t
   by_cases d:t.kind=9
   ·rw[iI,o5 d,aa2] at c;obtain⟨x,he,b⟩:=yI e d;obtain⟨z,o,v⟩:=bJ he;have h1:=dH t
    by_cases a:x.kind=0
    ·rw[m t x d he a];omega
    ·rw[<-hS.elem d he a];have f:=q.dn t.id.toNat x o a;rw[show((t.id.toNat:Nat):Int)=t.id by omega] at f;have:=h x (g.ins.elem he a) (uc (n:=s.length) (fun w _ _ r=>by rw[aa2] at r ⊢;omega) x (g.ins.elem he a) f);have:=hD x b;rw[Nat.succ_mul];omega
   ·rw[iI,q9 d,aa1] at c;rw[jm d,dH,dH t];have:cS (t.args.map (gs u))<=cS t.args+(k+1)*D:=wE fun y l=>by
     obtain⟨x,b,rfl⟩:=abt.1 l;have:=j x b (eT e x b) (c x b);have:=lF b;omega
    show cS (t.args.map (gs u))+1<=_;omega
theorem IU {s:List Ty}{a b:Ty}(m:s.length<=1000) (an:∀x∈s,cK x<=8) (h:Cv s a b):∃u,u.length=s.length/\gs u a=gs u b/\(∀x∈u,cK x<=8)/\cK (gs u a)<=8:=by
 obtain⟨n,s',⟨d0,o0,hf⟩,hp,he,d,o,k,d',o',r,hd,hk⟩:=h;have g:=oV hf;have v:=oV r;obtain⟨i1,i2,p1,p2⟩:=yM hp;have nx:=Cx g i1 i2 he;obtain⟨ρ,y⟩:=v.aaH;obtain⟨u,hS,l⟩:=v.inst;have q:∀x∈s',cK x<=8:=Cw (p:=fun x=>cK x<=8) (fun t h x f=>by have:=lF f;have:=dH t;omega) (fun i=>by rw[show cK (.mk 9 i [])=1 from rfl];omega) n s a b s' an p1 p2 he;have e:∀x∈s',cK x<=2 ^ 30:=fun x f=>by have:=q x f;omega
 obtain⟨_,al⟩:=vg n s a b s' g i1 i2 he hS;have am:u.length=s.length:=by rw[hS.len,nx.len]
 have z:∀(i:Nat) (x:Ty),u[i]?=some x->i<s'.length/\gs u (vr i)=x:=fun i x f=>by
  refine⟨by rw[<-hS.len];exact(aaU.1 f).1,?_⟩;rw[mE (show(vr i).kind=9 from rfl),show((vr i).id).toNat=i from by show((i:Nat):Int).toNat=i;omega,f];rfl
 have hu:∀x∈u,cK x<=2 ^ 30:=fun x f=>by
  obtain⟨i,hi⟩:=List.getElem?_of_mem f;obtain⟨h1,w⟩:=z i x hi;have:=LJ hS v y q l s'.length (vr i) (sG h1) (by rw[iI,o5 (show(vr i).kind=9 from rfl),aa2];exact y.lt i h1);rw[w,show cK (vr i)=1 from rfl,nx.len] at this;omega
 have hq:∀j:Nat,j<s'.length->cK (gs u (vr j))<=8:=by
  have c:=r;unfold bF at c;split at c
  ·cases m:dw s' n s'.length with
   | none=>rw[m] at c;cases c
   | some r1 =>
    obtain⟨b1,d1,o1,rfl,_,c2,_⟩:=uf (ex:=True) hS v.ins y hu (fun _=>l) e n s'.length r1 (aa3 _) m;rw[m] at c;cases b1 with
    | true=>cases c
    | false=>exact c2 trivial rfl
  ·cases c
 have aa:Qw u True d/\∀j,¬LH d o j:=by
  have c:=r;unfold bF at c;split at c
  ·cases m:dw s' n s'.length with
   | none=>rw[m] at c;cases c
   | some r1 =>
    obtain⟨b1,d1,o1,rfl,_,_,c3,c4⟩:=uf (ex:=True) hS v.ins y hu (fun _=>l) e n s'.length r1 (aa3 _) m;rw[m] at c;cases b1 with
    | true=>cases c
    | false =>
     injection c with c;injection c with c;injection c with h1 w
     subst h1 w;exact⟨c3,c4⟩
  ·cases c
 obtain⟨k1,d1,o1,e1,_,_,e3,_⟩:=ud (ex:=True) hS v.ins y hu (fun _=>l) n a d o _ (by rw[nx.len];exact i1) (by omega) e aa.1 (fun j hj=>vv hj (aa.2 j)) hd;injection e1 with e1
 injection e1 with e1 _
 refine⟨u,am,al,fun x f=>?_,?_⟩
 ·obtain⟨i,hi⟩:=List.getElem?_of_mem f;obtain⟨h1,w⟩:=z i x hi;rw[<-w];exact hq i h1
 ·have:=e3 trivial;omega
def bC (b:Bool):List C:=[.bool b]
abbrev LO (l:List Bool):List TO:=[.box 123 [.rw 1001],.row 4 1 (l.map bC)]
theorem W8 (l:List Bool) (n:Int) (h0:0<=n) (h1:n<l.length):CallsT P 106 [IC n,.own 1000 0] (LO l) (aU (LO (l.set n.toNat true)) (.tup [])):=by
 have b:(l.map bC)[n.toNat]?=some [.bool l[n.toNat]]:=by rw[aa9,aaQ (by omega)];rfl
 have a:(l.map bC).set n.toNat [.bool true]=(l.set n.toNat true).map bC:=by rw[List.map_set];rfl
 generalize l.set n.toNat true=l' at a ⊢;refine af Try.func106 KF rfl fun c _=>?_;refine FH.mk h0 (by rw[aaP];exact h1) ?_;refine⟨rfl,GF b rfl ?_⟩;exact bB [1000,1001] rfl rfl (xo (fun q=>[TO.box 123 [.rw 1001],.row 4 1 q]) a) rfl
mutual
def mark:Ty->List Bool->List Bool
 | .mk k i l,o=>nV l (if k=5 then o.set i.toNat true else o)
def nV:List Ty->List Bool->List Bool
 | [],o=>o
 | t::l,o=>nV l (mark t o)
end
mutual
def yZ (n:Int):Ty->Bool
 | .mk k i l=>(if k=5 then decide (0<=i)&&decide (i<n) else true)&&Cy n l
def Cy (n:Int):List Ty->Bool
 | []=>true
 | t::l=>yZ n t&&Cy n l
end
theorem y9 (n:Int):∀l:List Ty,Cy n l=l.all (yZ n)
 | []=>rfl
 | t::l=>by rw[Cy,y9 n l,abf]
theorem D7 (n:Int) (t:Ty):yZ n t=((if t.kind=5 then decide (0<=t.id)&&decide (t.id<n) else true)&&t.args.all (yZ n)):=by
 cases t;rw[yZ,y9];rfl
mutual
theorem qy:∀(t:Ty) (o:List Bool),(mark t o).length=o.length
 | .mk k i l,o=>by
  rw[mark,Bl];split
  ·rw[abK]
  ·rfl
theorem Bl:∀(l:List Ty) (o:List Bool),(nV l o).length=o.length
 | [],o=>by rw[nV]
 | t::l,o=>by rw[nV,Bl,qy]
end
theorem mark_eq (t:Ty) (o:List Bool):mark t o=nV t.args (if t.kind=5 then o.set t.id.toNat true else o):=by cases t;rw[mark];rfl
abbrev D8 (t:Ty) (o o':List Bool):Prop:=CallsT P 105 [aT t,.fn 106 [] [.own 1000 0]] (LO o) (aU (LO o') (.tup []))
theorem Uk (t:Ty) (n:Nat) (mk:Ty->List Bool->List Bool) (tF:List Ty->List Bool->List Bool) (j:∀o,tF [] o=o) (d:∀x l o,tF (x::l) o=tF l (mk x o)) (h:∀x o,(mk x o).length=o.length)
  (w:∀x∈t.args,∀o,o.length=n->D8 x o (mk x o)) (o b:List Bool) (v:b.length=n) (y:t.kind=5->CallsT P 106 [IC t.id,.own 1000 0] (LO o) (aU (LO b) (.tup []))) (hb:¬t.kind=5->o=b):D8 t o (tF t.args b):=by
 have m:(t.args.map aM).length=t.args.length:=aaP _;refine af Try.func105 KE rfl fun hw _=>?_;have hl:t.args.length<=9223372036854775807:=gO hw.1.2.2.1;refine ah (fun r=>callO [1000,1001] [1000,1001] (y r) rfl rfl rfl rfl rfl fun _ _=>cu t.args.length 16 [] b (fun _=>[]) (fun q=>[(1000,.box 123 [.rw 1001]),(1001,.row 4 1 (q.map bC))]) (fun k q=>tF (t.args.drop k) q=tF t.args b/\q.length=n) ⟨rfl,v⟩ (ak rfl) trivial
   ⟨.inl ⟨_,rfl,.inl ⟨rfl,rfl⟩⟩,.inl ⟨_,rfl,.inl ⟨rfl,rfl⟩⟩,trivial⟩ (fun _=>rfl) (fun _=>rfl) ?_) (fun r=>cu t.args.length 16 [] b (fun _=>[]) (fun q=>[(1000,.box 123 [.rw 1001]),(1001,.row 4 1 (q.map bC))]) (fun k q=>tF (t.args.drop k) q=tF t.args b/\q.length=n) ⟨rfl,v⟩ (ak rfl) trivial
   ⟨.inl ⟨_,rfl,.inl ⟨rfl,rfl⟩⟩,.inl ⟨_,rfl,.inl ⟨xo (fun z=>TO.row 4 1 (z.map bC)) (hb r),rfl⟩⟩,trivial⟩ (fun _=>rfl) (fun _=>rfl) ?_)
 all_goals
  rintro k q hk ⟨c,u⟩ _ _ _;refine ah (fun a=>?_) (fun f=>?_)
  ·have a:k<t.args.length:=by rw[m] at a;omega
   refine aZ a fun x hx p s=>?_;refine cP hx ?_;refine callO [1000,1001] [1000,1001] (w x p q u) rfl rfl rfl rfl rfl fun _ _=>?_;refine Fit.aag (by omega) (by omega) ?_;refine⟨(k+1,mk x q),⟨a,?_,by rw[h];exact u⟩,⟨bS,trivial⟩,⟨.inl ⟨_,rfl,.inl ⟨rfl,rfl⟩⟩,.inl ⟨_,rfl,.inl ⟨rfl,rfl⟩⟩,trivial⟩,bV a⟩;have:=c;rw[s,d] at this;exact this
  ·have f:¬k<t.args.length:=by rw[m] at f;omega
   have e:q=tF t.args b:=by
    have:=c;rw[bW f,j] at this;exact this
   exact bB [1000,1001] rfl rfl (xo (fun z=>LO z) e) rfl
theorem W9 (n:Nat):∀t:Ty,yZ n t=true->∀o,o.length=n->D8 t o (mark t o):=dL fun t e a o b=>by
 rw[D7,aaN,aa1] at a;rw[mark_eq];refine Uk t n mark nV (fun o=>by rw[nV]) (fun x l o=>by rw[nV]) qy (fun x d o b=>e x d (a.2 x d) o b) o _ ?_ (fun c=>?_) (fun c=>?_)
 ·split
  ·rw[abK];exact b
  ·exact b
 ·rw[o5 c] at a ⊢;have a:=a.1;rw[aaN,aa2,aa2] at a;exact W8 o t.id a.1 (by rw[b];exact a.2)
 ·rw[q9 c]
section
variable {α:Type}
def br (q:α->Bool):List α->Int->Int
 | [],_=>-1
 | x::l,k=>if q x then k else br q l (k+1)
theorem nW {q:α->Bool}{l:List α}{k:Nat}{x:α}{r:Int}(a:l.drop k=x::l.drop (k+1)) (hi:br q (l.drop k) k=r) (b:q x=true):(k:Int)=r:=by
 rw[a,br,o5 b] at hi;exact hi
theorem qz {q:α->Bool}{l:List α}{k:Nat}{x:α}{r:Int}(a:l.drop k=x::l.drop (k+1)) (hi:br q (l.drop k) k=r) (b:q x=false):br q (l.drop (k+1)) ((k+1:Nat):Int)=r:=by
 rw[a,br,q9 (by rw[b];exact abd)] at hi;exact hi
theorem nX {q:α->Bool}{l:List α}{k:Nat}{r:Int}(h:¬k<l.length) (hi:br q (l.drop k) k=r):(-1:Int)=r:=by
 rw[bW h,br] at hi;exact hi
theorem za (q:α->Bool):∀(l:List α) (k:Int),0<=k->decide (0<=br q l k)=l.any q
 | [],k,_=>rfl
 | x::l,k,h=>by
  rw[br,abF];cases a:q x
  ·rw[q9 abd,Bool.false_or];exact za q l (k+1) (by omega)
  ·rw[o5 rfl,Bool.true_or];exact aaS h
theorem vh (q:α->Bool) (l:List α):decide (br q l 0>=0)=l.any q:=za q l 0 (abm _)
end
theorem Pd (o:List Bool) (p:Prog) (l:List aR) (q:aR->Bool) (h:∀x∈l,CallsT P 107 [.agg (aS x),.pt [.sl (o.map bC)] 0,.pt (jU p) 0] [] (aU [] (.bool (q x)))) :
  CallsT P 81 [.sl (l.map aS),.fn 107 [] [.pt [.sl (o.map bC)] 0,.pt (jU p) 0]] [] (aU [] (IC (br q l 0))):=by
 have c:(l.map aS).length=l.length:=aaP _;refine af Try.func81 Gk rfl fun r _=>?_;have m:l.length<=9223372036854775807:=by have:=gL r.1;rwa [c] at this
 refine cu l.length 8 [] () (fun _=>[]) (fun _=>[]) (fun k _=>br q (l.drop k) k=br q l 0) rfl (ak rfl) trivial trivial (fun _=>rfl) (fun _=>rfl) ?_;rintro k _ s b _ _ _;refine ah (fun a=>?_) (fun d=>?_)
 ·have a:k<l.length:=by rw[c] at a;omega
  refine aZ a fun x n j e=>?_;refine Bg (by omega) (show l[((k:Int)).toNat]?=some x from n) ?_;refine bh (h x j) rfl fun _=>?_;refine aq (fun f=>?_) (fun f=>?_)
  ·exact aC rfl (xo IC (nW e b f))
  ·refine Fit.aag (by omega) (by omega) ?_;exact⟨(k+1,()),⟨a,qz e b f⟩,⟨bS,trivial⟩,trivial,bV a⟩
 ·have d:¬k<l.length:=by rw[c] at d;omega
  exact aC rfl (xo IC (nX d b))
theorem LK (o:List Bool) (p:Prog) (l:List aR) (q:aR->Bool) (h:∀x∈l,CallsT P 107 [.agg (aS x),.pt [.sl (o.map bC)] 0,.pt (jU p) 0] [] (aU [] (.bool (q x)))) :
  CallsT P 110 [.sl (l.map aS),.fn 107 [] [.pt [.sl (o.map bC)] 0,.pt (jU p) 0]] [] (aU [] (.bool (l.any q))):=by
 have h1:=Pd o p l q h;have e:=vh q l;generalize br q l 0=n at h1 e;refine af Try.func110 KJ rfl fun a _=>?_;refine bh h1 rfl fun _=>?_;exact aC rfl (xo C.bool e)
theorem Pe (g:Int) (t:Ty) (l:List aR) (q:aR->Bool) (h:∀x∈l,CallsT P 82 [.agg (aS x),.pt [IC g,IC t.kind,IC t.id,.sl (t.args.map aM)] 0] [] (aU [] (.bool (q x)))) :
  CallsT P 81 [.sl (l.map aS),.fn 82 [] [.pt [IC g,IC t.kind,IC t.id,.sl (t.args.map aM)] 0]] [] (aU [] (IC (br q l 0))):=by
 have c:(l.map aS).length=l.length:=aaP _;refine af Try.func81 Gk rfl fun o _=>?_;have m:l.length<=9223372036854775807:=by have:=gL o.1;rwa [c] at this
 refine cu l.length 8 [] () (fun _=>[]) (fun _=>[]) (fun k _=>br q (l.drop k) k=br q l 0) rfl (ak rfl) trivial trivial (fun _=>rfl) (fun _=>rfl) ?_;rintro k _ p b _ _ _;refine ah (fun a=>?_) (fun d=>?_)
 ·have a:k<l.length:=by rw[c] at a;omega
  refine aZ a fun x n j e=>?_;refine Bg (by omega) (show l[((k:Int)).toNat]?=some x from n) ?_;refine bh (h x j) rfl fun _=>?_;refine aq (fun f=>?_) (fun f=>?_)
  ·exact aC rfl (xo IC (nW e b f))
  ·refine Fit.aag (by omega) (by omega) ?_;exact⟨(k+1,()),⟨a,qz e b f⟩,⟨bS,trivial⟩,trivial,bV a⟩
 ·have d:¬k<l.length:=by rw[c] at d;omega
  exact aC rfl (xo IC (nX d b))
theorem Pf (y:Impl) (l:List Impl) (q:Impl->Bool) (h:∀x∈l,CallsT P 91 [.agg (dF x),.pt [IC y.trait,IC y.module,IC y.params,.sl (y.bounds.map aS),IC y.type.kind,IC y.type.id,.sl (y.type.args.map aM),IC y.func] 0] [] (aU [] (.bool (q x)))) :
  CallsT P 90 [.sl (l.map dF),.fn 91 [] [.pt [IC y.trait,IC y.module,IC y.params,.sl (y.bounds.map aS),IC y.type.kind,IC y.type.id,.sl (y.type.args.map aM),IC y.func] 0]] [] (aU [] (IC (br q l 0))):=by
 have c:(l.map dF).length=l.length:=aaP _;refine af Try.func90 Ox rfl fun o _=>?_;have m:l.length<=9223372036854775807:=by have:=gL o.1;rwa [c] at this
 refine cu l.length 8 [] () (fun _=>[]) (fun _=>[]) (fun k _=>br q (l.drop k) k=br q l 0) rfl (ak rfl) trivial trivial (fun _=>rfl) (fun _=>rfl) ?_;rintro k _ p a _ _ _;refine ah (fun b=>?_) (fun d=>?_)
 ·have b:k<l.length:=by rw[c] at b;omega
  refine aZ b fun x n f e=>?_;refine yV (by omega) (show l[((k:Int)).toNat]?=some x from n) ?_;refine bh (h x f) rfl fun _=>?_;refine aq (fun j=>?_) (fun j=>?_)
  ·exact aC rfl (xo IC (nW e a j))
  ·refine Fit.aag (by omega) (by omega) ?_;exact⟨(k+1,()),⟨b,qz e a j⟩,⟨bS,trivial⟩,trivial,bV b⟩
 ·have d:¬k<l.length:=by rw[c] at d;omega
  exact aC rfl (xo IC (nX d a))
end Go.Fr.Try
