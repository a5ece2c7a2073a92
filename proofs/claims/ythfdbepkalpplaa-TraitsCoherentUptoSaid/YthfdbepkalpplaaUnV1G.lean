/- Part of the proofs of the statements of this seat. -/
import Derived.Test.YthfdbepkalpplaaFW2
import Derived.Test.YthfdbepkalpplaaUnCode
set_option maxRecDepth 10000
set_option linter.unusedVariables false
set_option linter.unusedSimpArgs false
namespace Go.Fr.Try
open Go Go.RowKit Go.Proofs Go.Fr Go.Fr.T Go.Fr.Api
noncomputable abbrev P:Program:=Try.prog
abbrev aV (x:Ty):C:=.agg [IC x.kind,IC x.id,.sl (x.args.map aI)]
theorem Sh (t:Ty):C.agg (aI t)=aV t:=vv C.agg (iJ t)
noncomputable def uP (p:Prop):Bool:=@decide p (Classical.propDecidable p)
theorem pu {p:Prop}:uP p=true↔p:=by unfold uP;exact @decide_eq_true_iff p (Classical.propDecidable p)
theorem Ee {p:Prop}(h:uP p=true):p:=pu.1 h
theorem He {p:Prop}(h:uP p=false):¬p:=fun q=>by rw[pu.2 q] at h;cases h
theorem ia {p:Prop}(h:¬p):false=uP p:=by
 cases e:uP p with
 | true=>exact fL (Ee e) h
 | false=>rfl
theorem py {p:Prop}(h:p):true=uP p:=(pu.2 h).symm
theorem vC {p q:Prop}(h:p↔q):uP p=uP q:=by rw[show p=q from propext h]
theorem Pu {p q:Prop}[d:Decidable p] (h:p↔q):decide p=uP q:=by
 by_cases a:p
 ·rw[aaN a];exact py (h.1 a)
 ·rw[aaP a];exact ia fun e=>a (h.2 e)
theorem FL {c:Type}{a b:List c}(h:¬a.length=b.length):a≠b:=fun e=>h (by rw[e])
theorem um {c:Type}{a b:List c}{n:Nat}(d:a.length=n) (hb:b.length=n) (h:∀j<n,a[j]?=b[j]?):a=b:=by
 apply abP;intro i
 by_cases hi:i<n
 ·exact h i hi
 ·rw[abl (by omega),abl (by omega)]
theorem FM {c:Type}{a b:List c}{k:Nat}{x y:c}(h1:a[k]?=some x) (d:b[k]?=some y) (h:x≠y):a≠b:=fun e=>h (by rw[e,d] at h1;injection h1 with h1;exact h1.symm)
theorem yS {d:Type}{a b:List d}{k:Nat}{x y:d}(h:∀j<k,a[j]?=b[j]?) (h1:a[k]?=some x) (f:b[k]?=some y) (e:x=y):∀j<k+1,a[j]?=b[j]?:=by
 intro j l
 by_cases c:j=k
 ·rw[c,h1,f,e]
 ·exact h j (by omega)
theorem gO {a:Type}{l:List a}{k:Nat}(h:k<l.length):∃x,l[k]?=some x:=⟨l[k],aaO h⟩
theorem yT {x y:Ty}(h0:x.kind=y.kind) (h1:x.id=y.id) (a:x.args=y.args):x=y:=by
 cases x;cases y
 simp_all [Ty.kind,Ty.id,Ty.args]
theorem Hf {x t:Ty}(h:x∈t.args):SizeOf.sizeOf x<SizeOf.sizeOf t:=by
 cases t;have:=List.sizeOf_lt_of_mem h;simp only[Ty.args] at this;simp only[Ty.mk.sizeOf_spec];omega
theorem dc {p:Ty->Prop}(h:∀t:Ty,(∀x∈t.args,p x)->p t):∀t,p t:=by
 have:∀(n:Nat) (t:Ty),SizeOf.sizeOf t<n->p t:=by
  intro n
  induction n with
  | zero=>intro t a;exact fL a (abz _)
  | succ n c=>exact fun t a=>h t fun x b=>c x (by have:=Hf b;omega)
 exact fun t=>this _ t (abT _)
theorem f7 {l:List Ty}(h:Wf (.sl (l.map aI))):l.length<=9223372036854775807:=NZ h
theorem gV {a:Type}{l:List a}{k:Nat}{x:a}(b:l[k]?=some x):l.take (k+1)=l.take k++[x]:=by
 rw[List.take_add_one,b];rfl
mutual
def few:Ty->Int->Int
 | .mk _ _ l,m=>mR l m 1
def mR:List Ty->Int->Int->Int
 | [],_,n=>n
 | x::l,m,n=>if n<=m then mR l m (n+few x (m-n)) else n
end
mutual
theorem FN:∀(t:Ty) (m:Int),0<=m->1<=few t m/\few t m<=m+1
 | .mk _ _ l,m,h=>by
  rw[few];exact Hg l m 1 h (by omega) (by omega)
theorem Hg:∀(l:List Ty) (m n:Int),0<=m->1<=n->n<=m+1->1<=mR l m n/\mR l m n<=m+1
 | [],m,n,_,h1,h2=>by rw[mR];exact⟨h1,h2⟩
 | x::l,m,n,h0,h1,h2=>by
  rw[mR];split
  ·have:=FN x (m-n) (by omega);exact Hg l m _ h0 (by omega) (by omega)
  ·exact⟨h1,h2⟩
end
theorem I0 {l:List Ty}{m n:Int}(h:¬n<=m):mR l m n=n:=by
 cases l with
 | nil=>rw[mR]
 | cons x l=>rw[mR,fo h]
def jw (l:List Ty):Bool:=l.all (fun t=>decide (few t 30<=30))&&decide ((l.length:Int)<=8)
mutual
def cu:Ty->Nat
 | .mk _ _ l=>cG l+1
def cG:List Ty->Nat
 | []=>0
 | t::l=>max (cu t) (cG l)
end
theorem di (t:Ty):cu t=cG t.args+1:=by cases t;rfl
theorem vD:∀(l:List Ty) (x:Ty),cG (l++[x])=max (cG l) (cu x)
 | [],x=>by simp[cG]
 | t::l,x=>by rw[aa1,cG,vD l x,cG];omega
theorem Bm (l:List Ty) (k:Nat):cG (l.take k)<=cG l:=by
 induction l generalizing k with
 | nil=>simp[cG]
 | cons t l a =>
  cases k with
  | zero=>simp[cG]
  | succ k=>rw[List.take_succ_cons,cG,cG];have:=a k;omega
theorem jY:∀{l:List Ty}{x:Ty},x∈l->cu x<=cG l
 | t::l,x,h=>by
  rw[cG];rcases aaT.1 h with rfl | h
  ·omega
  ·have:=jY h;omega
theorem wZ {l:List Ty}{n:Nat}(h:∀x∈l,cu x<=n):cG l<=n:=by
 induction l with
 | nil=>simp[cG]
 | cons t l b =>
  rw[cG];have h1:=h t (by simp);have c:=b fun x a=>h x (by simp[a]);omega
mutual
def ins (n:Int):Ty->Bool
 | .mk k i l=>if k<1\/9<k then false else if k=9 then decide (0<=i)&&decide (i<n)&&decide (l.length=0) else Pv n l
def Pv (n:Int):List Ty->Bool
 | []=>true
 | t::l=>ins n t&&Pv n l
end
theorem Ef (n:Int):∀l:List Ty,Pv n l=l.all (ins n)
 | []=>rfl
 | t::l=>by rw[Pv,Ef n l,abd]
theorem vE (n:Int) (t:Ty):ins n t=if t.kind<1\/9<t.kind then false else if t.kind=9 then decide (0<=t.id)&&decide (t.id<n)&&decide (t.args.length=0) else t.args.all (ins n):=by
 cases t;rw[ins,Ef];rfl
mutual
def qD (n:Int):Ty->Bool
 | .mk k i l=>if k=5 then decide (0<=i)&&decide (i<n)&&decide (l.length=0) else Hh n l
def Hh (n:Int):List Ty->Bool
 | []=>true
 | t::l=>qD n t&&Hh n l
end
theorem Bn (n:Int):∀l:List Ty,Hh n l=l.all (qD n)
 | []=>rfl
 | t::l=>by rw[Hh,Bn n l,abd]
theorem yU (n:Int) (t:Ty):qD n t=if t.kind=5 then decide (0<=t.id)&&decide (t.id<n)&&decide (t.args.length=0) else t.args.all (qD n):=by
 cases t;rw[qD,Bn];rfl
mutual
def hasB (n:Int):Ty->Bool
 | .mk k i l=>if k=5/\i=n then true else Pw n l
def Pw (n:Int):List Ty->Bool
 | []=>false
 | t::l=>hasB n t||Pw n l
end
theorem Eg (n:Int):∀l:List Ty,Pw n l=l.any (hasB n)
 | []=>rfl
 | t::l=>by rw[Pw,Eg n l,abE]
theorem CJ (n:Int) (t:Ty):hasB n t=if t.kind=5/\t.id=n then true else t.args.any (hasB n):=by
 cases t;rw[hasB,Eg];rfl
def iY (t:Ty):Bool:=decide (1<=t.kind)&&decide (t.kind<=5)
mutual
def subst (a:List Ty):Ty->Ty
 | .mk k i l=>if k=5/\0<=i/\i<a.length then(a[i.toNat]?).getD (.mk 0 0 []) else .mk k i (CK a l)
def CK (a:List Ty):List Ty->List Ty
 | []=>[]
 | t::l=>subst a t::CK a l
end
theorem yV (a:List Ty):∀l:List Ty,CK a l=l.map (subst a)
 | []=>rfl
 | t::l=>by rw[CK,yV a l];rfl
theorem subst_eq (a:List Ty) (t:Ty):subst a t=if t.kind=5/\0<=t.id/\t.id<a.length then(a[t.id.toNat]?).getD (.mk 0 0 []) else .mk t.kind t.id (t.args.map (subst a)):=by
 cases t;rw[subst,yV];rfl
mutual
def ji:Ty->Prop
 | .mk _ _ l=>l.length<=2 ^ 30/\LD l
def LD:List Ty->Prop
 | []=>True
 | t::l=>ji t/\LD l
end
theorem Eh:∀l:List Ty,LD l↔∀t∈l,ji t
 | []=>by simp[LD]
 | t::l=>by simp[LD,Eh l]
theorem gu (t:Ty):ji t↔t.args.length<=2 ^ 30/\∀x∈t.args,ji x:=by
 cases t;rw[ji,Eh];rfl
theorem I3 {f:Ty}{s:List Ty}:s.map aI++[[IC f.kind,IC f.id,.sl (f.args.map aI)]]=(s++[f]).map aI:=by rw[abB,<-iJ];rfl
theorem rV {els:List (List C)}{c:List C}{sz a:Nat}{K:Prop}(n:Nat) (d:c.length=sz) (b:els.length=n) (hb:a<=1024) (h:n<=2 ^ 30) (k:K):wz els [c] sz a K :=
 ⟨fun es he=>(by rcases aaT.1 he with rfl | he;exact d;cases he),by rw[b];simp only[aa5,abL,maxLen];omega,by
  rw[b];simp only[aa5,abL];exact abv (Nat.mul_le_mul (show n+(0+1)<=2 ^ 31 by omega) hb) (by decide),k⟩
theorem sN {L L1:TL}{k t sz:Nat}(h:L.get k=none) (h1:L1.get k=some (.row t sz [])):NA L L1 .nils (.rw k):=.inr (.inr (.inr (.inl ⟨rfl,k,t,sz,rfl,h,h1⟩)))
theorem Ei {t sz:Nat}{a b:List (List C)}(h:a=b):TO.row t sz a=TO.row t sz b:=by rw[h]
theorem WN {a b:List (List C)}(h:a=b):C.sl a=C.sl b:=by rw[h]
theorem YI:∀(t:Ty) (m:Int),0<=m->m<=1000->CallsT P 46 [aV t,IC m] [] (aU [] (IC (few t m)))
 | .mk k i l,m,h0,h1=>by
  have ih:∀x∈l,∀h:Int,0<=h->h<=1000->CallsT P 46 [aV x,IC h] [] (aU [] (IC (few x h))):=fun x y h a b=>YI x h a b;have p:=FN;rw[few];show CallsT P 46 [.agg [IC k,IC i,.sl (l.map aI)],IC m] [] _;generalize o:few=few' at ih p;have q:∀x r n,mR (x::r) m n=if n<=m then mR r m (n+few' x (m-n)) else n:=by
   intro x r n;rw[mR,o]
  refine af Try.func46 OT rfl fun hw _=>?_;refine bX l.length 6 [5] (1:Int) (fun n=>[IC n]) (fun _=>[]) (fun k n=>mR (l.drop k) m n=mR l m 1/\1<=n/\n<=m+1) ⟨rfl,by omega,by omega⟩ (ai rfl) ⟨ai rfl,trivial⟩ trivial (fun _=>rfl) (fun _=>rfl) ?_;rintro j n hj ⟨d,ac,ab⟩ _ _ _;have z:l.length<=9223372036854775807:=f7 hw.1.2.2.1;refine ah (fun e=>?_) (fun f=>?_)
  ·have e:j<l.length:=by simpa using e
   refine aX e fun x y w u=>?_;refine ah (fun v=>?_) (fun s=>?_)
   ·refine cL y ?_;refine Fit.aaf (by omega) (by omega) ?_;refine aY (ih x w (m-n) (by omega) (by omega)) rfl fun _=>?_;have hb:=p x (m-n) (by omega);refine Fit.aaf (by omega) (by omega) ?_;refine Fit.aaf (by omega) (by omega) ?_;refine⟨(j+1,n+few' x (m-n)),⟨e,?_,by omega,by omega⟩,⟨bM,ai rfl,trivial⟩,trivial,bN e⟩;rw[u,q,eu v] at d;exact d
   ·have c:=d;rw[I0 s] at c;exact aC rfl (vv IC c)
  ·have f:¬j<l.length:=by simpa using f
   have c:=d;rw[bQ f,mR] at c;exact aC rfl (vv IC c)
termination_by t=>SizeOf.sizeOf t
decreasing_by
 have:=List.sizeOf_lt_of_mem y;simp only[Ty.mk.sizeOf_spec];omega
theorem t12 (l:List Ty):CallsT P 12 [.sl (l.map aI)] [] (aU [] (.bool (jw l))):=by
 have h31:∀x:Ty,CallsT P 46 [aV x,IC 30] [] (aU [] (IC (few x 30))):=fun x=>YI x 30 (by omega) (by omega);have f:jw l=(l.all (fun t=>decide (few t 30<=30))&&decide ((l.length:Int)<=8)):=rfl;generalize few=fw at h31 f;refine af Try.func12 Ox rfl fun s _=>?_;have o:l.length<=9223372036854775807:=f7 s.1;have m:(l.map aI).length=l.length:=vz _;refine bX l.length 3 [] () (fun _=>[]) (fun _=>[]) (fun k _=>(l.drop k).all (fun t=>decide (fw t 30<=30))=l.all (fun t=>decide (fw t 30<=30))) rfl (ai rfl) trivial trivial (fun _=>rfl) (fun _=>rfl) ?_;rintro k _ v b _ _ _;refine ah (fun c=>?_) (fun j=>?_)
 ·have c:k<l.length:=by simpa using c
  refine aX c fun x u r n=>?_;refine cL u ?_;refine aY (h31 x) rfl fun _=>?_;have a:=b;rw[n,abd] at a;refine ah (fun p=>?_) (fun q=>?_)
  ·have e:false=jw l:=by
    have h:decide (fw x 30<=30)=false:=aaP (by omega);rw[h,aaV] at a;rw[f,<-a,aaV]
   exact aC rfl (vv C.bool e)
  ·refine Fit.aaf (by omega) (by omega) ?_;have h:decide (fw x 30<=30)=true:=aaN (by omega);have d:=a;rw[h,aaS] at d;exact⟨(k+1,()),⟨c,d⟩,⟨bM,trivial⟩,trivial,bN c⟩
 ·have j:¬k<l.length:=by simpa using j
  have e:decide (((l.map aI).length:Int)<=8)=jw l:=by
   rw[bQ j,List.all_nil] at b;rw[f,<-b,aaS,m]
  exact aC rfl (vv C.bool e)
theorem t51 (t:Ty):CallsT P 51 [aV t] [] (aU [] (.bool (iY t))):=by
 have e:iY t=(decide (1<=t.kind)&&decide (t.kind<=5)):=rfl;refine af Try.func51 OW rfl fun a _=>?_;refine ah (fun h=>?_) (fun h=>?_)
 ·exact aC rfl (vv C.bool (by rw[e,aaN (show(1:Int)<=t.kind from h),aaS]))
 ·exact aC rfl (vv C.bool (by rw[e,aaP (show¬(1:Int)<=t.kind from h),aaV]))
theorem YJ (t:Ty):CallsT P 17 [aV t] [] (aU [] (.bool (iY t))):=by
 have e:iY t=(decide (1<=t.kind)&&decide (t.kind<=5)):=rfl;refine af Try.func17 OB rfl fun a _=>?_;refine ah (fun h=>?_) (fun h=>?_)
 ·exact aC rfl (vv C.bool (by rw[e,aaN (show(1:Int)<=t.kind from h),aaS]))
 ·exact aC rfl (vv C.bool (by rw[e,aaP (show¬(1:Int)<=t.kind from h),aaV]))
theorem Tk:CallsT P 42 [] [] (aU [] (aV (.mk 1 0 []))):=by
 refine af Try.func42 OO rfl fun a _=>?_;exact aC rfl rfl
theorem t27 (n:Int):CallsT P 27 [IC n] [] (aU [] (aV (.mk 9 n []))):=by
 refine af Try.func27 OE rfl fun a _=>?_;exact aC rfl rfl
theorem Si (k:Int) (t:Ty):CallsT P 44 [IC k,aV t] [] (aU [] (aV (.mk k 0 [t]))):=by
 refine af Try.func44 OP rfl fun a _=>?_;have e:C.agg [IC k,IC 0,.sl [[IC t.kind,IC t.id,.sl (t.args.map aI)]]]=aV (.mk k 0 [t]):=by
  rw[<-iJ];rfl
 exact aC rfl e
abbrev pT (f:Nat) (args:List C) (p:Prop):Prop:=CallsT P f args [] (aU [] (.bool (uP p)))
theorem TP (a b:List (Ty)) (t:∀x∈a,∀y,pT 15 [aV x,aV y] (x=y)):pT 45 [.sl (a.map aI),.sl (b.map aI)] (a=b):=by
 refine af Try.func45 OQ rfl fun u _=>?_;have n:(a.map aI).length=a.length:=by simp
 have hb:(b.map aI).length=b.length:=by simp
 have v:a.length<=9223372036854775807:=by have:=gZ u.1;rwa [n] at this
 refine aq (fun d=>?_) (fun d=>?_)
 ·have d:¬a.length=b.length:=fun e=>by
   rw[n,hb,e] at d;simp at d
  exact aC rfl (vv C.bool (ia (FL d)))
 have d:a.length=b.length:=by
  rw[n,hb] at d;simp at d;omega
 refine bX a.length 5 [] () (fun _=>[]) (fun _=>[]) (fun k _=>∀j<k,a[j]?=b[j]?) (fun j s=>fL s (by omega)) (ai rfl) trivial trivial (fun _=>rfl) (fun _=>rfl) ?_;rintro k ⟨⟩ r f _ _ _;refine ah (fun c=>?_) (fun m=>?_)
 ·have c:k<a.length:=by rw[n] at c;omega
  refine dP c fun x q o=>?_;refine dP (l:=b) (k:=k) (by omega) fun y p _=>?_;refine cL q ?_;refine cL p ?_;refine bD (t x o y) rfl fun _=>?_;refine aq (fun h=>?_) (fun h=>?_)
  ·have h:¬x=y:=He (by simpa using h);exact aC rfl (vv C.bool (ia (FM q p h)))
  ·have h:x=y:=Ee (by simpa using h);refine Fit.aaf (by omega) (by omega) ?_;exact⟨(k+1,()),⟨c,yS f q p h⟩,⟨bM,trivial⟩,trivial,bN c⟩
 ·have m:¬k<a.length:=by rw[n] at m;omega
  have r:k=a.length:=by omega
  exact aC rfl (vv C.bool (py (um rfl d.symm (r▸f))))
theorem YK:∀x y:Ty,pT 15 [aV x,aV y] (x=y):=fun x=>dc (p:=fun x=>∀y,pT 15 [aV x,aV y] (x=y)) (fun x a y=>by
  refine af Try.func15 Oz rfl fun b _=>?_;refine ah (fun h0=>?_) (fun h0=>aC rfl (vv C.bool (ia fun e=>h0 (by rw[e]))));refine ah (fun h1=>?_) (fun h1=>aC rfl (vv C.bool (ia fun e=>h1 (by rw[e]))));refine aY (TP x.args y.args a) rfl fun _=>?_;exact aC rfl (vv C.bool (vC ⟨fun h=>yT h0 h1 h,fun e=>by rw[e]⟩))) x
theorem t45 (a b:List Ty):pT 45 [.sl (a.map aI),.sl (b.map aI)] (a=b):=TP a b fun x _ y=>YK x y
theorem WO (a b:List (Ty)) (t:∀x∈a,∀y,pT 68 [aV x,aV y] (x=y)):pT 67 [.sl (a.map aI),.sl (b.map aI),.fn 68 [] []] (a=b):=by
 refine af Try.func67 wY rfl fun u _=>?_;have n:(a.map aI).length=a.length:=by simp
 have hb:(b.map aI).length=b.length:=by simp
 have v:a.length<=9223372036854775807:=by have:=gZ u.1;rwa [n] at this
 refine aq (fun d=>?_) (fun d=>?_)
 ·have d:¬a.length=b.length:=fun e=>by
   rw[n,hb,e] at d;simp at d
  exact aC rfl (vv C.bool (ia (FL d)))
 have d:a.length=b.length:=by
  rw[n,hb] at d;simp at d;omega
 refine bX a.length 17 [] () (fun _=>[]) (fun _=>[]) (fun k _=>∀j<k,a[j]?=b[j]?) (fun j s=>fL s (by omega)) (ai rfl) trivial trivial (fun _=>rfl) (fun _=>rfl) ?_;rintro k ⟨⟩ r f _ _ _;refine ah (fun c=>?_) (fun m=>?_)
 ·have c:k<a.length:=by rw[n] at c;omega
  refine dP c fun x q o=>?_;refine dP (l:=b) (k:=k) (by omega) fun y p _=>?_;refine cL q ?_;refine cL p ?_;refine aY (t x o y) rfl fun _=>?_;refine aq (fun h=>?_) (fun h=>?_)
  ·have h:¬x=y:=He (by simpa using h);exact aC rfl (vv C.bool (ia (FM q p h)))
  ·have h:x=y:=Ee (by simpa using h);refine Fit.aaf (by omega) (by omega) ?_;exact⟨(k+1,()),⟨c,yS f q p h⟩,⟨bM,trivial⟩,trivial,bN c⟩
 ·have m:¬k<a.length:=by rw[n] at m;omega
  have r:k=a.length:=by omega
  exact aC rfl (vv C.bool (py (um rfl d.symm (r▸f))))
theorem t68:∀x y:Ty,pT 68 [aV x,aV y] (x=y):=fun x=>dc (p:=fun x=>∀y,pT 68 [aV x,aV y] (x=y)) (fun x a y=>by
  refine af Try.func68 OZ rfl fun b _=>?_;refine ah (fun h0=>?_) (fun h0=>aC rfl (vv C.bool (ia fun e=>h0 (by rw[e]))));refine ah (fun h1=>?_) (fun h1=>aC rfl (vv C.bool (ia fun e=>h1 (by rw[e]))));refine aY (WO x.args y.args a) rfl fun _=>?_;exact aC rfl (vv C.bool (vC ⟨fun h=>yT h0 h1 h,fun e=>by rw[e]⟩))) x
theorem cap (n:Nat):(n:Int)+1=((n+1:Nat):Int):=rfl
theorem TQ {n:Int}(h:-9223372036854775808<=n) (k:n<=9223372036854775807):Wf (IC n):=by
 simp only[Wf,Lit.wf,v5,aaZ,IntKind.min,IntKind.max,IntKind.signed,IntKind.bits];exact⟨by simpa using h,by simpa using by omega⟩
theorem VE {a b:Nat}(h:a<=2 ^ 40) (k:b<=2 ^ 40):Wf (IC (if(b:Int)>(a:Int) then(b:Int) else(a:Int))):=TQ (by split<;>omega) (by split<;>omega)
theorem TR {a b c:Nat}(h:max a b=c):(if(b:Int)>(a:Int) then(b:Int) else(a:Int))=(c:Int):=by
 split<;>omega
theorem t18:∀t:Ty,cu t<=2 ^ 40->CallsT P 18 [aV t] [] (aU [] (IC (cu t))):=dc fun t p w=>by
 have r:cG t.args<2 ^ 40:=by rw[di] at w;omega
 have p:∀x∈t.args,CallsT P 18 [aV x] [] (aU [] (IC (cu x))):=fun x h=>p x h (by have:=jY h;omega);have v:=di t;have f:∀k x,t.args[k]?=some x->cG (t.args.take (k+1))=max (cG (t.args.take k)) (cu x):=fun k x h=>by rw[gV h,vD]
 have o:=Bm t.args;have e:cG (t.args.take t.args.length)=cG t.args:=by rw[List.take_length]
 have h0:cG (t.args.take 0)=0:=rfl;generalize cG=D at f o e h0 v r;generalize cu=E at p v f;refine af Try.func18 OC rfl fun y _=>?_;have u:t.args.length<=9223372036854775807:=f7 y.1.2.2.1;have l:(t.args.map aI).length=t.args.length:=vz _;refine bX t.args.length 4 [3] (0:Nat) (fun n=>[IC n]) (fun _=>[]) (fun k n=>n=D (t.args.take k)) h0.symm (ai rfl) ⟨ai rfl,trivial⟩ trivial (fun _=>rfl) (fun _=>rfl) ?_;rintro k n s j z _ _;refine ah (fun d=>?_) (fun m=>?_)
 ·have d:k<t.args.length:=by rw[l] at d;omega
  refine dP d fun x h q=>?_;refine cL h ?_;refine aY (p x q) rfl fun _=>?_;have hm:=o (k+1);have hs:=f k x h;refine⟨?_,?_⟩
  ·exact VE (a:=n) (b:=E x) (by omega) (by omega)
  refine Fit.aaf (by omega) (by omega) ?_;exact⟨(k+1,D (t.args.take (k+1))),⟨d,rfl⟩,⟨bM,.inr (.inl ⟨vv IC (TR (a:=n) (b:=E x) (c:=D (t.args.take (k+1))) (by omega)),rfl⟩),trivial⟩,trivial,bN d⟩
 ·have m:¬k<t.args.length:=by rw[l] at m;omega
  have s:k=t.args.length:=by omega
  rw[s,e] at j;refine Fit.aaf (by omega) (by omega) ?_;exact aC rfl (vv IC (by omega))
theorem TT:∀t:Ty,cu t<=2 ^ 40->CallsT P 47 [aV t] [] (aU [] (IC (cu t))):=dc fun t p w=>by
 have r:cG t.args<2 ^ 40:=by rw[di] at w;omega
 have p:∀x∈t.args,CallsT P 47 [aV x] [] (aU [] (IC (cu x))):=fun x h=>p x h (by have:=jY h;omega);have v:=di t;have f:∀k x,t.args[k]?=some x->cG (t.args.take (k+1))=max (cG (t.args.take k)) (cu x):=fun k x h=>by rw[gV h,vD]
 have o:=Bm t.args;have e:cG (t.args.take t.args.length)=cG t.args:=by rw[List.take_length]
 have h0:cG (t.args.take 0)=0:=rfl;generalize cG=D at f o e h0 v r;generalize cu=E at p v f;refine af Try.func47 OU rfl fun y _=>?_;have u:t.args.length<=9223372036854775807:=f7 y.1.2.2.1;have l:(t.args.map aI).length=t.args.length:=vz _;refine bX t.args.length 9 [3] (0:Nat) (fun n=>[IC n]) (fun _=>[]) (fun k n=>n=D (t.args.take k)) h0.symm (ai rfl) ⟨ai rfl,trivial⟩ trivial (fun _=>rfl) (fun _=>rfl) ?_;rintro k n s j z _ _;refine ah (fun d=>?_) (fun m=>?_)
 ·have d:k<t.args.length:=by rw[l] at d;omega
  refine dP d fun x h q=>?_;refine cL h ?_;refine aY (p x q) rfl fun _=>?_;have hm:=o (k+1);have hs:=f k x h;refine⟨?_,?_⟩
  ·exact VE (a:=n) (b:=E x) (by omega) (by omega)
  refine Fit.aaf (by omega) (by omega) ?_;exact⟨(k+1,D (t.args.take (k+1))),⟨d,rfl⟩,⟨bM,.inr (.inl ⟨vv IC (TR (a:=n) (b:=E x) (c:=D (t.args.take (k+1))) (by omega)),rfl⟩),trivial⟩,trivial,bN d⟩
 ·have m:¬k<t.args.length:=by rw[l] at m;omega
  have s:k=t.args.length:=by omega
  rw[s,e] at j;refine Fit.aaf (by omega) (by omega) ?_;exact aC rfl (vv IC (by omega))
theorem om {a:Type}{p:a->Bool}{l:List a}{k:Nat}{x:a}(b:l.drop k=x::l.drop (k+1)) (hi:(l.drop k).all p=l.all p) (c:p x=true):(l.drop (k+1)).all p=l.all p:=by
 rw[b,abd,c,aaS] at hi;exact hi
theorem LF {a:Type}{p:a->Bool}{l:List a}{k:Nat}{x:a}(b:l.drop k=x::l.drop (k+1)) (hi:(l.drop k).all p=l.all p) (c:p x=false):false=l.all p:=by
 rw[b,abd,c,aaV] at hi;exact hi
theorem Hj {a:Type}{p:a->Bool}{l:List a}{k:Nat}(h:¬k<l.length) (hi:(l.drop k).all p=l.all p):true=l.all p:=by
 rw[bQ h,List.all_nil] at hi;exact hi
theorem WQ (a:List Ty) (t x:Ty) (h1:t.kind=5) (e:0<=t.id) (d:t.id<a.length) (c:a[t.id.toNat]?=some x):CallsT P 53 [aV t,.pt [.sl (a.map aI)] 0] [] (aU [] (.tup [aV x,.bool true])):=by
 have b:(a.map aI).length=a.length:=vz _;refine af Try.func53 GS rfl fun f _=>?_;refine ah (fun _=>?_) (fun q=>fL h1 q);refine ah (fun _=>?_) (fun q=>fL e q);refine ah (fun _=>?_) (fun q=>fL (by rw[b];exact d) q);refine(vv (fun z=>uY (a.map aI) z 3 _) (show t.id=(t.id.toNat:Int) by omega)).mpr ?_;refine cL c ?_;exact aC rfl rfl
theorem WR (a:List Ty) (t:Ty) (h:¬(t.kind=5/\0<=t.id/\t.id<a.length)):CallsT P 53 [aV t,.pt [.sl (a.map aI)] 0] [] (aU [] (.tup [aV t,.bool false])):=by
 have b:(a.map aI).length=a.length:=vz _;refine af Try.func53 GS rfl fun e _=>?_;refine ah (fun h1=>ah (fun d=>ah (fun c=>fL ⟨h1,d,by rw[b] at c;exact c⟩ h) (fun _=>?_)) (fun _=>?_)) (fun _=>?_)
 all_goals exact aC rfl rfl
theorem WS (els:List (List C)) (t x:Ty) (h:CallsT P 53 [aV t,.pt [.sl els] 0] [] (aU [] (.tup [aV x,.bool true]))):CallsT P 52 [aV t,.fn 53 [] [.pt [.sl els] 0]] [] (aU [] (aV x)):=by
 refine af Try.func52 GR rfl fun a _=>?_;refine aY h rfl fun _=>?_;exact aC rfl rfl
theorem WT (els:List (List C)) (t:Ty) (f:Ty->Ty) (hb:t.args.length<=2 ^ 30) (h:CallsT P 53 [aV t,.pt [.sl els] 0] [] (aU [] (.tup [aV t,.bool false])))
  (n:∀x∈t.args,CallsT P 52 [aV x,.fn 53 [] [.pt [.sl els] 0]] [] (aU [] (aV (f x)))):CallsT P 52 [aV t,.fn 53 [] [.pt [.sl els] 0]] [] (aU [] (aV (.mk t.kind t.id (t.args.map f)))):=by
 have c:(t.args.map aI).length=t.args.length:=vz _;refine af Try.func52 GR rfl fun p _=>?_;refine aY h rfl fun _=>?_;refine bX t.args.length 26 [] ([]:List Ty) (fun _=>[]) (fun s=>[(4,.box 32 [IC 0,IC 0,.nils]),(5,.box 32 [IC t.kind,IC t.id,.sl (t.args.map aI)]),(7,.box 32 [IC t.kind,IC t.id,.rw 36]),(36,.row 32 3 (s.map aI))]) (fun j s=>s=(t.args.take j).map f) (by simp) (ai rfl) trivial
  ⟨.inl ⟨_,rfl,.inl ⟨rfl,rfl⟩⟩,.inl ⟨_,rfl,.inl ⟨rfl,rfl⟩⟩,.inl ⟨_,rfl,.inr ⟨32,_,_,rfl,rfl,_,_,rfl,ai rfl,_,_,rfl,ai rfl,_,_,rfl,sN rfl rfl,rfl⟩⟩,.inr ⟨rfl,32,3,rfl⟩,trivial⟩ (fun _=>rfl) (fun _=>rfl) ?_
 rintro j s o a _ _ _;refine ah (fun b=>?_) (fun d=>?_)
 ·have b:j<t.args.length:=by rw[c] at b;omega
  refine dP b fun x l k=>?_;have m:(s.map aI).length=j:=by rw[a,vz,vz,abJ];omega
  refine cL l ?_;refine bD (n x k) rfl fun _=>?_;refine rV j rfl m (by decide) (by omega) ?_;refine Fit.aaf (by omega) (by omega) ?_;refine⟨(j+1,s++[f x]),⟨b,?_⟩,⟨bM,trivial⟩,⟨.inl ⟨_,rfl,.inl ⟨rfl,rfl⟩⟩,.inl ⟨_,rfl,.inl ⟨rfl,rfl⟩⟩,.inl ⟨_,rfl,.inl ⟨rfl,rfl⟩⟩,.inl ⟨_,rfl,.inl ⟨Ei I3,rfl⟩⟩,trivial⟩,bN b⟩;show s++[f x]=(t.args.take (j+1)).map f;rw[gV l,a,abB];rfl
 ·have d:¬j<t.args.length:=by rw[c] at d;omega
  have e:C.agg [IC t.kind,IC t.id,.sl (s.map aI)]=aV (.mk t.kind t.id (t.args.map f)):=by
   rw[a,abA (by omega)];rfl
  exact IG [36] [] ⟨_,[],rfl,rfl,rfl,rfl,e⟩
theorem t52 (a:List Ty):∀t:Ty,ji t->CallsT P 52 [aV t,.fn 53 [] [.pt [.sl (a.map aI)] 0]] [] (aU [] (aV (subst a t))):=dc fun t c hb=>by
 have hb:=(gu t).1 hb;rw[subst_eq]
 by_cases h:t.kind=5/\0<=t.id/\t.id<a.length
 ·rw[eu h];obtain⟨h1,e,d⟩:=h;obtain⟨x,b⟩:=gO (l:=a) (k:=t.id.toNat) (by omega);rw[b];exact WS _ t x (WQ a t x h1 e d b)
 ·rw[fo h];exact WT _ t _ hb.1 (WR a t h) fun x b=>c x b (hb.2 x b)
theorem t16 (a:List Ty) (t:Ty) (hb:ji t):CallsT P 16 [.sl (a.map aI),aV t] [] (aU [] (aV (subst a t))):=by
 have h:=t52 a t hb;generalize subst a t=r at h ⊢;refine af Try.func16 OA rfl fun b _=>?_;refine aY h rfl fun _=>?_;exact aC rfl rfl
def fidx (q:Ty->Bool):List Ty->Int->Int
 | [],_=>-1
 | x::l,k=>if q x then k else fidx q l (k+1)
theorem qE {q:Ty->Bool}{l:List Ty}{k:Nat}{x:Ty}{r:Int}(a:l.drop k=x::l.drop (k+1)) (hi:fidx q (l.drop k) k=r) (b:q x=true):(k:Int)=r:=by
 rw[a,fidx,eu b] at hi;exact hi
theorem uo {q:Ty->Bool}{l:List Ty}{k:Nat}{x:Ty}{r:Int}(a:l.drop k=x::l.drop (k+1)) (hi:fidx q (l.drop k) k=r) (b:q x=false):fidx q (l.drop (k+1)) ((k+1:Nat):Int)=r:=by
 rw[a,fidx,fo (by rw[b];exact aa7)] at hi;exact hi
theorem qF {q:Ty->Bool}{l:List Ty}{k:Nat}{r:Int}(h:¬k<l.length) (hi:fidx q (l.drop k) k=r):(-1:Int)=r:=by
 rw[bQ h,fidx] at hi;exact hi
theorem Bo (q:Ty->Bool):∀(l:List Ty) (k:Int),0<=k->decide (0<=fidx q l k)=l.any q
 | [],k,_=>rfl
 | x::l,k,h=>by
  rw[fidx,abE];cases a:q x
  ·rw[fo aa7,Bool.false_or];exact Bo q l (k+1) (by omega)
  ·rw[eu rfl,Bool.true_or];exact aaN h
theorem qG (q:Ty->Bool) (l:List Ty):decide (fidx q l 0>=0)=l.any q:=Bo q l 0 (abb _)
theorem TU (es:List C) (pa:Int) (pc:List C) (l:List Ty) (q:Ty->Bool) (h:∀x∈l,CallsT P 50 [aV x,.pt es 0,.own 1000 0] [.box 39 [.fn 48 [] [.pt [IC pa] 0,.pt pc 0,.own 1000 0]]] (aU [.box 39 [.fn 48 [] [.pt [IC pa] 0,.pt pc 0,.own 1000 0]]] (.bool (q x)))) :
  CallsT P 92 [.sl (l.map aI),.fn 50 [] [.pt es 0,.own 1000 0]] [.box 39 [.fn 48 [] [.pt [IC pa] 0,.pt pc 0,.own 1000 0]]] (aU [.box 39 [.fn 48 [] [.pt [IC pa] 0,.pt pc 0,.own 1000 0]]] (IC (fidx q l 0))):=by
 have d:(l.map aI).length=l.length:=vz _;refine af Try.func92 ud rfl fun n _=>?_;have m:l.length<=9223372036854775807:=f7 n.1;refine bX l.length 8 [] () (fun _=>[]) (fun _=>[(1000,.box 39 [.fn 48 [] [.pt [IC pa] 0,.pt pc 0,.own 1000 0]])]) (fun k _=>fidx q (l.drop k) k=fidx q l 0) rfl (ai rfl) trivial ⟨.inl ⟨_,rfl,.inl ⟨rfl,rfl⟩⟩,trivial⟩ (fun _=>rfl) (fun _=>rfl) ?_;rintro k _ p a _ _ _;refine ah (fun b=>?_) (fun c=>?_)
 ·have b:k<l.length:=by rw[d] at b;omega
  refine aX b fun x o f e=>?_;refine cL o ?_;refine callO [1000] [1000] (h x f) rfl rfl rfl rfl rfl fun _ _=>?_;refine aq (fun j=>?_) (fun j=>?_)
  ·exact bF [1000] rfl rfl rfl (vv IC (qE e a j))
  ·refine Fit.aaf (by omega) (by omega) ?_;exact⟨(k+1,()),⟨b,uo e a j⟩,⟨bM,trivial⟩,⟨.inl ⟨_,rfl,.inl ⟨rfl,rfl⟩⟩,trivial⟩,bN b⟩
 ·have c:¬k<l.length:=by rw[d] at c;omega
  exact bF [1000] rfl rfl rfl (vv IC (qF c a))
theorem TV (es:List C) (pa:Int) (pc:List C) (l:List Ty) (q:Ty->Bool) (h:∀x∈l,CallsT P 50 [aV x,.pt es 0,.own 1000 0] [.box 39 [.fn 48 [] [.pt [IC pa] 0,.pt pc 0,.own 1000 0]]] (aU [.box 39 [.fn 48 [] [.pt [IC pa] 0,.pt pc 0,.own 1000 0]]] (.bool (q x)))) :
  CallsT P 49 [.sl (l.map aI),.fn 50 [] [.pt es 0,.own 1000 0]] [.box 39 [.fn 48 [] [.pt [IC pa] 0,.pt pc 0,.own 1000 0]]] (aU [.box 39 [.fn 48 [] [.pt [IC pa] 0,.pt pc 0,.own 1000 0]]] (.bool (l.any q))):=by
 have a:=TU es pa pc l q h;have e:=qG q l;generalize fidx q l 0=n at a e;refine af Try.func49 t9 rfl fun b _=>?_;refine callO [1000] [1000] a rfl rfl rfl rfl rfl fun _ _=>?_;exact bF [1000] rfl rfl rfl (vv C.bool e)
def Db (ds:List Api.Data) (k i:Int):Option Int :=
 if k=1\/k=6 then some 0 else if k=2 then(if i<0\/(ds.length:Int)<=i then none else some ((ds[i.toNat]?).map (·.params) |>.getD 0)) else if k=3\/k=4\/k=8\/k=7 then some 1 else none
mutual
def wD (ds:List Api.Data) (pa:Int):Ty->Bool
 | .mk k i l=>if k=5 then decide (0<=i)&&decide (i<pa)&&decide (l.length=0) else
  match Db ds k i with
  | none=>false
  | some n=>if(k≠2/\i≠0)\/(l.length:Int)≠n then false else !VF ds pa k l
def VF (ds:List Api.Data) (pa:Int) (k:Int):List Ty->Bool
 | []=>false
 | x::l=>((!iY x&&!(decide (k=7)&&decide (x.kind=6)))||!wD ds pa x)||VF ds pa k l
end
def FO (ds:List Api.Data) (pa k:Int) (x:Ty):Bool:=(!iY x&&!(decide (k=7)&&decide (x.kind=6)))||!wD ds pa x
theorem Hl (ds:List Api.Data) (pa k:Int):∀l:List Ty,VF ds pa k l=l.any (FO ds pa k)
 | []=>rfl
 | t::l=>by rw[VF,Hl ds pa k l,abE];rfl
theorem mK (ds:List Api.Data) (pa:Int) (t:Ty):wD ds pa t=if t.kind=5 then decide (0<=t.id)&&decide (t.id<pa)&&decide (t.args.length=0) else
  match Db ds t.kind t.id with
  | none=>false
  | some n=>if(t.kind≠2/\t.id≠0)\/(t.args.length:Int)≠n then false else !t.args.any (FO ds pa t.kind):=by
 cases t;rw[wD,Hl];rfl
abbrev F48 (pa:Int) (p:Prog):C:=.fn 48 [] [.pt [IC pa] 0,.pt (kg p) 0,.own 1000 0]
abbrev Tl (pa:Int) (p:Prog):List TO:=[.box 39 [F48 pa p]]
abbrev wE (pa:Int) (p:Prog) (t:Ty) (b:Bool):Prop:=CallsT P 48 [aV t,.pt [IC pa] 0,.pt (kg p) 0,.own 1000 0] (Tl pa p) (aU (Tl pa p) (.bool b))
theorem t50 (pa:Int) (p:Prog) (t x:Ty) (b:Bool) (h:wE pa p x b) :
  CallsT P 50 [aV x,.pt [IC t.kind,IC t.id,.sl (t.args.map aI)] 0,.own 1000 0] (Tl pa p) (aU (Tl pa p) (.bool ((!iY x&&!(decide (t.kind=7)&&decide (x.kind=6)))||!b))):=by
 have c:=t51 x;generalize iY x=s at c ⊢;refine af Try.func50 OV rfl fun d _=>?_;refine ah (fun h1=>?_) (fun h1=>?_)
 ·refine aY c rfl fun _=>?_;cases s
  ·refine aq (fun a=>?_) (fun a=>?_)
   ·refine bF [1000] rfl rfl rfl (vv C.bool ?_);have a:decide (x.kind=6)=false:=by simpa using a
    rw[a,aaN (show t.kind=7 from h1)];rfl
   ·refine callO [1000] [1000] h rfl rfl rfl rfl rfl fun _ _=>?_;refine bF [1000] rfl rfl rfl (vv C.bool ?_);have a:decide (x.kind=6)=true:=by simpa using a
    rw[a,aaN (show t.kind=7 from h1)];rfl
  ·refine callO [1000] [1000] h rfl rfl rfl rfl rfl fun _ _=>?_;exact bF [1000] rfl rfl rfl (vv C.bool rfl)
 ·refine aY c rfl fun _=>?_;cases s
  ·refine bF [1000] rfl rfl rfl (vv C.bool ?_);rw[aaP (show¬t.kind=7 from h1)];rfl
  ·refine callO [1000] [1000] h rfl rfl rfl rfl rfl fun _ _=>?_;exact bF [1000] rfl rfl rfl (vv C.bool rfl)
theorem FP {ds:List Api.Data}{z:Int}{d:Api.Data}{K:List C->Prop}(h0:0<=z) (a:ds[z.toNat]?=some d) (h:K [.str d.name,IC d.module,IC d.params,.sl (d.variants.map uh),IC d.drop]):uY (ds.map lg) z 5 K :=
 ⟨_,h0,by simp only[aa4,a,abo];rfl,rfl,h⟩
theorem uq {l:List Ty}:((l.map aI).length:Int)=(l.length:Int):=by rw[vz]
theorem aR {p:Prop}[Decidable p] {A B:Prop}(h:¬p->A) (k:p->B):zP (!decide p) A B:=by
 by_cases a:p
 ·rw[aaN a];exact k a
 ·rw[aaP a];exact h a
structure QW (pa:Int) (p:Prog) (t:Ty) (bad:Ty->Bool):Prop where
 h49:CallsT P 49 [.sl (t.args.map aI),.fn 50 [] [.pt [IC t.kind,IC t.id,.sl (t.args.map aI)] 0,.own 1000 0]] (Tl pa p) (aU (Tl pa p) (.bool (t.args.any bad)))
theorem TW (pa:Int) (p:Prog) (t:Ty) (a:Ty->Bool) (X:QW pa p t a) (d:t.kind=1):wE pa p t (if t.id≠0\/(t.args.length:Int)≠0 then false else !t.args.any a):=by
 refine af Try.func48 kN rfl fun e _=>?_;refine ah (fun _=>?_) (fun q=>fL (by omega) q);refine ah (fun _=>?_) (fun q=>fL (by omega) q);refine aR (fun _=>?_) (fun q=>fL q (by omega));refine aR (fun b=>?_) (fun b=>?_)
 ·exact bF [1000] rfl rfl rfl (vv C.bool (eu (Or.inl b)).symm)
 refine aR (fun c=>?_) (fun c=>?_)
 ·exact bF [1000] rfl rfl rfl (vv C.bool (eu (Or.inr (by rw[<-uq];exact c))).symm)
 refine callO [1000] [1000] X.h49 rfl rfl rfl rfl rfl fun _ _=>?_;exact bF [1000] rfl rfl rfl (vv C.bool (fo (by rw[<-uq];exact fun q=>q.elim (fun q=>q b) (fun q=>q c))).symm)
theorem TY (pa:Int) (p:Prog) (t:Ty) (a:Ty->Bool) (X:QW pa p t a) (d:t.kind=6):wE pa p t (if t.id≠0\/(t.args.length:Int)≠0 then false else !t.args.any a):=by
 refine af Try.func48 kN rfl fun e _=>?_;refine ah (fun q=>fL q (by omega)) (fun _=>?_);refine ah (fun _=>?_) (fun q=>fL (by omega) q);refine aR (fun _=>?_) (fun q=>fL q (by omega));refine aR (fun b=>?_) (fun b=>?_)
 ·exact bF [1000] rfl rfl rfl (vv C.bool (eu (Or.inl b)).symm)
 refine aR (fun c=>?_) (fun c=>?_)
 ·exact bF [1000] rfl rfl rfl (vv C.bool (eu (Or.inr (by rw[<-uq];exact c))).symm)
 refine callO [1000] [1000] X.h49 rfl rfl rfl rfl rfl fun _ _=>?_;exact bF [1000] rfl rfl rfl (vv C.bool (fo (by rw[<-uq];exact fun q=>q.elim (fun q=>q b) (fun q=>q c))).symm)
theorem T9 (pa:Int) (p:Prog) (t:Ty) (a:Ty->Bool) (X:QW pa p t a) (d:t.kind=3):wE pa p t (if t.id≠0\/(t.args.length:Int)≠1 then false else !t.args.any a):=by
 refine af Try.func48 kN rfl fun e _=>?_;refine ah (fun q=>fL q (by omega)) (fun _=>?_);refine ah (fun q=>fL q (by omega)) (fun _=>?_);refine ah (fun q=>fL q (by omega)) (fun _=>?_);refine ah (fun q=>fL q (by omega)) (fun _=>?_);refine ah (fun _=>?_) (fun q=>fL (by omega) q);refine ah (fun _=>?_) (fun q=>fL (by omega) q);refine aR (fun _=>?_) (fun q=>fL q (by omega));refine aR (fun b=>?_) (fun b=>?_)
 ·exact bF [1000] rfl rfl rfl (vv C.bool (eu (Or.inl b)).symm)
 refine aR (fun c=>?_) (fun c=>?_)
 ·exact bF [1000] rfl rfl rfl (vv C.bool (eu (Or.inr (by rw[<-uq];exact c))).symm)
 refine callO [1000] [1000] X.h49 rfl rfl rfl rfl rfl fun _ _=>?_;exact bF [1000] rfl rfl rfl (vv C.bool (fo (by rw[<-uq];exact fun q=>q.elim (fun q=>q b) (fun q=>q c))).symm)
theorem Ua (pa:Int) (p:Prog) (t:Ty) (a:Ty->Bool) (X:QW pa p t a) (d:t.kind=4):wE pa p t (if t.id≠0\/(t.args.length:Int)≠1 then false else !t.args.any a):=by
 refine af Try.func48 kN rfl fun e _=>?_;refine ah (fun q=>fL q (by omega)) (fun _=>?_);refine ah (fun q=>fL q (by omega)) (fun _=>?_);refine ah (fun q=>fL q (by omega)) (fun _=>?_);refine ah (fun q=>fL q (by omega)) (fun _=>?_);refine ah (fun q=>fL q (by omega)) (fun _=>?_);refine ah (fun _=>?_) (fun q=>fL (by omega) q);refine ah (fun _=>?_) (fun q=>fL (by omega) q);refine aR (fun _=>?_) (fun q=>fL q (by omega));refine aR (fun b=>?_) (fun b=>?_)
 ·exact bF [1000] rfl rfl rfl (vv C.bool (eu (Or.inl b)).symm)
 refine aR (fun c=>?_) (fun c=>?_)
 ·exact bF [1000] rfl rfl rfl (vv C.bool (eu (Or.inr (by rw[<-uq];exact c))).symm)
 refine callO [1000] [1000] X.h49 rfl rfl rfl rfl rfl fun _ _=>?_;exact bF [1000] rfl rfl rfl (vv C.bool (fo (by rw[<-uq];exact fun q=>q.elim (fun q=>q b) (fun q=>q c))).symm)
theorem Ub (pa:Int) (p:Prog) (t:Ty) (a:Ty->Bool) (X:QW pa p t a) (d:t.kind=8):wE pa p t (if t.id≠0\/(t.args.length:Int)≠1 then false else !t.args.any a):=by
 refine af Try.func48 kN rfl fun e _=>?_;refine ah (fun q=>fL q (by omega)) (fun _=>?_);refine ah (fun q=>fL q (by omega)) (fun _=>?_);refine ah (fun q=>fL q (by omega)) (fun _=>?_);refine ah (fun q=>fL q (by omega)) (fun _=>?_);refine ah (fun q=>fL q (by omega)) (fun _=>?_);refine ah (fun q=>fL q (by omega)) (fun _=>?_);refine ah (fun _=>?_) (fun q=>fL (by omega) q);refine ah (fun _=>?_) (fun q=>fL (by omega) q);refine aR (fun _=>?_) (fun q=>fL q (by omega));refine aR (fun b=>?_) (fun b=>?_)
 ·exact bF [1000] rfl rfl rfl (vv C.bool (eu (Or.inl b)).symm)
 refine aR (fun c=>?_) (fun c=>?_)
 ·exact bF [1000] rfl rfl rfl (vv C.bool (eu (Or.inr (by rw[<-uq];exact c))).symm)
 refine callO [1000] [1000] X.h49 rfl rfl rfl rfl rfl fun _ _=>?_;exact bF [1000] rfl rfl rfl (vv C.bool (fo (by rw[<-uq];exact fun q=>q.elim (fun q=>q b) (fun q=>q c))).symm)
theorem Uc (pa:Int) (p:Prog) (t:Ty) (a:Ty->Bool) (X:QW pa p t a) (d:t.kind=7):wE pa p t (if t.id≠0\/(t.args.length:Int)≠1 then false else !t.args.any a):=by
 refine af Try.func48 kN rfl fun e _=>?_;refine ah (fun q=>fL q (by omega)) (fun _=>?_);refine ah (fun q=>fL q (by omega)) (fun _=>?_);refine ah (fun q=>fL q (by omega)) (fun _=>?_);refine ah (fun q=>fL q (by omega)) (fun _=>?_);refine ah (fun q=>fL q (by omega)) (fun _=>?_);refine ah (fun q=>fL q (by omega)) (fun _=>?_);refine ah (fun q=>fL q (by omega)) (fun _=>?_);refine ah (fun _=>?_) (fun q=>fL (by omega) q);refine aR (fun _=>?_) (fun q=>fL q (by omega));refine aR (fun b=>?_) (fun b=>?_)
 ·exact bF [1000] rfl rfl rfl (vv C.bool (eu (Or.inl b)).symm)
 refine aR (fun c=>?_) (fun c=>?_)
 ·exact bF [1000] rfl rfl rfl (vv C.bool (eu (Or.inr (by rw[<-uq];exact c))).symm)
 refine callO [1000] [1000] X.h49 rfl rfl rfl rfl rfl fun _ _=>?_;exact bF [1000] rfl rfl rfl (vv C.bool (fo (by rw[<-uq];exact fun q=>q.elim (fun q=>q b) (fun q=>q c))).symm)
theorem Ud (pa:Int) (p:Prog) (t:Ty) (a:¬(1<=t.kind/\t.kind<=8)):wE pa p t false:=by
 refine af Try.func48 kN rfl fun b _=>?_;refine ah (fun q=>fL q (by omega)) (fun _=>?_);refine ah (fun q=>fL q (by omega)) (fun _=>?_);refine ah (fun q=>fL q (by omega)) (fun _=>?_);refine ah (fun q=>fL q (by omega)) (fun _=>?_);refine ah (fun q=>fL q (by omega)) (fun _=>?_);refine ah (fun q=>fL q (by omega)) (fun _=>?_);refine ah (fun q=>fL q (by omega)) (fun _=>?_);refine ah (fun q=>fL q (by omega)) (fun _=>?_);exact bF [1000] rfl rfl rfl rfl
theorem Ue (pa:Int) (p:Prog) (t:Ty) (c:t.kind=5):wE pa p t (decide (0<=t.id)&&decide (t.id<pa)&&decide (t.args.length=0)):=by
 refine af Try.func48 kN rfl fun d _=>?_;refine ah (fun q=>fL q (by omega)) (fun _=>?_);refine ah (fun q=>fL q (by omega)) (fun _=>?_);refine ah (fun _=>?_) (fun q=>fL (by omega) q);refine ah (fun a=>?_) (fun a=>?_)
 ·refine ah (fun b=>?_) (fun b=>?_)
  ·exact bF [1000] rfl rfl rfl (vv C.bool (by rw[aaN (show(0:Int)<=t.id from a),aaN b,aaS,aaS];exact decide_eq_decide.2 (by rw[vz];omega)))
  ·exact bF [1000] rfl rfl rfl (vv C.bool (by rw[aaP b,abh,aaV]))
 ·exact bF [1000] rfl rfl rfl (vv C.bool (by rw[aaP (show¬(0:Int)<=t.id from a),aaV,aaV]))
theorem Sj (pa:Int) (p:Prog) (t:Ty) (d:t.kind=2) (hi:t.id<0\/(p.datas.length:Int)<=t.id):wE pa p t false:=by
 have a:(p.datas.map lg).length=p.datas.length:=vz _;refine af Try.func48 kN rfl fun e _=>?_;refine ah (fun q=>fL q (by omega)) (fun _=>?_);refine ah (fun q=>fL q (by omega)) (fun _=>?_);refine ah (fun q=>fL q (by omega)) (fun _=>?_);refine ah (fun _=>?_) (fun q=>fL (by omega) q);refine ah (fun c=>?_) (fun c=>?_)
 ·exact bF [1000] rfl rfl rfl rfl
 refine ah (fun b=>?_) (fun b=>fL (by rw[a];omega) b);exact bF [1000] rfl rfl rfl rfl
theorem Uf (pa:Int) (p:Prog) (t:Ty) (a:Ty->Bool) (X:QW pa p t a) (j:t.kind=2) (d:Api.Data) (h0:0<=t.id) (e:p.datas[t.id.toNat]?=some d):wE pa p t (if(t.args.length:Int)≠d.params then false else !t.args.any a):=by
 have c:(p.datas.map lg).length=p.datas.length:=vz _;have h:t.id.toNat<p.datas.length:=(aaR.1 e).1;refine af Try.func48 kN rfl fun k _=>?_;refine ah (fun q=>fL q (by omega)) (fun _=>?_);refine ah (fun q=>fL q (by omega)) (fun _=>?_);refine ah (fun q=>fL q (by omega)) (fun _=>?_);refine ah (fun _=>?_) (fun q=>fL (by omega) q);refine ah (fun b=>fL h0 (by omega)) (fun b=>?_);refine ah (fun f=>fL f (by rw[c];omega)) (fun f=>?_);refine FP h0 e ?_;refine aR (fun q=>fL j q) (fun _=>?_);refine aR (fun b=>?_) (fun b=>?_)
 ·exact bF [1000] rfl rfl rfl (vv C.bool (eu (by rw[<-uq];exact b)).symm)
 refine callO [1000] [1000] X.h49 rfl rfl rfl rfl rfl fun _ _=>?_;exact bF [1000] rfl rfl rfl (vv C.bool (fo (by rw[<-uq];exact fun q=>q b)).symm)
theorem t48 (pa:Int) (p:Prog):∀t:Ty,wE pa p t (wD p.datas pa t):=dc fun t h=>by
 have X:QW pa p t (FO p.datas pa t.kind):=⟨TV [IC t.kind,IC t.id,.sl (t.args.map aI)] pa (kg p) t.args (FO p.datas pa t.kind) fun x f=>t50 pa p t x _ (h x f)⟩;rw[mK]
 by_cases c:t.kind=5
 ·rw[eu c];exact Ue pa p t c
 rw[fo c,Db]
 by_cases h1:t.kind=1\/t.kind=6
 ·rw[eu h1];simp only[ne_eq,show¬t.kind=2 by omega,not_false_eq_true,true_and];rcases h1 with h1 | h1
  ·exact TW pa p t _ X h1
  ·exact TY pa p t _ X h1
 rw[fo h1]
 by_cases b:t.kind=2
 ·rw[eu b]
  by_cases hi:t.id<0\/(p.datas.length:Int)<=t.id
  ·rw[eu hi];exact Sj pa p t b hi
  ·rw[fo hi];obtain⟨d,e⟩:=gO (l:=p.datas) (k:=t.id.toNat) (by omega);rw[e];simp only[ne_eq,b,not_true_eq_false,false_and,false_or,abo,Option.getD_some];rw[<-b];exact Uf pa p t _ X b d (by omega) e
 rw[fo b]
 by_cases a:t.kind=3\/t.kind=4\/t.kind=8\/t.kind=7
 ·rw[eu a];simp only[ne_eq,b,not_false_eq_true,true_and];rcases a with a | a | a | a
  ·exact T9 pa p t _ X a
  ·exact Ua pa p t _ X a
  ·exact Ub pa p t _ X a
  ·exact Uc pa p t _ X a
 ·rw[fo a];exact Ud pa p t (by omega)
def iZ (p:Prog) (pa:Int) (t:Ty):Bool:=if pa<0\/pa>4\/cu t>8 then false else wD p.datas pa t
theorem YL (pa:Int) (p:Prog) (t:Ty) (e:cu t<=2 ^ 40):CallsT P 14 [.agg (kg p),IC pa,aV t] [] (aU [] (.bool (iZ p pa t))):=by
 have c:=TT t e;have a:=t48 pa p t;rw[iZ];generalize cu t=D at c ⊢;generalize wD p.datas pa t=b at a ⊢;refine af Try.func14 Oy rfl fun h _=>?_;refine ah (fun h1=>?_) (fun h1=>?_)
 ·exact aC rfl (vv C.bool (eu (Or.inl h1)).symm)
 refine ah (fun d=>?_) (fun d=>?_)
 ·exact aC rfl (vv C.bool (eu (Or.inr (Or.inl d))).symm)
 refine aY c rfl fun _=>?_;refine ah (fun f=>?_) (fun f=>?_)
 ·exact aC rfl (vv C.bool (eu (Or.inr (Or.inr (by omega)))).symm)
 refine callO [7] [7] a rfl rfl rfl rfl rfl fun _ _=>?_;exact aC rfl (vv C.bool (fo (by omega)).symm)
section
variable {α:Type}
def br:List (Int×α)->Int->Option α
 | [],_=>none
 | (k,v)::m,i=>if i=k then some v else br m i
def eI:List (Int×α)->Int->α->List (Int×α)
 | [],i,x=>[(i,x)]
 | (k,v)::m,i,x=>if i=k then(i,x)::m else(k,v)::eI m i x
def jl (f:α->C) (m:List (Int×α)):List (C×C):=m.map fun p=>(IC p.1,f p.2)
theorem CM (f:α->C) (i:Int):∀m:List (Int×α),vT false (IC i) (jl f m)=some ((br m i).map f)
 | []=>rfl
 | (k,v)::m=>by
  have a:=CM f i m;simp only[jl,aaX,vT,jQ,br] at a ⊢
  by_cases h:i=k
  ·rw[aaN h,eu h];rfl
  ·rw[aaP h,fo h];exact a
theorem LG (f:α->C) (i:Int) (x:α):∀m:List (Int×α),Fp false (IC i) (f x) (jl f m)=some (jl f (eI m i x))
 | []=>rfl
 | (k,v)::m=>by
  have a:=LG f i x m;simp only[jl,aaX,Fp,jQ,eI] at a ⊢
  by_cases h:i=k
  ·rw[aaN h,eu h];rfl
  ·rw[aaP h,fo h];simp only[a];rfl
theorem iK (m:List (Int×α)) (i j:Int) (x:α):br (eI m i x) j=if j=i then some x else br m j:=by
 induction m with
 | nil =>
  simp only[eI,br]
 | cons p m b =>
  obtain⟨k,v⟩:=p;simp only[eI]
  by_cases h:i=k
  ·rw[eu h];simp only[br];subst h
   by_cases a:j=i
   ·rw[eu a,eu a]
   ·rw[fo a,fo a,fo a]
  ·rw[fo h];simp only[br,b]
   by_cases a:j=k
   ·rw[eu a,eu a,fo (by omega)]
   ·rw[fo a,fo a]
theorem yX {f:α->C}{i:Int}{m:List (Int×α)}{Y:C->Prop}{N:Prop}{x:α}(h:br m i=some x) (k:Y (f x)):xZ false (jl f m) (IC i) Y N :=
 ⟨.inl ⟨f x,by rw[CM,h];rfl,k⟩⟩
theorem yY {f:α->C}{i:Int}{m:List (Int×α)}{Y:C->Prop}{N:Prop}(h:br m i=none) (k:N):xZ false (jl f m) (IC i) Y N :=
 ⟨.inr ⟨by rw[CM,h];rfl,k⟩⟩
theorem I4 {f:α->C}{i:Int}{m:List (Int×α)}{K:List (C×C)->Prop}{x:α}{c:C}(e:c=f x) (k:K (jl f (eI m i x))):QD false (jl f m) (IC i) c K :=
 ⟨_,by rw[e];exact LG f i x m,k⟩
end
mutual
def eqB:Ty->Ty->Bool
 | .mk k i l,.mk k' i' l'=>decide (k=k')&&decide (i=i')&&FQ l l'
def FQ:List Ty->List Ty->Bool
 | [],[]=>true
 | x::l,y::l'=>eqB x y&&FQ l l'
 | _,_=>false
end
mutual
theorem pz:∀x y:Ty,eqB x y=true↔x=y
 | .mk k i l,.mk k' i' l'=>by
  rw[eqB,v5,v5,aaZ,aaZ,Ej l l'];simp only[Ty.mk.injEq,and_assoc]
theorem Ej:∀x y:List Ty,FQ x y=true↔x=y
 | [],[]=>by simp[FQ]
 | [],_::_=>by simp[FQ]
 | _::_,[]=>by simp[FQ]
 | x::l,y::l'=>by rw[FQ,v5,pz x y,Ej l l',List.cons.injEq]
end
theorem CN (x y:Ty):uP (x=y)=eqB x y:=by
 cases h:eqB x y with
 | true=>exact pu.2 ((pz x y).1 h)
 | false=>exact(ia fun e=>by rw[(pz x y).2 e] at h;cases h).symm
abbrev TM:=List (Int×Ty)
mutual
def jZ (n:Int):Ty->Ty->TM->TM×Bool
 | .mk k i l,t,m=>if k=5 then(if i<0\/n<=i then(m,false) else match br m i with
   | some x=>(m,eqB x t)
   | none=>(eI m i t,true))
  else if k=t.kind/\i=t.id then(if l.length=t.args.length then mS n l t.args m else(m,false)) else(m,false)
def mS (n:Int):List Ty->List Ty->TM->TM×Bool
 | [],_,m=>(m,true)
 | x::l,l',m=>match l' with
  | []=>(m,false)
  | y::l'=>match jZ n x y m with
   | (m',true)=>mS n l l' m'
   | (m',false)=>(m',false)
end
def I5 (n:Int) (p t:Ty) (m:TM):TM×Bool:=if p.kind=5 then(if p.id<0\/n<=p.id then(m,false) else match br m p.id with
   | some x=>(m,eqB x t)
   | none=>(eI m p.id t,true))
  else if p.kind=t.kind/\p.id=t.id then(if p.args.length=t.args.length then mS n p.args t.args m else(m,false)) else(m,false)
theorem ur (n:Int) (p t:Ty) (m:TM):jZ n p t m=I5 n p t m:=by
 cases p;rw[jZ];rfl
abbrev WU (n:Int):C:=.fn 66 [] [.own 1000 0,.pt [IC n] 0,.own 1001 0]
abbrev VG (n:Int) (m:TM):List TO:=[.box 37 [WU n],.box 101 [.mpr 1002],.map (jl aV m)]
abbrev Ek (n:Int) (p t:Ty) (m:TM) (r:TM×Bool):Prop:=CallsT P 66 [aV p,aV t,.own 1000 0,.pt [IC n] 0,.own 1001 0] (VG n m) (aU (VG n r.1) (.bool r.2))
abbrev Ug (n:Int) (a b:List Ty) (m:TM) (r:TM×Bool):Prop:=CallsT P 67 [.sl (a.map aI),.sl (b.map aI),WU n] (VG n m) (aU (VG n r.1) (.bool r.2))
theorem WV (n:Int) (a b:List Ty) (m:TM) (f:Ty->Ty->TM->TM×Bool) (j:List Ty->List Ty->TM->TM×Bool) (t:∀l m,j [] l m=(m,true)) (hz:∀x l y l' m,j (x::l) (y::l') m=match f x y m with
   | (o,true)=>j l l' o
   | (o,false)=>(o,false)) (ih:∀x∈a,∀y m,Ek n x y m (f x y m)):Ug n a b m (if a.length=b.length then j a b m else(m,false)):=by
 have p:(a.map aI).length=a.length:=by simp
 have hb:(b.map aI).length=b.length:=by simp
 by_cases e:a.length=b.length
 ·rw[eu e];generalize hr:j a b m=r;refine af Try.func67 wY rfl fun z _=>?_;have hm:a.length<=9223372036854775807:=by have:=gZ z.1;rwa [p] at this
  refine aR (fun s=>fL (by rw[p,hb,e]) s) (fun s=>?_);refine bX a.length 17 [] m (fun _=>[]) (fun m=>[(1000,.box 37 [WU n]),(1001,.box 101 [.mpr 1002]),(1002,.map (jl aV m))]) (fun k m=>j (a.drop k) (b.drop k) m=r) hr (ai rfl) trivial
   ⟨.inl ⟨_,rfl,.inl ⟨rfl,rfl⟩⟩,.inl ⟨_,rfl,.inl ⟨rfl,rfl⟩⟩,.inl ⟨_,rfl,.inl ⟨rfl,rfl⟩⟩,trivial⟩ (fun _=>rfl) (fun _=>rfl) ?_
  rintro k m hk c _ _ _;refine ah (fun d=>?_) (fun h=>?_)
  ·have d:k<a.length:=by rw[p] at d;omega
   refine aX d fun x hx u w=>?_;refine aX (l:=b) (k:=k) (by omega) fun y hy _ v=>?_;have c:=c;rw[w,v,hz] at c;refine cL hx ?_;refine cL hy ?_;refine callO [1000,1001,1002] [1000,1001,1002] (ih x u y m) rfl rfl rfl rfl rfl fun _ _=>?_;generalize f x y m=q at c;obtain⟨o,q⟩:=q;cases q
   ·exact bF [1000,1001,1002] rfl rfl (by rw[<-c];rfl) (by rw[<-c];rfl)
   ·refine Fit.aaf (by omega) (by omega) ?_;exact⟨(k+1,o),⟨d,c⟩,⟨bM,trivial⟩,⟨.inl ⟨_,rfl,.inl ⟨rfl,rfl⟩⟩,.inl ⟨_,rfl,.inl ⟨rfl,rfl⟩⟩,.inl ⟨_,rfl,.inl ⟨rfl,rfl⟩⟩,trivial⟩,bN d⟩
  ·have h:¬k<a.length:=by rw[p] at h;omega
   have c:=c;rw[bQ h,t] at c;exact bF [1000,1001,1002] rfl rfl (by rw[<-c];rfl) (by rw[<-c];rfl)
 ·rw[fo e];refine af Try.func67 wY rfl fun z _=>?_;refine aR (fun s=>?_) (fun s=>fL (by rw[p,hb] at s;omega) e);exact bF [1000,1001,1002] rfl rfl rfl rfl
theorem WW (n:Int) (p t:Ty) (m:TM) (r:TM×Bool) (a:¬p.kind=5) (h1:p.kind=t.kind) (b:p.id=t.id) (h:Ug n p.args t.args m r):Ek n p t m r:=by
 refine af Try.func66 uc rfl fun c _=>?_;refine aR (fun _=>?_) (fun q=>fL q a);refine ah (fun _=>?_) (fun q=>fL h1 q);refine ah (fun _=>?_) (fun q=>fL b q);refine callO [1000,1001,1002] [1000,1001,1002] h rfl rfl rfl rfl rfl fun _ _=>?_;exact bF [1000,1001,1002] rfl rfl rfl rfl
theorem WX (n:Int) (p t:Ty) (m:TM) (b:¬p.kind=5) (h1:¬(p.kind=t.kind/\p.id=t.id)):Ek n p t m (m,false):=by
 refine af Try.func66 uc rfl fun d _=>?_;refine aR (fun _=>?_) (fun q=>fL q b);refine ah (fun a=>ah (fun c=>fL ⟨a,c⟩ h1) (fun _=>?_)) (fun _=>?_)
 all_goals exact bF [1000,1001,1002] rfl rfl rfl rfl
theorem WY (n:Int) (p t:Ty) (m:TM) (b:p.kind=5) (h1:p.id<0\/n<=p.id):Ek n p t m (m,false):=by
 refine af Try.func66 uc rfl fun d _=>?_;refine aR (fun q=>fL b q) (fun _=>?_);refine ah (fun a=>?_) (fun a=>ah (fun _=>?_) (fun c=>fL h1 (by omega)))
 all_goals exact bF [1000,1001,1002] rfl rfl rfl rfl
theorem WZ (n:Int) (p t x:Ty) (m:TM) (f:p.kind=5) (h1:¬(p.id<0\/n<=p.id)) (e:br m p.id=some x):Ek n p t m (m,eqB x t):=by
 have a:=t68 x t;rw[pT,CN] at a;generalize eqB x t=b at a ⊢;refine af Try.func66 uc rfl fun h _=>?_;refine aR (fun q=>fL f q) (fun _=>?_);refine ah (fun c=>fL (Or.inl c) h1) (fun c=>ah (fun d=>fL (Or.inr d) h1) (fun d=>?_));refine yX e ?_;refine aY a rfl fun _=>?_;exact bF [1000,1001,1002] rfl rfl rfl rfl
theorem W4 (n:Int) (p t:Ty) (m:TM) (d:p.kind=5) (h1:¬(p.id<0\/n<=p.id)) (c:br m p.id=none):Ek n p t m (eI m p.id t,true):=by
 refine af Try.func66 uc rfl fun e _=>?_;refine aR (fun q=>fL d q) (fun _=>?_);refine ah (fun a=>fL (Or.inl a) h1) (fun a=>ah (fun b=>fL (Or.inr b) h1) (fun b=>?_));refine yY c ?_;refine I4 (x:=t) rfl ?_;exact bF [1000,1001,1002] rfl rfl rfl rfl
theorem YM (n:Int):∀(p t:Ty) (m:TM),Ek n p t m (jZ n p t m):=fun p=>dc (p:=fun p=>∀(t:Ty) (m:TM),Ek n p t m (jZ n p t m)) (fun p c t m=>by
 rw[ur,I5]
 by_cases a:p.kind=5
 ·rw[eu a]
  by_cases h1:p.id<0\/n<=p.id
  ·rw[eu h1];exact WY n p t m a h1
  rw[fo h1];cases b:br m p.id with
  | none=>exact W4 n p t m a h1 b
  | some x=>exact WZ n p t x m a h1 b
 ·rw[fo a]
  by_cases h1:p.kind=t.kind/\p.id=t.id
  ·rw[eu h1];refine WW n p t m _ a h1.1 h1.2 ?_;exact WV n p.args t.args m (jZ n) (mS n) (fun l m=>by rw[mS]) (fun x l y d m=>by rw[mS]) c
  ·rw[fo h1];exact WX n p t m a h1) p
def bW (s:List Ty) (t:Ty):Option Ty:=if t.id<0 then none else s[t.id.toNat]?
theorem bP {s:List Ty}{t x:Ty}(h:bW s t=some x):0<=t.id/\s[t.id.toNat]?=some x/\t.id.toNat<s.length:=by
 unfold bW at h;split at h
 ·cases h
 ·exact⟨by omega,h,(aaR.1 h).1⟩
theorem LH {s:List Ty}{t:Ty}(h0:0<=t.id) (h1:t.id<s.length):∃x,bW s t=some x/\x∈s:=by
 unfold bW;rw[fo (by omega)];exact⟨s[t.id.toNat]'(by omega),aaO _,List.getElem_mem _⟩
def aQ (s:List Ty):Nat->Ty->Option Ty
 | 0,_=>none
 | n+1,t=>if t.kind=9 then(match bW s t with
   | none=>none
   | some x=>if x.kind=0 then some t else aQ s n x) else some t
def wF (f:Ty->Option Bool):List Ty->Option Bool
 | []=>some false
 | x::l=>match f x,wF f l with
  | some a,some b=>some (a||b)
  | _,_=>none
def lm (s:List Ty) (v:Int):Nat->Ty->Option Bool
 | 0,_=>none
 | n+1,t=>match aQ s n t with
  | none=>none
  | some a=>if a.kind=9 then some (decide (a.id=v)) else wF (lm s v n) a.args
def kH (f:List Ty->Ty->Ty->Option (Option (List Ty))):List Ty->List Ty->List Ty->Option (Option (List Ty))
 | s,[],_=>some (some s)
 | s,x::l,a=>match a with
  | []=>none
  | y::a=>match f s x y with
   | some (some s')=>kH f s' l a
   | some none=>some none
   | none=>none
def lQ:Nat->List Ty->Ty->Ty->Option (Option (List Ty))
 | 0,_,_,_=>none
 | n+1,s,a,b=>match aQ s n a,aQ s n b with
  | some a,some b =>
   if a.kind=9/\b.kind=9 then(if a.id=b.id then some (some s) else some (some (s.set (max a.id b.id).toNat (.mk 9 (min a.id b.id) []))))
   else if a.kind=9 then(match lm s a.id n b with
    | none=>none
    | some true=>some none
    | some false=>some (some (s.set a.id.toNat b)))
   else if b.kind=9 then lQ n s b a
   else if a.kind≠b.kind\/a.id≠b.id\/a.args.length≠b.args.length then some none
   else kH (lQ n) s a.args b.args
  | _,_=>none
def zR (n:Int):Int:=IntKind.i64.wrap n
abbrev DM:=List (Int×Int)
abbrev OM:=List (Int×Bool)
def eH (f:Ty->DM->OM->Option (Option (Int×DM×OM))):List Ty->Int->DM->OM->Option (Option (Int×DM×OM))
 | [],k,d,o=>some (some (k,d,o))
 | x::l,k,d,o=>match f x d o with
  | some (some (a,b,o'))=>eH f l (if a>k then a else k) b o'
  | some none=>some none
  | none=>none
def bI (s:List Ty):Nat->Ty->DM->OM->Option (Option (Int×DM×OM))
 | 0,_,_,_=>none
 | n+1,t,d,o =>
  match(if t.kind=9 then bW s t else some (.mk 0 0 [])) with
  | none=>none
  | some x=>if x.kind≠0 then(match br d t.id with
    | some k=>some (some (k,d,o))
    | none=>match br o t.id with
     | some true=>some none
     | _=>match bI s n x d (eI o t.id true) with
      | some (some (k,a,o'))=>some (some (k,eI a t.id k,o'))
      | some none=>some none
      | none=>none)
   else match eH (bI s n) t.args 0 d o with
    | some (some (k,a,o'))=>some (some (zR (k+1),a,o'))
    | some none=>some none
    | none=>none
def lA (f:Ty->Option Ty):List Ty->Option (List Ty)
 | []=>some []
 | x::l=>match f x,lA f l with
  | some y,some a=>some (y::a)
  | _,_=>none
def pA (s:List Ty):Nat->Ty->Option Ty
 | 0,_=>none
 | n+1,t=>match(if t.kind=9 then bW s t else some (.mk 0 0 [])) with
  | none=>none
  | some x=>if x.kind≠0 then pA s n x else match lA (pA s n) t.args with
   | some l=>some (.mk t.kind t.id l)
   | none=>none
end Go.Fr.Try
