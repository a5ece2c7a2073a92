/- Part of the proofs of the statements of this seat. -/
import Derived.Test.YthfdbepkalpplaaFW2
import Derived.Test.YthfdbepkalpplaaUnCode
set_option maxRecDepth 10000
set_option linter.unusedVariables false
set_option linter.unusedSimpArgs false
namespace Go.Fr.Try
open Go Go.RowKit Go.Proofs Go.Fr Go.Fr.T Go.Fr.Api
noncomputable abbrev P:Program:=Try.prog
abbrev aT (x:Ty):C:=.agg [IC x.kind,IC x.id,.sl (x.args.map aM)]
theorem Ru (t:Ty):C.agg (aM t)=aT t:=xo C.agg (iM t)
noncomputable def zw (p:Prop):Bool:=@decide p (Classical.propDecidable p)
theorem oM {p:Prop}:zw p=true↔p:=by unfold zw;exact @decide_eq_true_iff p (Classical.propDecidable p)
theorem Gv {p:Prop}(h:zw p=true):p:=oM.1 h
theorem KZ {p:Prop}(h:zw p=false):¬p:=fun q=>by rw[oM.2 q] at h;cases h
theorem gM {p:Prop}(h:¬p):false=zw p:=by
 cases e:zw p with
 | true=>exact vv (Gv e) h
 | false=>rfl
theorem oN {p:Prop}(h:p):true=zw p:=(oM.2 h).symm
theorem u4 {p q:Prop}(h:p↔q):zw p=zw q:=by rw[show p=q from propext h]
theorem OO {p q:Prop}[d:Decidable p] (h:p↔q):decide p=zw q:=by
 by_cases a:p
 ·rw[aaS a];exact oN (h.1 a)
 ·rw[aaT a];exact gM fun e=>a (h.2 e)
theorem Fb {c:Type}{a b:List c}(h:¬a.length=b.length):a≠b:=fun e=>h (by rw[e])
theorem tT {c:Type}{a b:List c}{n:Nat}(d:a.length=n) (hb:b.length=n) (h:∀j<n,a[j]?=b[j]?):a=b:=by
 apply abQ;intro i
 by_cases hi:i<n
 ·exact h i hi
 ·rw[abn (by omega),abn (by omega)]
theorem Fc {c:Type}{a b:List c}{k:Nat}{x y:c}(h1:a[k]?=some x) (d:b[k]?=some y) (h:x≠y):a≠b:=fun e=>h (by rw[e,d] at h1;injection h1 with h1;exact h1.symm)
theorem yA {d:Type}{a b:List d}{k:Nat}{x y:d}(h:∀j<k,a[j]?=b[j]?) (h1:a[k]?=some x) (f:b[k]?=some y) (e:x=y):∀j<k+1,a[j]?=b[j]?:=by
 intro j l
 by_cases c:j=k
 ·rw[c,h1,f,e]
 ·exact h j (by omega)
theorem j8 {a:Type}{l:List a}{k:Nat}(h:k<l.length):∃x,l[k]?=some x:=⟨l[k],aaQ h⟩
theorem AR {x y:Ty}(h0:x.kind=y.kind) (h1:x.id=y.id) (a:x.args=y.args):x=y:=by
 cases x;cases y
 simp_all [Ty.kind,Ty.id,Ty.args]
theorem Gw {x t:Ty}(h:x∈t.args):SizeOf.sizeOf x<SizeOf.sizeOf t:=by
 cases t;have:=List.sizeOf_lt_of_mem h;simp only[Ty.args] at this;simp only[Ty.mk.sizeOf_spec];omega
theorem dL {p:Ty->Prop}(h:∀t:Ty,(∀x∈t.args,p x)->p t):∀t,p t:=by
 have:∀(n:Nat) (t:Ty),SizeOf.sizeOf t<n->p t:=by
  intro n
  induction n with
  | zero=>intro t a;exact vv a (abB _)
  | succ n b=>exact fun t a=>h t fun x c=>b x (by have:=Gw c;omega)
 exact fun t=>this _ t (abU _)
theorem gO {l:List Ty}(h:Wf (.sl (l.map aM))):l.length<=9223372036854775807:=Nq h
theorem iG {a:Type}{l:List a}{k:Nat}{x:a}(b:l[k]?=some x):l.take (k+1)=l.take k++[x]:=by
 rw[List.take_add_one,b];rfl
mutual
def few:Ty->Int->Int
 | .mk _ _ l,m=>mG l m 1
def mG:List Ty->Int->Int->Int
 | [],_,n=>n
 | x::l,m,n=>if n<=m then mG l m (n+few x (m-n)) else n
end
mutual
theorem Fe:∀(t:Ty) (m:Int),0<=m->1<=few t m/\few t m<=m+1
 | .mk _ _ l,m,h=>by
  rw[few];exact Gx l m 1 h (by omega) (by omega)
theorem Gx:∀(l:List Ty) (m n:Int),0<=m->1<=n->n<=m+1->1<=mG l m n/\mG l m n<=m+1
 | [],m,n,_,h1,h2=>by rw[mG];exact⟨h1,h2⟩
 | x::l,m,n,h0,h1,h2=>by
  rw[mG];split
  ·have:=Fe x (m-n) (by omega);exact Gx l m _ h0 (by omega) (by omega)
  ·exact⟨h1,h2⟩
end
theorem Ij {l:List Ty}{m n:Int}(h:¬n<=m):mG l m n=n:=by
 cases l with
 | nil=>rw[mG]
 | cons x l=>rw[mG,q9 h]
def jJ (l:List Ty):Bool:=l.all (fun t=>decide (few t 30<=30))&&decide ((l.length:Int)<=8)
mutual
def cK:Ty->Nat
 | .mk _ _ l=>cS l+1
def cS:List Ty->Nat
 | []=>0
 | t::l=>max (cK t) (cS l)
end
theorem dH (t:Ty):cK t=cS t.args+1:=by cases t;rfl
theorem AU:∀(l:List Ty) (x:Ty),cS (l++[x])=max (cS l) (cK x)
 | [],x=>by simp[cS]
 | t::l,x=>by rw[aa4,cS,AU l x,cS];omega
theorem Ik (l:List Ty) (k:Nat):cS (l.take k)<=cS l:=by
 induction l generalizing k with
 | nil=>simp[cS]
 | cons t l a =>
  cases k with
  | zero=>simp[cS]
  | succ k=>rw[List.take_succ_cons,cS,cS];have:=a k;omega
theorem lF:∀{l:List Ty}{x:Ty},x∈l->cK x<=cS l
 | t::l,x,h=>by
  rw[cS];rcases aaW.1 h with rfl | h
  ·omega
  ·have:=lF h;omega
theorem wE {l:List Ty}{n:Nat}(h:∀x∈l,cK x<=n):cS l<=n:=by
 induction l with
 | nil=>simp[cS]
 | cons t l a =>
  rw[cS];have h1:=h t (by simp);have c:=a fun x b=>h x (by simp[b]);omega
mutual
def ins (n:Int):Ty->Bool
 | .mk k i l=>if k<1\/9<k then false else if k=9 then decide (0<=i)&&decide (i<n)&&decide (l.length=0) else OP n l
def OP (n:Int):List Ty->Bool
 | []=>true
 | t::l=>ins n t&&OP n l
end
theorem DF (n:Int):∀l:List Ty,OP n l=l.all (ins n)
 | []=>rfl
 | t::l=>by rw[OP,DF n l,abf]
theorem u5 (n:Int) (t:Ty):ins n t=if t.kind<1\/9<t.kind then false else if t.kind=9 then decide (0<=t.id)&&decide (t.id<n)&&decide (t.args.length=0) else t.args.all (ins n):=by
 cases t;rw[ins,DF];rfl
mutual
def qm (n:Int):Ty->Bool
 | .mk k i l=>if k=5 then decide (0<=i)&&decide (i<n)&&decide (l.length=0) else Gy n l
def Gy (n:Int):List Ty->Bool
 | []=>true
 | t::l=>qm n t&&Gy n l
end
theorem AV (n:Int):∀l:List Ty,Gy n l=l.all (qm n)
 | []=>rfl
 | t::l=>by rw[Gy,AV n l,abf]
theorem yB (n:Int) (t:Ty):qm n t=if t.kind=5 then decide (0<=t.id)&&decide (t.id<n)&&decide (t.args.length=0) else t.args.all (qm n):=by
 cases t;rw[qm,AV];rfl
mutual
def hasB (n:Int):Ty->Bool
 | .mk k i l=>if k=5/\i=n then true else OQ n l
def OQ (n:Int):List Ty->Bool
 | []=>false
 | t::l=>hasB n t||OQ n l
end
theorem DG (n:Int):∀l:List Ty,OQ n l=l.any (hasB n)
 | []=>rfl
 | t::l=>by rw[OQ,DG n l,abF]
theorem Ci (n:Int) (t:Ty):hasB n t=if t.kind=5/\t.id=n then true else t.args.any (hasB n):=by
 cases t;rw[hasB,DG];rfl
def iN (t:Ty):Bool:=decide (1<=t.kind)&&decide (t.kind<=5)
mutual
def subst (a:List Ty):Ty->Ty
 | .mk k i l=>if k=5/\0<=i/\i<a.length then(a[i.toNat]?).getD (.mk 0 0 []) else .mk k i (Cj a l)
def Cj (a:List Ty):List Ty->List Ty
 | []=>[]
 | t::l=>subst a t::Cj a l
end
theorem yC (a:List Ty):∀l:List Ty,Cj a l=l.map (subst a)
 | []=>rfl
 | t::l=>by rw[Cj,yC a l];rfl
theorem subst_eq (a:List Ty) (t:Ty):subst a t=if t.kind=5/\0<=t.id/\t.id<a.length then(a[t.id.toNat]?).getD (.mk 0 0 []) else .mk t.kind t.id (t.args.map (subst a)):=by
 cases t;rw[subst,yC];rfl
mutual
def jl:Ty->Prop
 | .mk _ _ l=>l.length<=2 ^ 30/\K0 l
def K0:List Ty->Prop
 | []=>True
 | t::l=>jl t/\K0 l
end
theorem DH:∀l:List Ty,K0 l↔∀t∈l,jl t
 | []=>by simp[K0]
 | t::l=>by simp[K0,DH l]
theorem fS (t:Ty):jl t↔t.args.length<=2 ^ 30/\∀x∈t.args,jl x:=by
 cases t;rw[jl,DH];rfl
theorem Il {f:Ty}{s:List Ty}:s.map aM++[[IC f.kind,IC f.id,.sl (f.args.map aM)]]=(s++[f]).map aM:=by rw[abD,<-iM];rfl
theorem rH {els:List (List C)}{c:List C}{sz a:Nat}{K:Prop}(n:Nat) (d:c.length=sz) (b:els.length=n) (hb:a<=1024) (h:n<=2 ^ 30) (k:K):vQ els [c] sz a K :=
 ⟨fun es he=>(by rcases aaW.1 he with rfl | he;exact d;cases he),by rw[b];simp only[aa7,abN,maxLen];omega,by
  rw[b];simp only[aa7,abN];exact abx (Nat.mul_le_mul (show n+(0+1)<=2 ^ 31 by omega) hb) (by decide),k⟩
theorem su {L L1:TL}{k t sz:Nat}(h:L.get k=none) (h1:L1.get k=some (.row t sz [])):MR L L1 .nils (.rw k):=.inr (.inr (.inr (.inl ⟨rfl,k,t,sz,rfl,h,h1⟩)))
theorem DI {t sz:Nat}{a b:List (List C)}(h:a=b):TO.row t sz a=TO.row t sz b:=by rw[h]
theorem VY {a b:List (List C)}(h:a=b):C.sl a=C.sl b:=by rw[h]
theorem XS:∀(t:Ty) (m:Int),0<=m->m<=1000->CallsT P 46 [aT t,IC m] [] (aU [] (IC (few t m)))
 | .mk k i l,m,h0,h1=>by
  have z:∀x∈l,∀h:Int,0<=h->h<=1000->CallsT P 46 [aT x,IC h] [] (aU [] (IC (few x h))):=fun x v h a b=>XS x h a b;have p:=Fe;rw[few];show CallsT P 46 [.agg [IC k,IC i,.sl (l.map aM)],IC m] [] _;generalize o:few=few' at z p;have y:∀x r n,mG (x::r) m n=if n<=m then mG r m (n+few' x (m-n)) else n:=by
   intro x r n;rw[mG,o]
  refine af Try.func46 N8 rfl fun hw _=>?_;refine cu l.length 6 [5] (1:Int) (fun n=>[IC n]) (fun _=>[]) (fun k n=>mG (l.drop k) m n=mG l m 1/\1<=n/\n<=m+1) ⟨rfl,by omega,by omega⟩ (ak rfl) ⟨ak rfl,trivial⟩ trivial (fun _=>rfl) (fun _=>rfl) ?_;rintro j n hj ⟨d,ab,ac⟩ _ _ _;have aa:l.length<=9223372036854775807:=gO hw.1.2.2.1;refine ah (fun e=>?_) (fun f=>?_)
  ·have e:j<l.length:=by simpa using e
   refine aZ e fun x v u w=>?_;refine ah (fun q=>?_) (fun s=>?_)
   ·refine cP v ?_;refine Fit.aag (by omega) (by omega) ?_;refine bh (z x u (m-n) (by omega) (by omega)) rfl fun _=>?_;have hb:=p x (m-n) (by omega);refine Fit.aag (by omega) (by omega) ?_;refine Fit.aag (by omega) (by omega) ?_;refine⟨(j+1,n+few' x (m-n)),⟨e,?_,by omega,by omega⟩,⟨bS,ak rfl,trivial⟩,trivial,bV e⟩;rw[w,y,o5 q] at d;exact d
   ·have c:=d;rw[Ij s] at c;exact aC rfl (xo IC c)
  ·have f:¬j<l.length:=by simpa using f
   have c:=d;rw[bW f,mG] at c;exact aC rfl (xo IC c)
termination_by t=>SizeOf.sizeOf t
decreasing_by
 have:=List.sizeOf_lt_of_mem v;simp only[Ty.mk.sizeOf_spec];omega
theorem t12 (l:List Ty):CallsT P 12 [.sl (l.map aM)] [] (aU [] (.bool (jJ l))):=by
 have h31:∀x:Ty,CallsT P 46 [aT x,IC 30] [] (aU [] (IC (few x 30))):=fun x=>XS x 30 (by omega) (by omega);have h:jJ l=(l.all (fun t=>decide (few t 30<=30))&&decide ((l.length:Int)<=8)):=rfl;generalize few=fw at h31 h;refine af Try.func12 NM rfl fun u _=>?_;have o:l.length<=9223372036854775807:=gO u.1;have m:(l.map aM).length=l.length:=aaP _;refine cu l.length 3 [] () (fun _=>[]) (fun _=>[]) (fun k _=>(l.drop k).all (fun t=>decide (fw t 30<=30))=l.all (fun t=>decide (fw t 30<=30))) rfl (ak rfl) trivial trivial (fun _=>rfl) (fun _=>rfl) ?_;rintro k _ v d _ _ _;refine ah (fun c=>?_) (fun j=>?_)
 ·have c:k<l.length:=by simpa using c
  refine aZ c fun x s r n=>?_;refine cP s ?_;refine bh (h31 x) rfl fun _=>?_;have a:=d;rw[n,abf] at a;refine ah (fun p=>?_) (fun q=>?_)
  ·have e:false=jJ l:=by
    have f:decide (fw x 30<=30)=false:=aaT (by omega);rw[f,aaY] at a;rw[h,<-a,aaY]
   exact aC rfl (xo C.bool e)
  ·refine Fit.aag (by omega) (by omega) ?_;have f:decide (fw x 30<=30)=true:=aaS (by omega);have b:=a;rw[f,aaV] at b;exact⟨(k+1,()),⟨c,b⟩,⟨bS,trivial⟩,trivial,bV c⟩
 ·have j:¬k<l.length:=by simpa using j
  have e:decide (((l.map aM).length:Int)<=8)=jJ l:=by
   rw[bW j,List.all_nil] at d;rw[h,<-d,aaV,m]
  exact aC rfl (xo C.bool e)
theorem t51 (t:Ty):CallsT P 51 [aT t] [] (aU [] (.bool (iN t))):=by
 have e:iN t=(decide (1<=t.kind)&&decide (t.kind<=5)):=rfl;refine af Try.func51 Ob rfl fun a _=>?_;refine ah (fun h=>?_) (fun h=>?_)
 ·exact aC rfl (xo C.bool (by rw[e,aaS (show(1:Int)<=t.kind from h),aaV]))
 ·exact aC rfl (xo C.bool (by rw[e,aaT (show¬(1:Int)<=t.kind from h),aaY]))
theorem XT (t:Ty):CallsT P 17 [aT t] [] (aU [] (.bool (iN t))):=by
 have e:iN t=(decide (1<=t.kind)&&decide (t.kind<=5)):=rfl;refine af Try.func17 NR rfl fun a _=>?_;refine ah (fun h=>?_) (fun h=>?_)
 ·exact aC rfl (xo C.bool (by rw[e,aaS (show(1:Int)<=t.kind from h),aaV]))
 ·exact aC rfl (xo C.bool (by rw[e,aaT (show¬(1:Int)<=t.kind from h),aaY]))
theorem SB:CallsT P 42 [] [] (aU [] (aT (.mk 1 0 []))):=by
 refine af Try.func42 NY rfl fun a _=>?_;exact aC rfl rfl
theorem t27 (n:Int):CallsT P 27 [IC n] [] (aU [] (aT (.mk 9 n []))):=by
 refine af Try.func27 NT rfl fun a _=>?_;exact aC rfl rfl
theorem Rv (k:Int) (t:Ty):CallsT P 44 [IC k,aT t] [] (aU [] (aT (.mk k 0 [t]))):=by
 refine af Try.func44 NZ rfl fun a _=>?_;have e:C.agg [IC k,IC 0,.sl [[IC t.kind,IC t.id,.sl (t.args.map aM)]]]=aT (.mk k 0 [t]):=by
  rw[<-iM];rfl
 exact aC rfl e
abbrev qo (f:Nat) (args:List C) (p:Prop):Prop:=CallsT P f args [] (aU [] (.bool (zw p)))
theorem SZ (a b:List (Ty)) (t:∀x∈a,∀y,qo 15 [aT x,aT y] (x=y)):qo 45 [.sl (a.map aM),.sl (b.map aM)] (a=b):=by
 refine af Try.func45 N0 rfl fun u _=>?_;have m:(a.map aM).length=a.length:=by simp
 have hb:(b.map aM).length=b.length:=by simp
 have v:a.length<=9223372036854775807:=by have:=gL u.1;rwa [m] at this
 refine aq (fun d=>?_) (fun d=>?_)
 ·have d:¬a.length=b.length:=fun e=>by
   rw[m,hb,e] at d;simp at d
  exact aC rfl (xo C.bool (gM (Fb d)))
 have d:a.length=b.length:=by
  rw[m,hb] at d;simp at d;omega
 refine cu a.length 5 [] () (fun _=>[]) (fun _=>[]) (fun k _=>∀j<k,a[j]?=b[j]?) (fun j s=>vv s (by omega)) (ak rfl) trivial trivial (fun _=>rfl) (fun _=>rfl) ?_;rintro k ⟨⟩ r f _ _ _;refine ah (fun c=>?_) (fun n=>?_)
 ·have c:k<a.length:=by rw[m] at c;omega
  refine fJ c fun x q p=>?_;refine fJ (l:=b) (k:=k) (by omega) fun y o _=>?_;refine cP q ?_;refine cP o ?_;refine bL (t x p y) rfl fun _=>?_;refine aq (fun h=>?_) (fun h=>?_)
  ·have h:¬x=y:=KZ (by simpa using h);exact aC rfl (xo C.bool (gM (Fc q o h)))
  ·have h:x=y:=Gv (by simpa using h);refine Fit.aag (by omega) (by omega) ?_;exact⟨(k+1,()),⟨c,yA f q o h⟩,⟨bS,trivial⟩,trivial,bV c⟩
 ·have n:¬k<a.length:=by rw[m] at n;omega
  have r:k=a.length:=by omega
  exact aC rfl (xo C.bool (oN (tT rfl d.symm (r▸f))))
theorem t15:∀x y:Ty,qo 15 [aT x,aT y] (x=y):=fun x=>dL (p:=fun x=>∀y,qo 15 [aT x,aT y] (x=y)) (fun x a y=>by
  refine af Try.func15 NP rfl fun b _=>?_;refine ah (fun h0=>?_) (fun h0=>aC rfl (xo C.bool (gM fun e=>h0 (by rw[e]))));refine ah (fun h1=>?_) (fun h1=>aC rfl (xo C.bool (gM fun e=>h1 (by rw[e]))));refine bh (SZ x.args y.args a) rfl fun _=>?_;exact aC rfl (xo C.bool (u4 ⟨fun h=>AR h0 h1 h,fun e=>by rw[e]⟩))) x
theorem t45 (a b:List Ty):qo 45 [.sl (a.map aM),.sl (b.map aM)] (a=b):=SZ a b fun x _ y=>t15 x y
theorem VZ (a b:List (Ty)) (t:∀x∈a,∀y,qo 68 [aT x,aT y] (x=y)):qo 67 [.sl (a.map aM),.sl (b.map aM),.fn 68 [] []] (a=b):=by
 refine af Try.func67 wD rfl fun u _=>?_;have m:(a.map aM).length=a.length:=by simp
 have hb:(b.map aM).length=b.length:=by simp
 have v:a.length<=9223372036854775807:=by have:=gL u.1;rwa [m] at this
 refine aq (fun d=>?_) (fun d=>?_)
 ·have d:¬a.length=b.length:=fun e=>by
   rw[m,hb,e] at d;simp at d
  exact aC rfl (xo C.bool (gM (Fb d)))
 have d:a.length=b.length:=by
  rw[m,hb] at d;simp at d;omega
 refine cu a.length 17 [] () (fun _=>[]) (fun _=>[]) (fun k _=>∀j<k,a[j]?=b[j]?) (fun j s=>vv s (by omega)) (ak rfl) trivial trivial (fun _=>rfl) (fun _=>rfl) ?_;rintro k ⟨⟩ r f _ _ _;refine ah (fun c=>?_) (fun n=>?_)
 ·have c:k<a.length:=by rw[m] at c;omega
  refine fJ c fun x q p=>?_;refine fJ (l:=b) (k:=k) (by omega) fun y o _=>?_;refine cP q ?_;refine cP o ?_;refine bh (t x p y) rfl fun _=>?_;refine aq (fun h=>?_) (fun h=>?_)
  ·have h:¬x=y:=KZ (by simpa using h);exact aC rfl (xo C.bool (gM (Fc q o h)))
  ·have h:x=y:=Gv (by simpa using h);refine Fit.aag (by omega) (by omega) ?_;exact⟨(k+1,()),⟨c,yA f q o h⟩,⟨bS,trivial⟩,trivial,bV c⟩
 ·have n:¬k<a.length:=by rw[m] at n;omega
  have r:k=a.length:=by omega
  exact aC rfl (xo C.bool (oN (tT rfl d.symm (r▸f))))
theorem t68:∀x y:Ty,qo 68 [aT x,aT y] (x=y):=fun x=>dL (p:=fun x=>∀y,qo 68 [aT x,aT y] (x=y)) (fun x a y=>by
  refine af Try.func68 Oe rfl fun b _=>?_;refine ah (fun h0=>?_) (fun h0=>aC rfl (xo C.bool (gM fun e=>h0 (by rw[e]))));refine ah (fun h1=>?_) (fun h1=>aC rfl (xo C.bool (gM fun e=>h1 (by rw[e]))));refine bh (VZ x.args y.args a) rfl fun _=>?_;exact aC rfl (xo C.bool (u4 ⟨fun h=>AR h0 h1 h,fun e=>by rw[e]⟩))) x
theorem cap (n:Nat):(n:Int)+1=((n+1:Nat):Int):=rfl
theorem S0 {n:Int}(h:-9223372036854775808<=n) (k:n<=9223372036854775807):Wf (IC n):=by
 simp only[Wf,Lit.wf,aaN,aa2,IntKind.min,IntKind.max,IntKind.signed,IntKind.bits];exact⟨by simpa using h,by simpa using by omega⟩
theorem V0 {a b:Nat}(h:a<=2 ^ 40) (k:b<=2 ^ 40):Wf (IC (if(b:Int)>(a:Int) then(b:Int) else(a:Int))):=S0 (by split<;>omega) (by split<;>omega)
theorem V1 {a b c:Nat}(h:max a b=c):(if(b:Int)>(a:Int) then(b:Int) else(a:Int))=(c:Int):=by
 split<;>omega
theorem S1:∀t:Ty,cK t<=2 ^ 40->CallsT P 47 [aT t] [] (aU [] (IC (cK t))):=dL fun t p y=>by
 have r:cS t.args<2 ^ 40:=by rw[dH] at y;omega
 have p:∀x∈t.args,CallsT P 47 [aT x] [] (aU [] (IC (cK x))):=fun x f=>p x f (by have:=lF f;omega);have s:=dH t;have h:∀k x,t.args[k]?=some x->cS (t.args.take (k+1))=max (cS (t.args.take k)) (cK x):=fun k x f=>by rw[iG f,AU]
 have l:=Ik t.args;have e:cS (t.args.take t.args.length)=cS t.args:=by rw[List.take_length]
 have h0:cS (t.args.take 0)=0:=rfl;generalize cS=D at h l e h0 s r;generalize cK=E at p s h;refine af Try.func47 N9 rfl fun z _=>?_;have u:t.args.length<=9223372036854775807:=gO z.1.2.2.1;have j:(t.args.map aM).length=t.args.length:=aaP _;refine cu t.args.length 9 [3] (0:Nat) (fun n=>[IC n]) (fun _=>[]) (fun k n=>n=D (t.args.take k)) h0.symm (ak rfl) ⟨ak rfl,trivial⟩ trivial (fun _=>rfl) (fun _=>rfl) ?_;rintro k n v m w _ _;refine ah (fun d=>?_) (fun o=>?_)
 ·have d:k<t.args.length:=by rw[j] at d;omega
  refine fJ d fun x f q=>?_;refine cP f ?_;refine bh (p x q) rfl fun _=>?_;have hm:=l (k+1);have hs:=h k x f;refine⟨?_,?_⟩
  ·exact V0 (a:=n) (b:=E x) (by omega) (by omega)
  refine Fit.aag (by omega) (by omega) ?_;exact⟨(k+1,D (t.args.take (k+1))),⟨d,rfl⟩,⟨bS,.inr (.inl ⟨xo IC (V1 (a:=n) (b:=E x) (c:=D (t.args.take (k+1))) (by omega)),rfl⟩),trivial⟩,trivial,bV d⟩
 ·have o:¬k<t.args.length:=by rw[j] at o;omega
  have v:k=t.args.length:=by omega
  rw[v,e] at m;refine Fit.aag (by omega) (by omega) ?_;exact aC rfl (xo IC (by omega))
theorem nS {a:Type}{p:a->Bool}{l:List a}{k:Nat}{x:a}(b:l.drop k=x::l.drop (k+1)) (hi:(l.drop k).all p=l.all p) (c:p x=true):(l.drop (k+1)).all p=l.all p:=by
 rw[b,abf,c,aaV] at hi;exact hi
theorem K1 {a:Type}{p:a->Bool}{l:List a}{k:Nat}{x:a}(b:l.drop k=x::l.drop (k+1)) (hi:(l.drop k).all p=l.all p) (c:p x=false):false=l.all p:=by
 rw[b,abf,c,aaY] at hi;exact hi
theorem Gz {a:Type}{p:a->Bool}{l:List a}{k:Nat}(h:¬k<l.length) (hi:(l.drop k).all p=l.all p):true=l.all p:=by
 rw[bW h,List.all_nil] at hi;exact hi
theorem V2 (a:List Ty) (t x:Ty) (h1:t.kind=5) (e:0<=t.id) (d:t.id<a.length) (c:a[t.id.toNat]?=some x):CallsT P 53 [aT t,.pt [.sl (a.map aM)] 0] [] (aU [] (.tup [aT x,.bool true])):=by
 have b:(a.map aM).length=a.length:=aaP _;refine af Try.func53 Gh rfl fun f _=>?_;refine ah (fun _=>?_) (fun q=>vv h1 q);refine ah (fun _=>?_) (fun q=>vv e q);refine ah (fun _=>?_) (fun q=>vv (by rw[b];exact d) q);refine(xo (fun z=>uI (a.map aM) z 3 _) (show t.id=(t.id.toNat:Int) by omega)).mpr ?_;refine cP c ?_;exact aC rfl rfl
theorem V3 (a:List Ty) (t:Ty) (h:¬(t.kind=5/\0<=t.id/\t.id<a.length)):CallsT P 53 [aT t,.pt [.sl (a.map aM)] 0] [] (aU [] (.tup [aT t,.bool false])):=by
 have b:(a.map aM).length=a.length:=aaP _;refine af Try.func53 Gh rfl fun e _=>?_;refine ah (fun h1=>ah (fun d=>ah (fun c=>vv ⟨h1,d,by rw[b] at c;exact c⟩ h) (fun _=>?_)) (fun _=>?_)) (fun _=>?_)
 all_goals exact aC rfl rfl
theorem V4 (els:List (List C)) (t x:Ty) (h:CallsT P 53 [aT t,.pt [.sl els] 0] [] (aU [] (.tup [aT x,.bool true]))):CallsT P 52 [aT t,.fn 53 [] [.pt [.sl els] 0]] [] (aU [] (aT x)):=by
 refine af Try.func52 Gg rfl fun a _=>?_;refine bh h rfl fun _=>?_;exact aC rfl rfl
theorem V5 (els:List (List C)) (t:Ty) (f:Ty->Ty) (hb:t.args.length<=2 ^ 30) (h:CallsT P 53 [aT t,.pt [.sl els] 0] [] (aU [] (.tup [aT t,.bool false])))
  (n:∀x∈t.args,CallsT P 52 [aT x,.fn 53 [] [.pt [.sl els] 0]] [] (aU [] (aT (f x)))):CallsT P 52 [aT t,.fn 53 [] [.pt [.sl els] 0]] [] (aU [] (aT (.mk t.kind t.id (t.args.map f)))):=by
 have c:(t.args.map aM).length=t.args.length:=aaP _;refine af Try.func52 Gg rfl fun p _=>?_;refine bh h rfl fun _=>?_;refine cu t.args.length 26 [] ([]:List Ty) (fun _=>[]) (fun s=>[(4,.box 32 [IC 0,IC 0,.nils]),(5,.box 32 [IC t.kind,IC t.id,.sl (t.args.map aM)]),(7,.box 32 [IC t.kind,IC t.id,.rw 36]),(36,.row 32 3 (s.map aM))]) (fun j s=>s=(t.args.take j).map f) (by simp) (ak rfl) trivial
  ⟨.inl ⟨_,rfl,.inl ⟨rfl,rfl⟩⟩,.inl ⟨_,rfl,.inl ⟨rfl,rfl⟩⟩,.inl ⟨_,rfl,.inr ⟨32,_,_,rfl,rfl,_,_,rfl,ak rfl,_,_,rfl,ak rfl,_,_,rfl,su rfl rfl,rfl⟩⟩,.inr ⟨rfl,32,3,rfl⟩,trivial⟩ (fun _=>rfl) (fun _=>rfl) ?_
 rintro j s o b _ _ _;refine ah (fun a=>?_) (fun d=>?_)
 ·have a:j<t.args.length:=by rw[c] at a;omega
  refine fJ a fun x l k=>?_;have m:(s.map aM).length=j:=by rw[b,aaP,aaP,abP];omega
  refine cP l ?_;refine bL (n x k) rfl fun _=>?_;refine rH j rfl m (by decide) (by omega) ?_;refine Fit.aag (by omega) (by omega) ?_;refine⟨(j+1,s++[f x]),⟨a,?_⟩,⟨bS,trivial⟩,⟨.inl ⟨_,rfl,.inl ⟨rfl,rfl⟩⟩,.inl ⟨_,rfl,.inl ⟨rfl,rfl⟩⟩,.inl ⟨_,rfl,.inl ⟨rfl,rfl⟩⟩,.inl ⟨_,rfl,.inl ⟨DI Il,rfl⟩⟩,trivial⟩,bV a⟩;show s++[f x]=(t.args.take (j+1)).map f;rw[iG l,b,abD];rfl
 ·have d:¬j<t.args.length:=by rw[c] at d;omega
  have e:C.agg [IC t.kind,IC t.id,.sl (s.map aM)]=aT (.mk t.kind t.id (t.args.map f)):=by
   rw[b,abC (by omega)];rfl
  exact HY [36] [] ⟨_,[],rfl,rfl,rfl,rfl,e⟩
theorem t52 (a:List Ty):∀t:Ty,jl t->CallsT P 52 [aT t,.fn 53 [] [.pt [.sl (a.map aM)] 0]] [] (aU [] (aT (subst a t))):=dL fun t e hb=>by
 have hb:=(fS t).1 hb;rw[subst_eq]
 by_cases h:t.kind=5/\0<=t.id/\t.id<a.length
 ·rw[o5 h];obtain⟨h1,d,c⟩:=h;obtain⟨x,b⟩:=j8 (l:=a) (k:=t.id.toNat) (by omega);rw[b];exact V4 _ t x (V2 a t x h1 d c b)
 ·rw[q9 h];exact V5 _ t _ hb.1 (V3 a t h) fun x b=>e x b (hb.2 x b)
theorem t16 (a:List Ty) (t:Ty) (hb:jl t):CallsT P 16 [.sl (a.map aM),aT t] [] (aU [] (aT (subst a t))):=by
 have h:=t52 a t hb;generalize subst a t=r at h ⊢;refine af Try.func16 NQ rfl fun b _=>?_;refine bh h rfl fun _=>?_;exact aC rfl rfl
def fidx (q:Ty->Bool):List Ty->Int->Int
 | [],_=>-1
 | x::l,k=>if q x then k else fidx q l (k+1)
theorem qp {q:Ty->Bool}{l:List Ty}{k:Nat}{x:Ty}{r:Int}(a:l.drop k=x::l.drop (k+1)) (hi:fidx q (l.drop k) k=r) (b:q x=true):(k:Int)=r:=by
 rw[a,fidx,o5 b] at hi;exact hi
theorem tU {q:Ty->Bool}{l:List Ty}{k:Nat}{x:Ty}{r:Int}(a:l.drop k=x::l.drop (k+1)) (hi:fidx q (l.drop k) k=r) (b:q x=false):fidx q (l.drop (k+1)) ((k+1:Nat):Int)=r:=by
 rw[a,fidx,q9 (by rw[b];exact abd)] at hi;exact hi
theorem qq {q:Ty->Bool}{l:List Ty}{k:Nat}{r:Int}(h:¬k<l.length) (hi:fidx q (l.drop k) k=r):(-1:Int)=r:=by
 rw[bW h,fidx] at hi;exact hi
theorem AW (q:Ty->Bool):∀(l:List Ty) (k:Int),0<=k->decide (0<=fidx q l k)=l.any q
 | [],k,_=>rfl
 | x::l,k,h=>by
  rw[fidx,abF];cases a:q x
  ·rw[q9 abd,Bool.false_or];exact AW q l (k+1) (by omega)
  ·rw[o5 rfl,Bool.true_or];exact aaS h
theorem qt (q:Ty->Bool) (l:List Ty):decide (fidx q l 0>=0)=l.any q:=AW q l 0 (abm _)
theorem S2 (es:List C) (pa:Int) (pc:List C) (l:List Ty) (q:Ty->Bool) (h:∀x∈l,CallsT P 50 [aT x,.pt es 0,.own 1000 0] [.box 39 [.fn 48 [] [.pt [IC pa] 0,.pt pc 0,.own 1000 0]]] (aU [.box 39 [.fn 48 [] [.pt [IC pa] 0,.pt pc 0,.own 1000 0]]] (.bool (q x)))) :
  CallsT P 92 [.sl (l.map aM),.fn 50 [] [.pt es 0,.own 1000 0]] [.box 39 [.fn 48 [] [.pt [IC pa] 0,.pt pc 0,.own 1000 0]]] (aU [.box 39 [.fn 48 [] [.pt [IC pa] 0,.pt pc 0,.own 1000 0]]] (IC (fidx q l 0))):=by
 have d:(l.map aM).length=l.length:=aaP _;refine af Try.func92 tM rfl fun o _=>?_;have m:l.length<=9223372036854775807:=gO o.1;refine cu l.length 8 [] () (fun _=>[]) (fun _=>[(1000,.box 39 [.fn 48 [] [.pt [IC pa] 0,.pt pc 0,.own 1000 0]])]) (fun k _=>fidx q (l.drop k) k=fidx q l 0) rfl (ak rfl) trivial ⟨.inl ⟨_,rfl,.inl ⟨rfl,rfl⟩⟩,trivial⟩ (fun _=>rfl) (fun _=>rfl) ?_;rintro k _ p b _ _ _;refine ah (fun a=>?_) (fun c=>?_)
 ·have a:k<l.length:=by rw[d] at a;omega
  refine aZ a fun x n j e=>?_;refine cP n ?_;refine callO [1000] [1000] (h x j) rfl rfl rfl rfl rfl fun _ _=>?_;refine aq (fun f=>?_) (fun f=>?_)
  ·exact bB [1000] rfl rfl rfl (xo IC (qp e b f))
  ·refine Fit.aag (by omega) (by omega) ?_;exact⟨(k+1,()),⟨a,tU e b f⟩,⟨bS,trivial⟩,⟨.inl ⟨_,rfl,.inl ⟨rfl,rfl⟩⟩,trivial⟩,bV a⟩
 ·have c:¬k<l.length:=by rw[d] at c;omega
  exact bB [1000] rfl rfl rfl (xo IC (qq c b))
theorem S3 (es:List C) (pa:Int) (pc:List C) (l:List Ty) (q:Ty->Bool) (h:∀x∈l,CallsT P 50 [aT x,.pt es 0,.own 1000 0] [.box 39 [.fn 48 [] [.pt [IC pa] 0,.pt pc 0,.own 1000 0]]] (aU [.box 39 [.fn 48 [] [.pt [IC pa] 0,.pt pc 0,.own 1000 0]]] (.bool (q x)))) :
  CallsT P 49 [.sl (l.map aM),.fn 50 [] [.pt es 0,.own 1000 0]] [.box 39 [.fn 48 [] [.pt [IC pa] 0,.pt pc 0,.own 1000 0]]] (aU [.box 39 [.fn 48 [] [.pt [IC pa] 0,.pt pc 0,.own 1000 0]]] (.bool (l.any q))):=by
 have a:=S2 es pa pc l q h;have e:=qt q l;generalize fidx q l 0=n at a e;refine af Try.func49 tK rfl fun b _=>?_;refine callO [1000] [1000] a rfl rfl rfl rfl rfl fun _ _=>?_;exact bB [1000] rfl rfl rfl (xo C.bool e)
def CG (ds:List Api.Data) (k i:Int):Option Int :=
 if k=1\/k=6 then some 0 else if k=2 then(if i<0\/(ds.length:Int)<=i then none else some ((ds[i.toNat]?).map (·.params) |>.getD 0)) else if k=3\/k=4\/k=8\/k=7 then some 1 else none
mutual
def vV (ds:List Api.Data) (pa:Int):Ty->Bool
 | .mk k i l=>if k=5 then decide (0<=i)&&decide (i<pa)&&decide (l.length=0) else
  match CG ds k i with
  | none=>false
  | some n=>if(k≠2/\i≠0)\/(l.length:Int)≠n then false else !UQ ds pa k l
def UQ (ds:List Api.Data) (pa:Int) (k:Int):List Ty->Bool
 | []=>false
 | x::l=>((!iN x&&!(decide (k=7)&&decide (x.kind=6)))||!vV ds pa x)||UQ ds pa k l
end
def Ff (ds:List Api.Data) (pa k:Int) (x:Ty):Bool:=(!iN x&&!(decide (k=7)&&decide (x.kind=6)))||!vV ds pa x
theorem GA (ds:List Api.Data) (pa k:Int):∀l:List Ty,UQ ds pa k l=l.any (Ff ds pa k)
 | []=>rfl
 | t::l=>by rw[UQ,GA ds pa k l,abF];rfl
theorem mA (ds:List Api.Data) (pa:Int) (t:Ty):vV ds pa t=if t.kind=5 then decide (0<=t.id)&&decide (t.id<pa)&&decide (t.args.length=0) else
  match CG ds t.kind t.id with
  | none=>false
  | some n=>if(t.kind≠2/\t.id≠0)\/(t.args.length:Int)≠n then false else !t.args.any (Ff ds pa t.kind):=by
 cases t;rw[vV,GA];rfl
abbrev F48 (pa:Int) (p:Prog):C:=.fn 48 [] [.pt [IC pa] 0,.pt (jU p) 0,.own 1000 0]
abbrev SC (pa:Int) (p:Prog):List TO:=[.box 39 [F48 pa p]]
abbrev vW (pa:Int) (p:Prog) (t:Ty) (b:Bool):Prop:=CallsT P 48 [aT t,.pt [IC pa] 0,.pt (jU p) 0,.own 1000 0] (SC pa p) (aU (SC pa p) (.bool b))
theorem t50 (pa:Int) (p:Prog) (t x:Ty) (b:Bool) (h:vW pa p x b) :
  CallsT P 50 [aT x,.pt [IC t.kind,IC t.id,.sl (t.args.map aM)] 0,.own 1000 0] (SC pa p) (aU (SC pa p) (.bool ((!iN x&&!(decide (t.kind=7)&&decide (x.kind=6)))||!b))):=by
 have c:=t51 x;generalize iN x=s at c ⊢;refine af Try.func50 Oa rfl fun d _=>?_;refine ah (fun h1=>?_) (fun h1=>?_)
 ·refine bh c rfl fun _=>?_;cases s
  ·refine aq (fun a=>?_) (fun a=>?_)
   ·refine bB [1000] rfl rfl rfl (xo C.bool ?_);have a:decide (x.kind=6)=false:=by simpa using a
    rw[a,aaS (show t.kind=7 from h1)];rfl
   ·refine callO [1000] [1000] h rfl rfl rfl rfl rfl fun _ _=>?_;refine bB [1000] rfl rfl rfl (xo C.bool ?_);have a:decide (x.kind=6)=true:=by simpa using a
    rw[a,aaS (show t.kind=7 from h1)];rfl
  ·refine callO [1000] [1000] h rfl rfl rfl rfl rfl fun _ _=>?_;exact bB [1000] rfl rfl rfl (xo C.bool rfl)
 ·refine bh c rfl fun _=>?_;cases s
  ·refine bB [1000] rfl rfl rfl (xo C.bool ?_);rw[aaT (show¬t.kind=7 from h1)];rfl
  ·refine callO [1000] [1000] h rfl rfl rfl rfl rfl fun _ _=>?_;exact bB [1000] rfl rfl rfl (xo C.bool rfl)
theorem OT {ds:List Api.Data}{z:Int}{d:Api.Data}{K:List C->Prop}(h0:0<=z) (a:ds[z.toNat]?=some d) (h:K [.str d.name,IC d.module,IC d.params,.sl (d.variants.map tP),IC d.drop]):uI (ds.map nR) z 5 K :=
 ⟨_,h0,by simp only[aa9,a,abq];rfl,rfl,h⟩
theorem tV {l:List Ty}:((l.map aM).length:Int)=(l.length:Int):=by rw[aaP]
theorem aX {p:Prop}[Decidable p] {A B:Prop}(h:¬p->A) (k:p->B):zq (!decide p) A B:=by
 by_cases a:p
 ·rw[aaS a];exact k a
 ·rw[aaT a];exact h a
structure Qi (pa:Int) (p:Prog) (t:Ty) (bad:Ty->Bool):Prop where
 h49:CallsT P 49 [.sl (t.args.map aM),.fn 50 [] [.pt [IC t.kind,IC t.id,.sl (t.args.map aM)] 0,.own 1000 0]] (SC pa p) (aU (SC pa p) (.bool (t.args.any bad)))
theorem S5 (pa:Int) (p:Prog) (t:Ty) (a:Ty->Bool) (X:Qi pa p t a) (d:t.kind=1):vW pa p t (if t.id≠0\/(t.args.length:Int)≠0 then false else !t.args.any a):=by
 refine af Try.func48 kD rfl fun e _=>?_;refine ah (fun _=>?_) (fun q=>vv (by omega) q);refine ah (fun _=>?_) (fun q=>vv (by omega) q);refine aX (fun _=>?_) (fun q=>vv q (by omega));refine aX (fun b=>?_) (fun b=>?_)
 ·exact bB [1000] rfl rfl rfl (xo C.bool (o5 (Or.inl b)).symm)
 refine aX (fun c=>?_) (fun c=>?_)
 ·exact bB [1000] rfl rfl rfl (xo C.bool (o5 (Or.inr (by rw[<-tV];exact c))).symm)
 refine callO [1000] [1000] X.h49 rfl rfl rfl rfl rfl fun _ _=>?_;exact bB [1000] rfl rfl rfl (xo C.bool (q9 (by rw[<-tV];exact fun q=>q.elim (fun q=>q b) (fun q=>q c))).symm)
theorem S6 (pa:Int) (p:Prog) (t:Ty) (a:Ty->Bool) (X:Qi pa p t a) (d:t.kind=6):vW pa p t (if t.id≠0\/(t.args.length:Int)≠0 then false else !t.args.any a):=by
 refine af Try.func48 kD rfl fun e _=>?_;refine ah (fun q=>vv q (by omega)) (fun _=>?_);refine ah (fun _=>?_) (fun q=>vv (by omega) q);refine aX (fun _=>?_) (fun q=>vv q (by omega));refine aX (fun b=>?_) (fun b=>?_)
 ·exact bB [1000] rfl rfl rfl (xo C.bool (o5 (Or.inl b)).symm)
 refine aX (fun c=>?_) (fun c=>?_)
 ·exact bB [1000] rfl rfl rfl (xo C.bool (o5 (Or.inr (by rw[<-tV];exact c))).symm)
 refine callO [1000] [1000] X.h49 rfl rfl rfl rfl rfl fun _ _=>?_;exact bB [1000] rfl rfl rfl (xo C.bool (q9 (by rw[<-tV];exact fun q=>q.elim (fun q=>q b) (fun q=>q c))).symm)
theorem S7 (pa:Int) (p:Prog) (t:Ty) (a:Ty->Bool) (X:Qi pa p t a) (d:t.kind=3):vW pa p t (if t.id≠0\/(t.args.length:Int)≠1 then false else !t.args.any a):=by
 refine af Try.func48 kD rfl fun e _=>?_;refine ah (fun q=>vv q (by omega)) (fun _=>?_);refine ah (fun q=>vv q (by omega)) (fun _=>?_);refine ah (fun q=>vv q (by omega)) (fun _=>?_);refine ah (fun q=>vv q (by omega)) (fun _=>?_);refine ah (fun _=>?_) (fun q=>vv (by omega) q);refine ah (fun _=>?_) (fun q=>vv (by omega) q);refine aX (fun _=>?_) (fun q=>vv q (by omega));refine aX (fun b=>?_) (fun b=>?_)
 ·exact bB [1000] rfl rfl rfl (xo C.bool (o5 (Or.inl b)).symm)
 refine aX (fun c=>?_) (fun c=>?_)
 ·exact bB [1000] rfl rfl rfl (xo C.bool (o5 (Or.inr (by rw[<-tV];exact c))).symm)
 refine callO [1000] [1000] X.h49 rfl rfl rfl rfl rfl fun _ _=>?_;exact bB [1000] rfl rfl rfl (xo C.bool (q9 (by rw[<-tV];exact fun q=>q.elim (fun q=>q b) (fun q=>q c))).symm)
theorem S8 (pa:Int) (p:Prog) (t:Ty) (a:Ty->Bool) (X:Qi pa p t a) (d:t.kind=4):vW pa p t (if t.id≠0\/(t.args.length:Int)≠1 then false else !t.args.any a):=by
 refine af Try.func48 kD rfl fun e _=>?_;refine ah (fun q=>vv q (by omega)) (fun _=>?_);refine ah (fun q=>vv q (by omega)) (fun _=>?_);refine ah (fun q=>vv q (by omega)) (fun _=>?_);refine ah (fun q=>vv q (by omega)) (fun _=>?_);refine ah (fun q=>vv q (by omega)) (fun _=>?_);refine ah (fun _=>?_) (fun q=>vv (by omega) q);refine ah (fun _=>?_) (fun q=>vv (by omega) q);refine aX (fun _=>?_) (fun q=>vv q (by omega));refine aX (fun b=>?_) (fun b=>?_)
 ·exact bB [1000] rfl rfl rfl (xo C.bool (o5 (Or.inl b)).symm)
 refine aX (fun c=>?_) (fun c=>?_)
 ·exact bB [1000] rfl rfl rfl (xo C.bool (o5 (Or.inr (by rw[<-tV];exact c))).symm)
 refine callO [1000] [1000] X.h49 rfl rfl rfl rfl rfl fun _ _=>?_;exact bB [1000] rfl rfl rfl (xo C.bool (q9 (by rw[<-tV];exact fun q=>q.elim (fun q=>q b) (fun q=>q c))).symm)
theorem S9 (pa:Int) (p:Prog) (t:Ty) (a:Ty->Bool) (X:Qi pa p t a) (d:t.kind=8):vW pa p t (if t.id≠0\/(t.args.length:Int)≠1 then false else !t.args.any a):=by
 refine af Try.func48 kD rfl fun e _=>?_;refine ah (fun q=>vv q (by omega)) (fun _=>?_);refine ah (fun q=>vv q (by omega)) (fun _=>?_);refine ah (fun q=>vv q (by omega)) (fun _=>?_);refine ah (fun q=>vv q (by omega)) (fun _=>?_);refine ah (fun q=>vv q (by omega)) (fun _=>?_);refine ah (fun q=>vv q (by omega)) (fun _=>?_);refine ah (fun _=>?_) (fun q=>vv (by omega) q);refine ah (fun _=>?_) (fun q=>vv (by omega) q);refine aX (fun _=>?_) (fun q=>vv q (by omega));refine aX (fun b=>?_) (fun b=>?_)
 ·exact bB [1000] rfl rfl rfl (xo C.bool (o5 (Or.inl b)).symm)
 refine aX (fun c=>?_) (fun c=>?_)
 ·exact bB [1000] rfl rfl rfl (xo C.bool (o5 (Or.inr (by rw[<-tV];exact c))).symm)
 refine callO [1000] [1000] X.h49 rfl rfl rfl rfl rfl fun _ _=>?_;exact bB [1000] rfl rfl rfl (xo C.bool (q9 (by rw[<-tV];exact fun q=>q.elim (fun q=>q b) (fun q=>q c))).symm)
theorem Ta (pa:Int) (p:Prog) (t:Ty) (a:Ty->Bool) (X:Qi pa p t a) (d:t.kind=7):vW pa p t (if t.id≠0\/(t.args.length:Int)≠1 then false else !t.args.any a):=by
 refine af Try.func48 kD rfl fun e _=>?_;refine ah (fun q=>vv q (by omega)) (fun _=>?_);refine ah (fun q=>vv q (by omega)) (fun _=>?_);refine ah (fun q=>vv q (by omega)) (fun _=>?_);refine ah (fun q=>vv q (by omega)) (fun _=>?_);refine ah (fun q=>vv q (by omega)) (fun _=>?_);refine ah (fun q=>vv q (by omega)) (fun _=>?_);refine ah (fun q=>vv q (by omega)) (fun _=>?_);refine ah (fun _=>?_) (fun q=>vv (by omega) q);refine aX (fun _=>?_) (fun q=>vv q (by omega));refine aX (fun b=>?_) (fun b=>?_)
 ·exact bB [1000] rfl rfl rfl (xo C.bool (o5 (Or.inl b)).symm)
 refine aX (fun c=>?_) (fun c=>?_)
 ·exact bB [1000] rfl rfl rfl (xo C.bool (o5 (Or.inr (by rw[<-tV];exact c))).symm)
 refine callO [1000] [1000] X.h49 rfl rfl rfl rfl rfl fun _ _=>?_;exact bB [1000] rfl rfl rfl (xo C.bool (q9 (by rw[<-tV];exact fun q=>q.elim (fun q=>q b) (fun q=>q c))).symm)
theorem Tc (pa:Int) (p:Prog) (t:Ty) (a:¬(1<=t.kind/\t.kind<=8)):vW pa p t false:=by
 refine af Try.func48 kD rfl fun b _=>?_;refine ah (fun q=>vv q (by omega)) (fun _=>?_);refine ah (fun q=>vv q (by omega)) (fun _=>?_);refine ah (fun q=>vv q (by omega)) (fun _=>?_);refine ah (fun q=>vv q (by omega)) (fun _=>?_);refine ah (fun q=>vv q (by omega)) (fun _=>?_);refine ah (fun q=>vv q (by omega)) (fun _=>?_);refine ah (fun q=>vv q (by omega)) (fun _=>?_);refine ah (fun q=>vv q (by omega)) (fun _=>?_);exact bB [1000] rfl rfl rfl rfl
theorem Td (pa:Int) (p:Prog) (t:Ty) (c:t.kind=5):vW pa p t (decide (0<=t.id)&&decide (t.id<pa)&&decide (t.args.length=0)):=by
 refine af Try.func48 kD rfl fun d _=>?_;refine ah (fun q=>vv q (by omega)) (fun _=>?_);refine ah (fun q=>vv q (by omega)) (fun _=>?_);refine ah (fun _=>?_) (fun q=>vv (by omega) q);refine ah (fun b=>?_) (fun b=>?_)
 ·refine ah (fun a=>?_) (fun a=>?_)
  ·exact bB [1000] rfl rfl rfl (xo C.bool (by rw[aaS (show(0:Int)<=t.id from b),aaS a,aaV,aaV];exact decide_eq_decide.2 (by rw[aaP];omega)))
  ·exact bB [1000] rfl rfl rfl (xo C.bool (by rw[aaT a,abk,aaY]))
 ·exact bB [1000] rfl rfl rfl (xo C.bool (by rw[aaT (show¬(0:Int)<=t.id from b),aaY,aaY]))
theorem Rw (pa:Int) (p:Prog) (t:Ty) (d:t.kind=2) (hi:t.id<0\/(p.datas.length:Int)<=t.id):vW pa p t false:=by
 have a:(p.datas.map nR).length=p.datas.length:=aaP _;refine af Try.func48 kD rfl fun e _=>?_;refine ah (fun q=>vv q (by omega)) (fun _=>?_);refine ah (fun q=>vv q (by omega)) (fun _=>?_);refine ah (fun q=>vv q (by omega)) (fun _=>?_);refine ah (fun _=>?_) (fun q=>vv (by omega) q);refine ah (fun c=>?_) (fun c=>?_)
 ·exact bB [1000] rfl rfl rfl rfl
 refine ah (fun b=>?_) (fun b=>vv (by rw[a];omega) b);exact bB [1000] rfl rfl rfl rfl
theorem Te (pa:Int) (p:Prog) (t:Ty) (a:Ty->Bool) (X:Qi pa p t a) (h:t.kind=2) (d:Api.Data) (h0:0<=t.id) (f:p.datas[t.id.toNat]?=some d):vW pa p t (if(t.args.length:Int)≠d.params then false else !t.args.any a):=by
 have c:(p.datas.map nR).length=p.datas.length:=aaP _;have j:t.id.toNat<p.datas.length:=(aaU.1 f).1;refine af Try.func48 kD rfl fun k _=>?_;refine ah (fun q=>vv q (by omega)) (fun _=>?_);refine ah (fun q=>vv q (by omega)) (fun _=>?_);refine ah (fun q=>vv q (by omega)) (fun _=>?_);refine ah (fun _=>?_) (fun q=>vv (by omega) q);refine ah (fun b=>vv h0 (by omega)) (fun b=>?_);refine ah (fun e=>vv e (by rw[c];omega)) (fun e=>?_);refine OT h0 f ?_;refine aX (fun q=>vv h q) (fun _=>?_);refine aX (fun b=>?_) (fun b=>?_)
 ·exact bB [1000] rfl rfl rfl (xo C.bool (o5 (by rw[<-tV];exact b)).symm)
 refine callO [1000] [1000] X.h49 rfl rfl rfl rfl rfl fun _ _=>?_;exact bB [1000] rfl rfl rfl (xo C.bool (q9 (by rw[<-tV];exact fun q=>q b)).symm)
theorem t48 (pa:Int) (p:Prog):∀t:Ty,vW pa p t (vV p.datas pa t):=dL fun t f=>by
 have X:Qi pa p t (Ff p.datas pa t.kind):=⟨S3 [IC t.kind,IC t.id,.sl (t.args.map aM)] pa (jU p) t.args (Ff p.datas pa t.kind) fun x h=>t50 pa p t x _ (f x h)⟩;rw[mA]
 by_cases c:t.kind=5
 ·rw[o5 c];exact Td pa p t c
 rw[q9 c,CG]
 by_cases h1:t.kind=1\/t.kind=6
 ·rw[o5 h1];simp only[ne_eq,show¬t.kind=2 by omega,not_false_eq_true,true_and];rcases h1 with h1 | h1
  ·exact S5 pa p t _ X h1
  ·exact S6 pa p t _ X h1
 rw[q9 h1]
 by_cases b:t.kind=2
 ·rw[o5 b]
  by_cases hi:t.id<0\/(p.datas.length:Int)<=t.id
  ·rw[o5 hi];exact Rw pa p t b hi
  ·rw[q9 hi];obtain⟨d,e⟩:=j8 (l:=p.datas) (k:=t.id.toNat) (by omega);rw[e];simp only[ne_eq,b,not_true_eq_false,false_and,false_or,abq,Option.getD_some];rw[<-b];exact Te pa p t _ X b d (by omega) e
 rw[q9 b]
 by_cases a:t.kind=3\/t.kind=4\/t.kind=8\/t.kind=7
 ·rw[o5 a];simp only[ne_eq,b,not_false_eq_true,true_and];rcases a with a | a | a | a
  ·exact S7 pa p t _ X a
  ·exact S8 pa p t _ X a
  ·exact S9 pa p t _ X a
  ·exact Ta pa p t _ X a
 ·rw[q9 a];exact Tc pa p t (by omega)
def iO (p:Prog) (pa:Int) (t:Ty):Bool:=if pa<0\/pa>4\/cK t>8 then false else vV p.datas pa t
theorem XU (pa:Int) (p:Prog) (t:Ty) (f:cK t<=2 ^ 40):CallsT P 14 [.agg (jU p),IC pa,aT t] [] (aU [] (.bool (iO p pa t))):=by
 have c:=S1 t f;have a:=t48 pa p t;rw[iO];generalize cK t=D at c ⊢;generalize vV p.datas pa t=b at a ⊢;refine af Try.func14 NN rfl fun h _=>?_;refine ah (fun h1=>?_) (fun h1=>?_)
 ·exact aC rfl (xo C.bool (o5 (Or.inl h1)).symm)
 refine ah (fun d=>?_) (fun d=>?_)
 ·exact aC rfl (xo C.bool (o5 (Or.inr (Or.inl d))).symm)
 refine bh c rfl fun _=>?_;refine ah (fun e=>?_) (fun e=>?_)
 ·exact aC rfl (xo C.bool (o5 (Or.inr (Or.inr (by omega)))).symm)
 refine callO [7] [7] a rfl rfl rfl rfl rfl fun _ _=>?_;exact aC rfl (xo C.bool (q9 (by omega)).symm)
section
variable {α:Type}
def bg:List (Int×α)->Int->Option α
 | [],_=>none
 | (k,v)::m,i=>if i=k then some v else bg m i
def dX:List (Int×α)->Int->α->List (Int×α)
 | [],i,x=>[(i,x)]
 | (k,v)::m,i,x=>if i=k then(i,x)::m else(k,v)::dX m i x
def i9 (f:α->C) (m:List (Int×α)):List (C×C):=m.map fun p=>(IC p.1,f p.2)
theorem Ck (f:α->C) (i:Int):∀m:List (Int×α),vA false (IC i) (i9 f m)=some ((bg m i).map f)
 | []=>rfl
 | (k,v)::m=>by
  have a:=Ck f i m;simp only[i9,aa0,vA,jF,bg] at a ⊢
  by_cases h:i=k
  ·rw[aaS h,o5 h];rfl
  ·rw[aaT h,q9 h];exact a
theorem K2 (f:α->C) (i:Int) (x:α):∀m:List (Int×α),EJ false (IC i) (f x) (i9 f m)=some (i9 f (dX m i x))
 | []=>rfl
 | (k,v)::m=>by
  have a:=K2 f i x m;simp only[i9,aa0,EJ,jF,dX] at a ⊢
  by_cases h:i=k
  ·rw[aaS h,o5 h];rfl
  ·rw[aaT h,q9 h];simp only[a];rfl
theorem ij (m:List (Int×α)) (i j:Int) (x:α):bg (dX m i x) j=if j=i then some x else bg m j:=by
 induction m with
 | nil =>
  simp only[dX,bg]
 | cons p m b =>
  obtain⟨k,v⟩:=p;simp only[dX]
  by_cases h:i=k
  ·rw[o5 h];simp only[bg];subst h
   by_cases a:j=i
   ·rw[o5 a,o5 a]
   ·rw[q9 a,q9 a,q9 a]
  ·rw[q9 h];simp only[bg,b]
   by_cases a:j=k
   ·rw[o5 a,o5 a,q9 (by omega)]
   ·rw[q9 a,q9 a]
theorem yD {f:α->C}{i:Int}{m:List (Int×α)}{Y:C->Prop}{N:Prop}{x:α}(h:bg m i=some x) (k:Y (f x)):xD false (i9 f m) (IC i) Y N :=
 ⟨.inl ⟨f x,by rw[Ck,h];rfl,k⟩⟩
theorem yE {f:α->C}{i:Int}{m:List (Int×α)}{Y:C->Prop}{N:Prop}(h:bg m i=none) (k:N):xD false (i9 f m) (IC i) Y N :=
 ⟨.inr ⟨by rw[Ck,h];rfl,k⟩⟩
theorem Im {f:α->C}{i:Int}{m:List (Int×α)}{K:List (C×C)->Prop}{x:α}{c:C}(e:c=f x) (k:K (i9 f (dX m i x))):P2 false (i9 f m) (IC i) c K :=
 ⟨_,by rw[e];exact K2 f i x m,k⟩
end
mutual
def eqB:Ty->Ty->Bool
 | .mk k i l,.mk k' i' l'=>decide (k=k')&&decide (i=i')&&Fg l l'
def Fg:List Ty->List Ty->Bool
 | [],[]=>true
 | x::l,y::l'=>eqB x y&&Fg l l'
 | _,_=>false
end
mutual
theorem oO:∀x y:Ty,eqB x y=true↔x=y
 | .mk k i l,.mk k' i' l'=>by
  rw[eqB,aaN,aaN,aa2,aa2,DJ l l'];simp only[Ty.mk.injEq,and_assoc]
theorem DJ:∀x y:List Ty,Fg x y=true↔x=y
 | [],[]=>by simp[Fg]
 | [],_::_=>by simp[Fg]
 | _::_,[]=>by simp[Fg]
 | x::l,y::l'=>by rw[Fg,aaN,oO x y,DJ l l',List.cons.injEq]
end
theorem Cl (x y:Ty):zw (x=y)=eqB x y:=by
 cases h:eqB x y with
 | true=>exact oM.2 ((oO x y).1 h)
 | false=>exact(gM fun e=>by rw[(oO x y).2 e] at h;cases h).symm
abbrev TM:=List (Int×Ty)
mutual
def jK (n:Int):Ty->Ty->TM->TM×Bool
 | .mk k i l,t,m=>if k=5 then(if i<0\/n<=i then(m,false) else match bg m i with
   | some x=>(m,eqB x t)
   | none=>(dX m i t,true))
  else if k=t.kind/\i=t.id then(if l.length=t.args.length then mH n l t.args m else(m,false)) else(m,false)
def mH (n:Int):List Ty->List Ty->TM->TM×Bool
 | [],_,m=>(m,true)
 | x::l,l',m=>match l' with
  | []=>(m,false)
  | y::l'=>match jK n x y m with
   | (m',true)=>mH n l l' m'
   | (m',false)=>(m',false)
end
def Io (n:Int) (p t:Ty) (m:TM):TM×Bool:=if p.kind=5 then(if p.id<0\/n<=p.id then(m,false) else match bg m p.id with
   | some x=>(m,eqB x t)
   | none=>(dX m p.id t,true))
  else if p.kind=t.kind/\p.id=t.id then(if p.args.length=t.args.length then mH n p.args t.args m else(m,false)) else(m,false)
theorem tW (n:Int) (p t:Ty) (m:TM):jK n p t m=Io n p t m:=by
 cases p;rw[jK];rfl
abbrev V6 (n:Int):C:=.fn 66 [] [.own 1000 0,.pt [IC n] 0,.own 1001 0]
abbrev UU (n:Int) (m:TM):List TO:=[.box 37 [V6 n],.box 101 [.mpr 1002],.map (i9 aT m)]
abbrev DK (n:Int) (p t:Ty) (m:TM) (r:TM×Bool):Prop:=CallsT P 66 [aT p,aT t,.own 1000 0,.pt [IC n] 0,.own 1001 0] (UU n m) (aU (UU n r.1) (.bool r.2))
abbrev Tf (n:Int) (a b:List Ty) (m:TM) (r:TM×Bool):Prop:=CallsT P 67 [.sl (a.map aM),.sl (b.map aM),V6 n] (UU n m) (aU (UU n r.1) (.bool r.2))
theorem V7 (n:Int) (a b:List Ty) (m:TM) (f:Ty->Ty->TM->TM×Bool) (j:List Ty->List Ty->TM->TM×Bool) (u:∀l m,j [] l m=(m,true)) (hz:∀x l y z m,j (x::l) (y::z) m=match f x y m with
   | (s,true)=>j l z s
   | (s,false)=>(s,false)) (ih:∀x∈a,∀y m,DK n x y m (f x y m)):Tf n a b m (if a.length=b.length then j a b m else(m,false)):=by
 have p:(a.map aM).length=a.length:=by simp
 have hb:(b.map aM).length=b.length:=by simp
 by_cases e:a.length=b.length
 ·rw[o5 e];generalize hr:j a b m=r;refine af Try.func67 wD rfl fun hw _=>?_;have hm:a.length<=9223372036854775807:=by have:=gL hw.1;rwa [p] at this
  refine aX (fun o=>vv (by rw[p,hb,e]) o) (fun o=>?_);refine cu a.length 17 [] m (fun _=>[]) (fun m=>[(1000,.box 37 [V6 n]),(1001,.box 101 [.mpr 1002]),(1002,.map (i9 aT m))]) (fun k m=>j (a.drop k) (b.drop k) m=r) hr (ak rfl) trivial
   ⟨.inl ⟨_,rfl,.inl ⟨rfl,rfl⟩⟩,.inl ⟨_,rfl,.inl ⟨rfl,rfl⟩⟩,.inl ⟨_,rfl,.inl ⟨rfl,rfl⟩⟩,trivial⟩ (fun _=>rfl) (fun _=>rfl) ?_
  rintro k m hk c _ _ _;refine ah (fun d=>?_) (fun h=>?_)
  ·have d:k<a.length:=by rw[p] at d;omega
   refine aZ d fun x hx t v=>?_;refine aZ (l:=b) (k:=k) (by omega) fun y hy _ w=>?_;have c:=c;rw[v,w,hz] at c;refine cP hx ?_;refine cP hy ?_;refine callO [1000,1001,1002] [1000,1001,1002] (ih x t y m) rfl rfl rfl rfl rfl fun _ _=>?_;generalize f x y m=q at c;obtain⟨s,q⟩:=q;cases q
   ·exact bB [1000,1001,1002] rfl rfl (by rw[<-c];rfl) (by rw[<-c];rfl)
   ·refine Fit.aag (by omega) (by omega) ?_;exact⟨(k+1,s),⟨d,c⟩,⟨bS,trivial⟩,⟨.inl ⟨_,rfl,.inl ⟨rfl,rfl⟩⟩,.inl ⟨_,rfl,.inl ⟨rfl,rfl⟩⟩,.inl ⟨_,rfl,.inl ⟨rfl,rfl⟩⟩,trivial⟩,bV d⟩
  ·have h:¬k<a.length:=by rw[p] at h;omega
   have c:=c;rw[bW h,u] at c;exact bB [1000,1001,1002] rfl rfl (by rw[<-c];rfl) (by rw[<-c];rfl)
 ·rw[q9 e];refine af Try.func67 wD rfl fun hw _=>?_;refine aX (fun o=>?_) (fun o=>vv (by rw[p,hb] at o;omega) e);exact bB [1000,1001,1002] rfl rfl rfl rfl
theorem V8 (n:Int) (p t:Ty) (m:TM) (r:TM×Bool) (a:¬p.kind=5) (h1:p.kind=t.kind) (b:p.id=t.id) (h:Tf n p.args t.args m r):DK n p t m r:=by
 refine af Try.func66 tL rfl fun c _=>?_;refine aX (fun _=>?_) (fun q=>vv q a);refine ah (fun _=>?_) (fun q=>vv h1 q);refine ah (fun _=>?_) (fun q=>vv b q);refine callO [1000,1001,1002] [1000,1001,1002] h rfl rfl rfl rfl rfl fun _ _=>?_;exact bB [1000,1001,1002] rfl rfl rfl rfl
theorem V9 (n:Int) (p t:Ty) (m:TM) (a:¬p.kind=5) (h1:¬(p.kind=t.kind/\p.id=t.id)):DK n p t m (m,false):=by
 refine af Try.func66 tL rfl fun d _=>?_;refine aX (fun _=>?_) (fun q=>vv q a);refine ah (fun b=>ah (fun c=>vv ⟨b,c⟩ h1) (fun _=>?_)) (fun _=>?_)
 all_goals exact bB [1000,1001,1002] rfl rfl rfl rfl
theorem Wc (n:Int) (p t:Ty) (m:TM) (a:p.kind=5) (h1:p.id<0\/n<=p.id):DK n p t m (m,false):=by
 refine af Try.func66 tL rfl fun d _=>?_;refine aX (fun q=>vv a q) (fun _=>?_);refine ah (fun b=>?_) (fun b=>ah (fun _=>?_) (fun c=>vv h1 (by omega)))
 all_goals exact bB [1000,1001,1002] rfl rfl rfl rfl
theorem Wd (n:Int) (p t x:Ty) (m:TM) (e:p.kind=5) (h1:¬(p.id<0\/n<=p.id)) (f:bg m p.id=some x):DK n p t m (m,eqB x t):=by
 have a:=t68 x t;rw[qo,Cl] at a;generalize eqB x t=b at a ⊢;refine af Try.func66 tL rfl fun h _=>?_;refine aX (fun q=>vv e q) (fun _=>?_);refine ah (fun c=>vv (Or.inl c) h1) (fun c=>ah (fun d=>vv (Or.inr d) h1) (fun d=>?_));refine yD f ?_;refine bh a rfl fun _=>?_;exact bB [1000,1001,1002] rfl rfl rfl rfl
theorem Wg (n:Int) (p t:Ty) (m:TM) (c:p.kind=5) (h1:¬(p.id<0\/n<=p.id)) (d:bg m p.id=none):DK n p t m (dX m p.id t,true):=by
 refine af Try.func66 tL rfl fun e _=>?_;refine aX (fun q=>vv c q) (fun _=>?_);refine ah (fun a=>vv (Or.inl a) h1) (fun a=>ah (fun b=>vv (Or.inr b) h1) (fun b=>?_));refine yE d ?_;refine Im (x:=t) rfl ?_;exact bB [1000,1001,1002] rfl rfl rfl rfl
theorem XV (n:Int):∀(p t:Ty) (m:TM),DK n p t m (jK n p t m):=fun p=>dL (p:=fun p=>∀(t:Ty) (m:TM),DK n p t m (jK n p t m)) (fun p c t m=>by
 rw[tW,Io]
 by_cases a:p.kind=5
 ·rw[o5 a]
  by_cases h1:p.id<0\/n<=p.id
  ·rw[o5 h1];exact Wc n p t m a h1
  rw[q9 h1];cases b:bg m p.id with
  | none=>exact Wg n p t m a h1 b
  | some x=>exact Wd n p t x m a h1 b
 ·rw[q9 a]
  by_cases h1:p.kind=t.kind/\p.id=t.id
  ·rw[o5 h1];refine V8 n p t m _ a h1.1 h1.2 ?_;exact V7 n p.args t.args m (jK n) (mH n) (fun l m=>by rw[mH]) (fun x l y d m=>by rw[mH]) c
  ·rw[q9 h1];exact V9 n p t m a h1) p
def bQ (s:List Ty) (t:Ty):Option Ty:=if t.id<0 then none else s[t.id.toNat]?
theorem bJ {s:List Ty}{t x:Ty}(h:bQ s t=some x):0<=t.id/\s[t.id.toNat]?=some x/\t.id.toNat<s.length:=by
 unfold bQ at h;split at h
 ·cases h
 ·exact⟨by omega,h,(aaU.1 h).1⟩
theorem K3 {s:List Ty}{t:Ty}(h0:0<=t.id) (h1:t.id<s.length):∃x,bQ s t=some x/\x∈s:=by
 unfold bQ;rw[q9 (by omega)];exact⟨s[t.id.toNat]'(by omega),aaQ _,List.getElem_mem _⟩
def aO (s:List Ty):Nat->Ty->Option Ty
 | 0,_=>none
 | n+1,t=>if t.kind=9 then(match bQ s t with
   | none=>none
   | some x=>if x.kind=0 then some t else aO s n x) else some t
def vX (f:Ty->Option Bool):List Ty->Option Bool
 | []=>some false
 | x::l=>match f x,vX f l with
  | some a,some b=>some (a||b)
  | _,_=>none
def kS (s:List Ty) (v:Int):Nat->Ty->Option Bool
 | 0,_=>none
 | n+1,t=>match aO s n t with
  | none=>none
  | some a=>if a.kind=9 then some (decide (a.id=v)) else vX (kS s v n) a.args
def j9 (f:List Ty->Ty->Ty->Option (Option (List Ty))):List Ty->List Ty->List Ty->Option (Option (List Ty))
 | s,[],_=>some (some s)
 | s,x::l,a=>match a with
  | []=>none
  | y::a=>match f s x y with
   | some (some s')=>j9 f s' l a
   | some none=>some none
   | none=>none
def lG:Nat->List Ty->Ty->Ty->Option (Option (List Ty))
 | 0,_,_,_=>none
 | n+1,s,a,b=>match aO s n a,aO s n b with
  | some a,some b =>
   if a.kind=9/\b.kind=9 then(if a.id=b.id then some (some s) else some (some (s.set (max a.id b.id).toNat (.mk 9 (min a.id b.id) []))))
   else if a.kind=9 then(match kS s a.id n b with
    | none=>none
    | some true=>some none
    | some false=>some (some (s.set a.id.toNat b)))
   else if b.kind=9 then lG n s b a
   else if a.kind≠b.kind\/a.id≠b.id\/a.args.length≠b.args.length then some none
   else j9 (lG n) s a.args b.args
  | _,_=>none
def zx (n:Int):Int:=IntKind.i64.wrap n
abbrev DM:=List (Int×Int)
abbrev OM:=List (Int×Bool)
def dW (f:Ty->DM->OM->Option (Option (Int×DM×OM))):List Ty->Int->DM->OM->Option (Option (Int×DM×OM))
 | [],k,d,o=>some (some (k,d,o))
 | x::l,k,d,o=>match f x d o with
  | some (some (a,b,o'))=>dW f l (if a>k then a else k) b o'
  | some none=>some none
  | none=>none
def bE (s:List Ty):Nat->Ty->DM->OM->Option (Option (Int×DM×OM))
 | 0,_,_,_=>none
 | n+1,t,d,o =>
  match(if t.kind=9 then bQ s t else some (.mk 0 0 [])) with
  | none=>none
  | some x=>if x.kind≠0 then(match bg d t.id with
    | some k=>some (some (k,d,o))
    | none=>match bg o t.id with
     | some true=>some none
     | _=>match bE s n x d (dX o t.id true) with
      | some (some (k,a,o'))=>some (some (k,dX a t.id k,o'))
      | some none=>some none
      | none=>none)
   else match dW (bE s n) t.args 0 d o with
    | some (some (k,a,o'))=>some (some (zx (k+1),a,o'))
    | some none=>some none
    | none=>none
def kY (f:Ty->Option Ty):List Ty->Option (List Ty)
 | []=>some []
 | x::l=>match f x,kY f l with
  | some y,some a=>some (y::a)
  | _,_=>none
def oP (s:List Ty):Nat->Ty->Option Ty
 | 0,_=>none
 | n+1,t=>match(if t.kind=9 then bQ s t else some (.mk 0 0 [])) with
  | none=>none
  | some x=>if x.kind≠0 then oP s n x else match kY (oP s n) t.args with
   | some l=>some (.mk t.kind t.id l)
   | none=>none
end Go.Fr.Try
