/- Part of the proofs of the statements of this seat. -/
import Derived.Test.YthfdbepkalpplaaFW2
import Derived.Test.YthfdbepkalpplaaUnCode
set_option maxRecDepth 10000
set_option linter.unusedVariables false
set_option linter.unusedSimpArgs false
namespace Go.Fr.Try
open Go Go.RowKit Go.Proofs Go.Fr Go.Fr.T Go.Fr.Api
noncomputable abbrev P:Program:=Try.prog
abbrev aR (x:Ty):C:=.agg [IC x.kind,IC x.id,.sl (x.args.map aG)]
theorem QS (t:Ty):C.agg (aG t)=aR t:=vv C.agg (f8 t)
noncomputable def rY (p:Prop):Bool:=@decide p (Classical.propDecidable p)
theorem oJ {p:Prop}:rY p=true↔p:=by unfold rY;exact @decide_eq_true_iff p (Classical.propDecidable p)
theorem Aq {p:Prop}(h:rY p=true):p:=oJ.1 h
theorem Kz {p:Prop}(h:rY p=false):¬p:=fun q=>by rw[oJ.2 q] at h;cases h
theorem gO {p:Prop}(h:¬p):false=rY p:=by
 cases e:rY p with
 | true=>exact o5 (Aq e) h
 | false=>rfl
theorem mL {p:Prop}(h:p):true=rY p:=(oJ.2 h).symm
theorem qM {p q:Prop}(h:p↔q):rY p=rY q:=by rw[show p=q from propext h]
theorem Ob {p q:Prop}[d:Decidable p] (h:p↔q):decide p=rY q:=by
 by_cases a:p
 ·rw[aaQ a];exact mL (h.1 a)
 ·rw[aaP a];exact gO fun e=>a (h.2 e)
theorem EW {c:Type}{a b:List c}(h:¬a.length=b.length):a≠b:=fun e=>h (by rw[e])
theorem tN {c:Type}{a b:List c}{n:Nat}(d:a.length=n) (hb:b.length=n) (h:∀j<n,a[j]?=b[j]?):a=b:=by
 apply abT;intro i
 by_cases hi:i<n
 ·exact h i hi
 ·rw[abo (by omega),abo (by omega)]
theorem EX {c:Type}{a b:List c}{k:Nat}{x y:c}(h1:a[k]?=some x) (d:b[k]?=some y) (h:x≠y):a≠b:=fun e=>h (by rw[e,d] at h1;injection h1 with h1;exact h1.symm)
theorem yq {d:Type}{a b:List d}{k:Nat}{x y:d}(h:∀j<k,a[j]?=b[j]?) (h1:a[k]?=some x) (f:b[k]?=some y) (e:x=y):∀j<k+1,a[j]?=b[j]?:=by
 intro j l
 by_cases c:j=k
 ·rw[c,h1,f,e]
 ·exact h j (by omega)
theorem kU {a:Type}{l:List a}{k:Nat}(h:k<l.length):∃x,l[k]?=some x:=⟨l[k],aaN h⟩
theorem Ar {x y:Ty}(h0:x.kind=y.kind) (h1:x.id=y.id) (a:x.args=y.args):x=y:=by
 cases x;cases y
 simp_all [Ty.kind,Ty.id,Ty.args]
theorem Gh {x t:Ty}(h:x∈t.args):SizeOf.sizeOf x<SizeOf.sizeOf t:=by
 cases t;have:=List.sizeOf_lt_of_mem h;simp only[Ty.args] at this;simp only[Ty.mk.sizeOf_spec];omega
theorem dJ {p:Ty->Prop}(h:∀t:Ty,(∀x∈t.args,p x)->p t):∀t,p t:=by
 have:∀(n:Nat) (t:Ty),SizeOf.sizeOf t<n->p t:=by
  intro n
  induction n with
  | zero=>intro t a;exact o5 a (aby _)
  | succ n b=>exact fun t a=>h t fun x c=>b x (by have:=Gh c;omega)
 exact fun t=>this _ t (abS _)
theorem fN {l:List Ty}(h:Wf (.sl (l.map aG))):l.length<=9223372036854775807:=MO h
theorem jo {a:Type}{l:List a}{k:Nat}{x:a}(b:l[k]?=some x):l.take (k+1)=l.take k++[x]:=by
 rw[List.take_add_one,b];rfl
mutual
def few:Ty->Int->Int
 | .mk _ _ l,m=>mD l m 1
def mD:List Ty->Int->Int->Int
 | [],_,n=>n
 | x::l,m,n=>if n<=m then mD l m (n+few x (m-n)) else n
end
mutual
theorem EY:∀(t:Ty) (m:Int),0<=m->1<=few t m/\few t m<=m+1
 | .mk _ _ l,m,h=>by
  rw[few];exact Gi l m 1 h (by omega) (by omega)
theorem Gi:∀(l:List Ty) (m n:Int),0<=m->1<=n->n<=m+1->1<=mD l m n/\mD l m n<=m+1
 | [],m,n,_,h1,h2=>by rw[mD];exact⟨h1,h2⟩
 | x::l,m,n,h0,h1,h2=>by
  rw[mD];split
  ·have:=EY x (m-n) (by omega);exact Gi l m _ h0 (by omega) (by omega)
  ·exact⟨h1,h2⟩
end
theorem HW {l:List Ty}{m n:Int}(h:¬n<=m):mD l m n=n:=by
 cases l with
 | nil=>rw[mD]
 | cons x l=>rw[mD,fL h]
def jH (l:List Ty):Bool:=l.all (fun t=>decide (few t 30<=30))&&decide ((l.length:Int)<=8)
mutual
def cn:Ty->Nat
 | .mk _ _ l=>ct l+1
def ct:List Ty->Nat
 | []=>0
 | t::l=>max (cn t) (ct l)
end
theorem cK (t:Ty):cn t=ct t.args+1:=by cases t;rfl
theorem uW:∀(l:List Ty) (x:Ty),ct (l++[x])=max (ct l) (cn x)
 | [],x=>by simp[ct]
 | t::l,x=>by rw[aa2,ct,uW l x,ct];omega
theorem Au (l:List Ty) (k:Nat):ct (l.take k)<=ct l:=by
 induction l generalizing k with
 | nil=>simp[ct]
 | cons t l a =>
  cases k with
  | zero=>simp[ct]
  | succ k=>rw[List.take_succ_cons,ct,ct];have:=a k;omega
theorem jI:∀{l:List Ty}{x:Ty},x∈l->cn x<=ct l
 | t::l,x,h=>by
  rw[ct];rcases aaT.1 h with rfl | h
  ·omega
  ·have:=jI h;omega
theorem tO {l:List Ty}{n:Nat}(h:∀x∈l,cn x<=n):ct l<=n:=by
 induction l with
 | nil=>simp[ct]
 | cons t l a =>
  rw[ct];have h1:=h t (by simp);have c:=a fun x b=>h x (by simp[b]);omega
mutual
def ins (n:Int):Ty->Bool
 | .mk k i l=>if k<1\/9<k then false else if k=9 then decide (0<=i)&&decide (i<n)&&decide (l.length=0) else Oc n l
def Oc (n:Int):List Ty->Bool
 | []=>true
 | t::l=>ins n t&&Oc n l
end
theorem DB (n:Int):∀l:List Ty,Oc n l=l.all (ins n)
 | []=>rfl
 | t::l=>by rw[Oc,DB n l,abd]
theorem uX (n:Int) (t:Ty):ins n t=if t.kind<1\/9<t.kind then false else if t.kind=9 then decide (0<=t.id)&&decide (t.id<n)&&decide (t.args.length=0) else t.args.all (ins n):=by
 cases t;rw[ins,DB];rfl
def iI (t:Ty):Bool:=decide (1<=t.kind)&&decide (t.kind<=5)
mutual
def subst (a:List Ty):Ty->Ty
 | .mk k i l=>if k=5/\0<=i/\i<a.length then(a[i.toNat]?).getD (.mk 0 0 []) else .mk k i (BX a l)
def BX (a:List Ty):List Ty->List Ty
 | []=>[]
 | t::l=>subst a t::BX a l
end
theorem yt (a:List Ty):∀l:List Ty,BX a l=l.map (subst a)
 | []=>rfl
 | t::l=>by rw[BX,yt a l];rfl
theorem subst_eq (a:List Ty) (t:Ty):subst a t=if t.kind=5/\0<=t.id/\t.id<a.length then(a[t.id.toNat]?).getD (.mk 0 0 []) else .mk t.kind t.id (t.args.map (subst a)):=by
 cases t;rw[subst,yt];rfl
mutual
def iN:Ty->Prop
 | .mk _ _ l=>l.length<=2 ^ 30/\KA l
def KA:List Ty->Prop
 | []=>True
 | t::l=>iN t/\KA l
end
theorem DC:∀l:List Ty,KA l↔∀t∈l,iN t
 | []=>by simp[KA]
 | t::l=>by simp[KA,DC l]
theorem fZ (t:Ty):iN t↔t.args.length<=2 ^ 30/\∀x∈t.args,iN x:=by
 cases t;rw[iN,DC];rfl
theorem HX {f:Ty}{s:List Ty}:s.map aG++[[IC f.kind,IC f.id,.sl (f.args.map aG)]]=(s++[f]).map aG:=by rw[abA,<-f8];rfl
theorem rB {els:List (List C)}{c:List C}{sz a:Nat}{K:Prop}(n:Nat) (e:c.length=sz) (d:els.length=n) (hb:a<=1024) (h:n<=2 ^ 30) (k:K):xj els [c] sz a K :=
 ⟨fun es b=>(by rcases aaT.1 b with rfl | b;exact e;cases b),by rw[d];simp only[aa7,abJ,maxLen];omega,by
  rw[d];simp only[aa7,abJ];exact abz (Nat.mul_le_mul (show n+(0+1)<=2 ^ 31 by omega) hb) (by decide),k⟩
theorem rZ {L L1:TL}{k t sz:Nat}(h:L.get k=none) (h1:L1.get k=some (.row t sz [])):Mn L L1 .nils (.rw k):=.inr (.inr (.inr (.inl ⟨rfl,k,t,sz,rfl,h,h1⟩)))
theorem DE {t sz:Nat}{a b:List (List C)}(h:a=b):TO.row t sz a=TO.row t sz b:=by rw[h]
theorem VA {a b:List (List C)}(h:a=b):C.sl a=C.sl b:=by rw[h]
theorem Xx:∀(t:Ty) (m:Int),0<=m->m<=1000->CallsT P 46 [aR t,IC m] [] (aT [] (IC (few t m)))
 | .mk k i l,m,h0,h1=>by
  have z:∀x∈l,∀h:Int,0<=h->h<=1000->CallsT P 46 [aR x,IC h] [] (aT [] (IC (few x h))):=fun x y h a b=>Xx x h a b;have o:=EY;rw[few];show CallsT P 46 [.agg [IC k,IC i,.sl (l.map aG)],IC m] [] _;generalize p:few=few' at z o;have s:∀x r n,mD (x::r) m n=if n<=m then mD r m (n+few' x (m-n)) else n:=by
   intro x r n;rw[mD,p]
  refine af Try.func46 Nv rfl fun hw _=>?_;refine cA l.length 6 [5] (1:Int) (fun n=>[IC n]) (fun _=>[]) (fun k n=>mD (l.drop k) m n=mD l m 1/\1<=n/\n<=m+1) ⟨rfl,by omega,by omega⟩ (ak rfl) ⟨ak rfl,trivial⟩ trivial (fun _=>rfl) (fun _=>rfl) ?_;rintro j n hj ⟨d,ad,ac⟩ _ _ _;have aa:l.length<=9223372036854775807:=fN hw.1.2.2.1;refine ah (fun e=>?_) (fun f=>?_)
  ·have e:j<l.length:=by simpa using e
   refine aW e fun x y q v=>?_;refine ah (fun w=>?_) (fun u=>?_)
   ·refine cH y ?_;refine Fit.aag (by omega) (by omega) ?_;refine bf (z x q (m-n) (by omega) (by omega)) rfl fun _=>?_;have hb:=o x (m-n) (by omega);refine Fit.aag (by omega) (by omega) ?_;refine Fit.aag (by omega) (by omega) ?_;refine⟨(j+1,n+few' x (m-n)),⟨e,?_,by omega,by omega⟩,⟨bU,ak rfl,trivial⟩,trivial,bX e⟩;rw[v,s,fo w] at d;exact d
   ·have c:=d;rw[HW u] at c;exact aC rfl (vv IC c)
  ·have f:¬j<l.length:=by simpa using f
   have c:=d;rw[bS f,mD] at c;exact aC rfl (vv IC c)
termination_by t=>SizeOf.sizeOf t
decreasing_by
 have:=List.sizeOf_lt_of_mem y;simp only[Ty.mk.sizeOf_spec];omega
theorem Xy (l:List Ty):CallsT P 12 [.sl (l.map aG)] [] (aT [] (.bool (jH l))):=by
 have m:∀x:Ty,CallsT P 46 [aR x,IC 30] [] (aT [] (IC (few x 30))):=fun x=>Xx x 30 (by omega) (by omega);have h:jH l=(l.all (fun t=>decide (few t 30<=30))&&decide ((l.length:Int)<=8)):=rfl;generalize few=fw at m h;refine af Try.func12 Ng rfl fun q _=>?_;have p:l.length<=9223372036854775807:=fN q.1;have o:(l.map aG).length=l.length:=v5 _;refine cA l.length 3 [] () (fun _=>[]) (fun _=>[]) (fun k _=>(l.drop k).all (fun t=>decide (fw t 30<=30))=l.all (fun t=>decide (fw t 30<=30))) rfl (ak rfl) trivial trivial (fun _=>rfl) (fun _=>rfl) ?_;rintro k _ w b _ _ _;refine ah (fun d=>?_) (fun j=>?_)
 ·have d:k<l.length:=by simpa using d
  refine aW d fun x v r n=>?_;refine cH v ?_;refine bf (m x) rfl fun _=>?_;have a:=b;rw[n,abd] at a;refine ah (fun s=>?_) (fun u=>?_)
  ·have e:false=jH l:=by
    have f:decide (fw x 30<=30)=false:=aaP (by omega);rw[f,aaV] at a;rw[h,<-a,aaV]
   exact aC rfl (vv C.bool e)
  ·refine Fit.aag (by omega) (by omega) ?_;have f:decide (fw x 30<=30)=true:=aaQ (by omega);have c:=a;rw[f,aaS] at c;exact⟨(k+1,()),⟨d,c⟩,⟨bU,trivial⟩,trivial,bX d⟩
 ·have j:¬k<l.length:=by simpa using j
  have e:decide (((l.map aG).length:Int)<=8)=jH l:=by
   rw[bS j,List.all_nil] at b;rw[h,<-b,aaS,o]
  exact aC rfl (vv C.bool e)
theorem t51 (t:Ty):CallsT P 51 [aR t] [] (aT [] (.bool (iI t))):=by
 have e:iI t=(decide (1<=t.kind)&&decide (t.kind<=5)):=rfl;refine af Try.func51 Ny rfl fun a _=>?_;refine ah (fun h=>?_) (fun h=>?_)
 ·exact aC rfl (vv C.bool (by rw[e,aaQ (show(1:Int)<=t.kind from h),aaS]))
 ·exact aC rfl (vv C.bool (by rw[e,aaP (show¬(1:Int)<=t.kind from h),aaV]))
theorem Xz (t:Ty):CallsT P 17 [aR t] [] (aT [] (.bool (iI t))):=by
 have e:iI t=(decide (1<=t.kind)&&decide (t.kind<=5)):=rfl;refine af Try.func17 Nk rfl fun a _=>?_;refine ah (fun h=>?_) (fun h=>?_)
 ·exact aC rfl (vv C.bool (by rw[e,aaQ (show(1:Int)<=t.kind from h),aaS]))
 ·exact aC rfl (vv C.bool (by rw[e,aaP (show¬(1:Int)<=t.kind from h),aaV]))
theorem R0:CallsT P 42 [] [] (aT [] (aR (.mk 1 0 []))):=by
 refine af Try.func42 Ns rfl fun a _=>?_;exact aC rfl rfl
theorem Z4 (n:Int):CallsT P 27 [IC n] [] (aT [] (aR (.mk 9 n []))):=by
 refine af Try.func27 Nn rfl fun a _=>?_;exact aC rfl rfl
theorem QT (k:Int) (t:Ty):CallsT P 44 [IC k,aR t] [] (aT [] (aR (.mk k 0 [t]))):=by
 refine af Try.func44 Nt rfl fun a _=>?_;have e:C.agg [IC k,IC 0,.sl [[IC t.kind,IC t.id,.sl (t.args.map aG)]]]=aR (.mk k 0 [t]):=by
  rw[<-f8];rfl
 exact aC rfl e
abbrev pq (f:Nat) (args:List C) (p:Prop):Prop:=CallsT P f args [] (aT [] (.bool (rY p)))
theorem Sr (a b:List (Ty)) (s:∀x∈a,∀y,pq 15 [aR x,aR y] (x=y)):pq 45 [.sl (a.map aG),.sl (b.map aG)] (a=b):=by
 refine af Try.func45 Nu rfl fun u _=>?_;have m:(a.map aG).length=a.length:=by simp
 have hb:(b.map aG).length=b.length:=by simp
 have v:a.length<=9223372036854775807:=by have:=iG u.1;rwa [m] at this
 refine aq (fun d=>?_) (fun d=>?_)
 ·have d:¬a.length=b.length:=fun e=>by
   rw[m,hb,e] at d;simp at d
  exact aC rfl (vv C.bool (gO (EW d)))
 have d:a.length=b.length:=by
  rw[m,hb] at d;simp at d;omega
 refine cA a.length 5 [] () (fun _=>[]) (fun _=>[]) (fun k _=>∀j<k,a[j]?=b[j]?) (fun j t=>o5 t (by omega)) (ak rfl) trivial trivial (fun _=>rfl) (fun _=>rfl) ?_;rintro k ⟨⟩ r f _ _ _;refine ah (fun c=>?_) (fun n=>?_)
 ·have c:k<a.length:=by rw[m] at c;omega
  refine fM c fun x q o=>?_;refine fM (l:=b) (k:=k) (by omega) fun y p _=>?_;refine cH q ?_;refine cH p ?_;refine bJ (s x o y) rfl fun _=>?_;refine aq (fun h=>?_) (fun h=>?_)
  ·have h:¬x=y:=Kz (by simpa using h);exact aC rfl (vv C.bool (gO (EX q p h)))
  ·have h:x=y:=Aq (by simpa using h);refine Fit.aag (by omega) (by omega) ?_;exact⟨(k+1,()),⟨c,yq f q p h⟩,⟨bU,trivial⟩,trivial,bX c⟩
 ·have n:¬k<a.length:=by rw[m] at n;omega
  have r:k=a.length:=by omega
  exact aC rfl (vv C.bool (mL (tN rfl d.symm (r▸f))))
theorem XA:∀x y:Ty,pq 15 [aR x,aR y] (x=y):=fun x=>dJ (p:=fun x=>∀y,pq 15 [aR x,aR y] (x=y)) (fun x a y=>by
  refine af Try.func15 Ni rfl fun b _=>?_;refine ah (fun h0=>?_) (fun h0=>aC rfl (vv C.bool (gO fun e=>h0 (by rw[e]))));refine ah (fun h1=>?_) (fun h1=>aC rfl (vv C.bool (gO fun e=>h1 (by rw[e]))));refine bf (Sr x.args y.args a) rfl fun _=>?_;exact aC rfl (vv C.bool (qM ⟨fun h=>Ar h0 h1 h,fun e=>by rw[e]⟩))) x
theorem Z5 (a b:List Ty):pq 45 [.sl (a.map aG),.sl (b.map aG)] (a=b):=Sr a b fun x _ y=>XA x y
theorem VB (a b:List (Ty)) (s:∀x∈a,∀y,pq 68 [aR x,aR y] (x=y)):pq 67 [.sl (a.map aG),.sl (b.map aG),.fn 68 [] []] (a=b):=by
 refine af Try.func67 wu rfl fun u _=>?_;have m:(a.map aG).length=a.length:=by simp
 have hb:(b.map aG).length=b.length:=by simp
 have v:a.length<=9223372036854775807:=by have:=iG u.1;rwa [m] at this
 refine aq (fun d=>?_) (fun d=>?_)
 ·have d:¬a.length=b.length:=fun e=>by
   rw[m,hb,e] at d;simp at d
  exact aC rfl (vv C.bool (gO (EW d)))
 have d:a.length=b.length:=by
  rw[m,hb] at d;simp at d;omega
 refine cA a.length 17 [] () (fun _=>[]) (fun _=>[]) (fun k _=>∀j<k,a[j]?=b[j]?) (fun j t=>o5 t (by omega)) (ak rfl) trivial trivial (fun _=>rfl) (fun _=>rfl) ?_;rintro k ⟨⟩ r f _ _ _;refine ah (fun c=>?_) (fun n=>?_)
 ·have c:k<a.length:=by rw[m] at c;omega
  refine fM c fun x q o=>?_;refine fM (l:=b) (k:=k) (by omega) fun y p _=>?_;refine cH q ?_;refine cH p ?_;refine bf (s x o y) rfl fun _=>?_;refine aq (fun h=>?_) (fun h=>?_)
  ·have h:¬x=y:=Kz (by simpa using h);exact aC rfl (vv C.bool (gO (EX q p h)))
  ·have h:x=y:=Aq (by simpa using h);refine Fit.aag (by omega) (by omega) ?_;exact⟨(k+1,()),⟨c,yq f q p h⟩,⟨bU,trivial⟩,trivial,bX c⟩
 ·have n:¬k<a.length:=by rw[m] at n;omega
  have r:k=a.length:=by omega
  exact aC rfl (vv C.bool (mL (tN rfl d.symm (r▸f))))
theorem Z6:∀x y:Ty,pq 68 [aR x,aR y] (x=y):=fun x=>dJ (p:=fun x=>∀y,pq 68 [aR x,aR y] (x=y)) (fun x a y=>by
  refine af Try.func68 NC rfl fun b _=>?_;refine ah (fun h0=>?_) (fun h0=>aC rfl (vv C.bool (gO fun e=>h0 (by rw[e]))));refine ah (fun h1=>?_) (fun h1=>aC rfl (vv C.bool (gO fun e=>h1 (by rw[e]))));refine bf (VB x.args y.args a) rfl fun _=>?_;exact aC rfl (vv C.bool (qM ⟨fun h=>Ar h0 h1 h,fun e=>by rw[e]⟩))) x
theorem cap (n:Nat):(n:Int)+1=((n+1:Nat):Int):=rfl
theorem Ss {n:Int}(h:-9223372036854775808<=n) (k:n<=9223372036854775807):Wf (IC n):=by
 simp only[Wf,Lit.wf,xo,aaZ,IntKind.min,IntKind.max,IntKind.signed,IntKind.bits];exact⟨by simpa using h,by simpa using by omega⟩
theorem Uu {a b:Nat}(h:a<=2 ^ 40) (k:b<=2 ^ 40):Wf (IC (if(b:Int)>(a:Int) then(b:Int) else(a:Int))):=Ss (by split<;>omega) (by split<;>omega)
theorem Sv {a b c:Nat}(h:max a b=c):(if(b:Int)>(a:Int) then(b:Int) else(a:Int))=(c:Int):=by
 split<;>omega
theorem Z7:∀t:Ty,cn t<=2 ^ 40->CallsT P 18 [aR t] [] (aT [] (IC (cn t))):=dJ fun t p w=>by
 have r:ct t.args<2 ^ 40:=by rw[cK] at w;omega
 have p:∀x∈t.args,CallsT P 18 [aR x] [] (aT [] (IC (cn x))):=fun x h=>p x h (by have:=jI h;omega);have s:=cK t;have f:∀k x,t.args[k]?=some x->ct (t.args.take (k+1))=max (ct (t.args.take k)) (cn x):=fun k x h=>by rw[jo h,uW]
 have o:=Au t.args;have e:ct (t.args.take t.args.length)=ct t.args:=by rw[List.take_length]
 have h0:ct (t.args.take 0)=0:=rfl;generalize ct=D at f o e h0 s r;generalize cn=E at p s f;refine af Try.func18 Nl rfl fun z _=>?_;have u:t.args.length<=9223372036854775807:=fN z.1.2.2.1;have l:(t.args.map aG).length=t.args.length:=v5 _;refine cA t.args.length 4 [3] (0:Nat) (fun n=>[IC n]) (fun _=>[]) (fun k n=>n=D (t.args.take k)) h0.symm (ak rfl) ⟨ak rfl,trivial⟩ trivial (fun _=>rfl) (fun _=>rfl) ?_;rintro k n v j y _ _;refine ah (fun d=>?_) (fun m=>?_)
 ·have d:k<t.args.length:=by rw[l] at d;omega
  refine fM d fun x h q=>?_;refine cH h ?_;refine bf (p x q) rfl fun _=>?_;have hm:=o (k+1);have hs:=f k x h;refine⟨?_,?_⟩
  ·exact Uu (a:=n) (b:=E x) (by omega) (by omega)
  refine Fit.aag (by omega) (by omega) ?_;exact⟨(k+1,D (t.args.take (k+1))),⟨d,rfl⟩,⟨bU,.inr (.inl ⟨vv IC (Sv (a:=n) (b:=E x) (c:=D (t.args.take (k+1))) (by omega)),rfl⟩),trivial⟩,trivial,bX d⟩
 ·have m:¬k<t.args.length:=by rw[l] at m;omega
  have v:k=t.args.length:=by omega
  rw[v,e] at j;refine Fit.aag (by omega) (by omega) ?_;exact aC rfl (vv IC (by omega))
theorem Sw:∀t:Ty,cn t<=2 ^ 40->CallsT P 47 [aR t] [] (aT [] (IC (cn t))):=dJ fun t p w=>by
 have r:ct t.args<2 ^ 40:=by rw[cK] at w;omega
 have p:∀x∈t.args,CallsT P 47 [aR x] [] (aT [] (IC (cn x))):=fun x h=>p x h (by have:=jI h;omega);have s:=cK t;have f:∀k x,t.args[k]?=some x->ct (t.args.take (k+1))=max (ct (t.args.take k)) (cn x):=fun k x h=>by rw[jo h,uW]
 have o:=Au t.args;have e:ct (t.args.take t.args.length)=ct t.args:=by rw[List.take_length]
 have h0:ct (t.args.take 0)=0:=rfl;generalize ct=D at f o e h0 s r;generalize cn=E at p s f;refine af Try.func47 Nw rfl fun z _=>?_;have u:t.args.length<=9223372036854775807:=fN z.1.2.2.1;have l:(t.args.map aG).length=t.args.length:=v5 _;refine cA t.args.length 9 [3] (0:Nat) (fun n=>[IC n]) (fun _=>[]) (fun k n=>n=D (t.args.take k)) h0.symm (ak rfl) ⟨ak rfl,trivial⟩ trivial (fun _=>rfl) (fun _=>rfl) ?_;rintro k n v j y _ _;refine ah (fun d=>?_) (fun m=>?_)
 ·have d:k<t.args.length:=by rw[l] at d;omega
  refine fM d fun x h q=>?_;refine cH h ?_;refine bf (p x q) rfl fun _=>?_;have hm:=o (k+1);have hs:=f k x h;refine⟨?_,?_⟩
  ·exact Uu (a:=n) (b:=E x) (by omega) (by omega)
  refine Fit.aag (by omega) (by omega) ?_;exact⟨(k+1,D (t.args.take (k+1))),⟨d,rfl⟩,⟨bU,.inr (.inl ⟨vv IC (Sv (a:=n) (b:=E x) (c:=D (t.args.take (k+1))) (by omega)),rfl⟩),trivial⟩,trivial,bX d⟩
 ·have m:¬k<t.args.length:=by rw[l] at m;omega
  have v:k=t.args.length:=by omega
  rw[v,e] at j;refine Fit.aag (by omega) (by omega) ?_;exact aC rfl (vv IC (by omega))
theorem nP {a:Type}{p:a->Bool}{l:List a}{k:Nat}{x:a}(b:l.drop k=x::l.drop (k+1)) (hi:(l.drop k).all p=l.all p) (c:p x=true):(l.drop (k+1)).all p=l.all p:=by
 rw[b,abd,c,aaS] at hi;exact hi
theorem KC {a:Type}{p:a->Bool}{l:List a}{k:Nat}{x:a}(b:l.drop k=x::l.drop (k+1)) (hi:(l.drop k).all p=l.all p) (c:p x=false):false=l.all p:=by
 rw[b,abd,c,aaV] at hi;exact hi
theorem Gj {a:Type}{p:a->Bool}{l:List a}{k:Nat}(h:¬k<l.length) (hi:(l.drop k).all p=l.all p):true=l.all p:=by
 rw[bS h,List.all_nil] at hi;exact hi
theorem VD (a:List Ty) (t x:Ty) (h1:t.kind=5) (c:0<=t.id) (d:t.id<a.length) (e:a[t.id.toNat]?=some x):CallsT P 53 [aR t,.pt [.sl (a.map aG)] 0] [] (aT [] (.tup [aR x,.bool true])):=by
 have b:(a.map aG).length=a.length:=v5 _;refine af Try.func53 FY rfl fun f _=>?_;refine ah (fun _=>?_) (fun q=>o5 h1 q);refine ah (fun _=>?_) (fun q=>o5 c q);refine ah (fun _=>?_) (fun q=>o5 (by rw[b];exact d) q);refine(vv (fun z=>uE (a.map aG) z 3 _) (show t.id=(t.id.toNat:Int) by omega)).mpr ?_;refine cH e ?_;exact aC rfl rfl
theorem VE (a:List Ty) (t:Ty) (h:¬(t.kind=5/\0<=t.id/\t.id<a.length)):CallsT P 53 [aR t,.pt [.sl (a.map aG)] 0] [] (aT [] (.tup [aR t,.bool false])):=by
 have b:(a.map aG).length=a.length:=v5 _;refine af Try.func53 FY rfl fun e _=>?_;refine ah (fun h1=>ah (fun d=>ah (fun c=>o5 ⟨h1,d,by rw[b] at c;exact c⟩ h) (fun _=>?_)) (fun _=>?_)) (fun _=>?_)
 all_goals exact aC rfl rfl
theorem VF (els:List (List C)) (t x:Ty) (h:CallsT P 53 [aR t,.pt [.sl els] 0] [] (aT [] (.tup [aR x,.bool true]))):CallsT P 52 [aR t,.fn 53 [] [.pt [.sl els] 0]] [] (aT [] (aR x)):=by
 refine af Try.func52 FX rfl fun a _=>?_;refine bf h rfl fun _=>?_;exact aC rfl rfl
theorem VG (els:List (List C)) (t:Ty) (f:Ty->Ty) (hb:t.args.length<=2 ^ 30) (h:CallsT P 53 [aR t,.pt [.sl els] 0] [] (aT [] (.tup [aR t,.bool false])))
  (m:∀x∈t.args,CallsT P 52 [aR x,.fn 53 [] [.pt [.sl els] 0]] [] (aT [] (aR (f x)))):CallsT P 52 [aR t,.fn 53 [] [.pt [.sl els] 0]] [] (aT [] (aR (.mk t.kind t.id (t.args.map f)))):=by
 have c:(t.args.map aG).length=t.args.length:=v5 _;refine af Try.func52 FX rfl fun p _=>?_;refine bf h rfl fun _=>?_;refine cA t.args.length 26 [] ([]:List Ty) (fun _=>[]) (fun s=>[(4,.box 32 [IC 0,IC 0,.nils]),(5,.box 32 [IC t.kind,IC t.id,.sl (t.args.map aG)]),(7,.box 32 [IC t.kind,IC t.id,.rw 36]),(36,.row 32 3 (s.map aG))]) (fun j s=>s=(t.args.take j).map f) (by simp) (ak rfl) trivial
  ⟨.inl ⟨_,rfl,.inl ⟨rfl,rfl⟩⟩,.inl ⟨_,rfl,.inl ⟨rfl,rfl⟩⟩,.inl ⟨_,rfl,.inr ⟨32,_,_,rfl,rfl,_,_,rfl,ak rfl,_,_,rfl,ak rfl,_,_,rfl,rZ rfl rfl,rfl⟩⟩,.inr ⟨rfl,32,3,rfl⟩,trivial⟩ (fun _=>rfl) (fun _=>rfl) ?_
 rintro j s o a _ _ _;refine ah (fun b=>?_) (fun d=>?_)
 ·have b:j<t.args.length:=by rw[c] at b;omega
  refine fM b fun x l k=>?_;have n:(s.map aG).length=j:=by rw[a,v5,v5,abL];omega
  refine cH l ?_;refine bJ (m x k) rfl fun _=>?_;refine rB j rfl n (by decide) (by omega) ?_;refine Fit.aag (by omega) (by omega) ?_;refine⟨(j+1,s++[f x]),⟨b,?_⟩,⟨bU,trivial⟩,⟨.inl ⟨_,rfl,.inl ⟨rfl,rfl⟩⟩,.inl ⟨_,rfl,.inl ⟨rfl,rfl⟩⟩,.inl ⟨_,rfl,.inl ⟨rfl,rfl⟩⟩,.inl ⟨_,rfl,.inl ⟨DE HX,rfl⟩⟩,trivial⟩,bX b⟩;show s++[f x]=(t.args.take (j+1)).map f;rw[jo l,a,abA];rfl
 ·have d:¬j<t.args.length:=by rw[c] at d;omega
  have e:C.agg [IC t.kind,IC t.id,.sl (s.map aG)]=aR (.mk t.kind t.id (t.args.map f)):=by
   rw[a,abF (by omega)];rfl
  exact HE [36] [] ⟨_,[],rfl,rfl,rfl,rfl,e⟩
theorem Z8 (a:List Ty):∀t:Ty,iN t->CallsT P 52 [aR t,.fn 53 [] [.pt [.sl (a.map aG)] 0]] [] (aT [] (aR (subst a t))):=dJ fun t e hb=>by
 have hb:=(fZ t).1 hb;rw[subst_eq]
 by_cases h:t.kind=5/\0<=t.id/\t.id<a.length
 ·rw[fo h];obtain⟨h1,c,d⟩:=h;obtain⟨x,b⟩:=kU (l:=a) (k:=t.id.toNat) (by omega);rw[b];exact VF _ t x (VD a t x h1 c d b)
 ·rw[fL h];exact VG _ t _ hb.1 (VE a t h) fun x b=>e x b (hb.2 x b)
theorem t16 (a:List Ty) (t:Ty) (hb:iN t):CallsT P 16 [.sl (a.map aG),aR t] [] (aT [] (aR (subst a t))):=by
 have h:=Z8 a t hb;generalize subst a t=r at h ⊢;refine af Try.func16 Nj rfl fun b _=>?_;refine bf h rfl fun _=>?_;exact aC rfl rfl
def fidx (q:Ty->Bool):List Ty->Int->Int
 | [],_=>-1
 | x::l,k=>if q x then k else fidx q l (k+1)
theorem qh {q:Ty->Bool}{l:List Ty}{k:Nat}{x:Ty}{r:Int}(a:l.drop k=x::l.drop (k+1)) (hi:fidx q (l.drop k) k=r) (b:q x=true):(k:Int)=r:=by
 rw[a,fidx,fo b] at hi;exact hi
theorem tP {q:Ty->Bool}{l:List Ty}{k:Nat}{x:Ty}{r:Int}(a:l.drop k=x::l.drop (k+1)) (hi:fidx q (l.drop k) k=r) (b:q x=false):fidx q (l.drop (k+1)) ((k+1:Nat):Int)=r:=by
 rw[a,fidx,fL (by rw[b];exact aa8)] at hi;exact hi
theorem qi {q:Ty->Bool}{l:List Ty}{k:Nat}{r:Int}(h:¬k<l.length) (hi:fidx q (l.drop k) k=r):(-1:Int)=r:=by
 rw[bS h,fidx] at hi;exact hi
theorem Av (q:Ty->Bool):∀(l:List Ty) (k:Int),0<=k->decide (0<=fidx q l k)=l.any q
 | [],k,_=>rfl
 | x::l,k,h=>by
  rw[fidx,abI];cases a:q x
  ·rw[fL aa8,Bool.false_or];exact Av q l (k+1) (by omega)
  ·rw[fo rfl,Bool.true_or];exact aaQ h
theorem qj (q:Ty->Bool) (l:List Ty):decide (fidx q l 0>=0)=l.any q:=Av q l 0 (abg _)
theorem Sy (es:List C) (pa:Int) (pc:List C) (l:List Ty) (q:Ty->Bool) (h:∀x∈l,CallsT P 50 [aR x,.pt es 0,.own 1000 0] [.box 39 [.fn 48 [] [.pt [IC pa] 0,.pt pc 0,.own 1000 0]]] (aT [.box 39 [.fn 48 [] [.pt [IC pa] 0,.pt pc 0,.own 1000 0]]] (.bool (q x)))) :
  CallsT P 92 [.sl (l.map aG),.fn 50 [] [.pt es 0,.own 1000 0]] [.box 39 [.fn 48 [] [.pt [IC pa] 0,.pt pc 0,.own 1000 0]]] (aT [.box 39 [.fn 48 [] [.pt [IC pa] 0,.pt pc 0,.own 1000 0]]] (IC (fidx q l 0))):=by
 have e:(l.map aG).length=l.length:=v5 _;refine af Try.func92 tH rfl fun n _=>?_;have m:l.length<=9223372036854775807:=fN n.1;refine cA l.length 8 [] () (fun _=>[]) (fun _=>[(1000,.box 39 [.fn 48 [] [.pt [IC pa] 0,.pt pc 0,.own 1000 0]])]) (fun k _=>fidx q (l.drop k) k=fidx q l 0) rfl (ak rfl) trivial ⟨.inl ⟨_,rfl,.inl ⟨rfl,rfl⟩⟩,trivial⟩ (fun _=>rfl) (fun _=>rfl) ?_;rintro k _ p a _ _ _;refine ah (fun b=>?_) (fun c=>?_)
 ·have b:k<l.length:=by rw[e] at b;omega
  refine aW b fun x o j d=>?_;refine cH o ?_;refine callO [1000] [1000] (h x j) rfl rfl rfl rfl rfl fun _ _=>?_;refine aq (fun f=>?_) (fun f=>?_)
  ·exact bq [1000] rfl rfl rfl (vv IC (qh d a f))
  ·refine Fit.aag (by omega) (by omega) ?_;exact⟨(k+1,()),⟨b,tP d a f⟩,⟨bU,trivial⟩,⟨.inl ⟨_,rfl,.inl ⟨rfl,rfl⟩⟩,trivial⟩,bX b⟩
 ·have c:¬k<l.length:=by rw[e] at c;omega
  exact bq [1000] rfl rfl rfl (vv IC (qi c a))
theorem Sz (es:List C) (pa:Int) (pc:List C) (l:List Ty) (q:Ty->Bool) (h:∀x∈l,CallsT P 50 [aR x,.pt es 0,.own 1000 0] [.box 39 [.fn 48 [] [.pt [IC pa] 0,.pt pc 0,.own 1000 0]]] (aT [.box 39 [.fn 48 [] [.pt [IC pa] 0,.pt pc 0,.own 1000 0]]] (.bool (q x)))) :
  CallsT P 49 [.sl (l.map aG),.fn 50 [] [.pt es 0,.own 1000 0]] [.box 39 [.fn 48 [] [.pt [IC pa] 0,.pt pc 0,.own 1000 0]]] (aT [.box 39 [.fn 48 [] [.pt [IC pa] 0,.pt pc 0,.own 1000 0]]] (.bool (l.any q))):=by
 have a:=Sy es pa pc l q h;have e:=qj q l;generalize fidx q l 0=n at a e;refine af Try.func49 tF rfl fun b _=>?_;refine callO [1000] [1000] a rfl rfl rfl rfl rfl fun _ _=>?_;exact bq [1000] rfl rfl rfl (vv C.bool e)
def Cy (ds:List Api.Data) (k i:Int):Option Int :=
 if k=1\/k=6 then some 0 else if k=2 then(if i<0\/(ds.length:Int)<=i then none else some ((ds[i.toNat]?).map (·.params) |>.getD 0)) else if k=3\/k=4\/k=8\/k=7 then some 1 else none
mutual
def wz (ds:List Api.Data) (pa:Int):Ty->Bool
 | .mk k i l=>if k=5 then decide (0<=i)&&decide (i<pa)&&decide (l.length=0) else
  match Cy ds k i with
  | none=>false
  | some n=>if(k≠2/\i≠0)\/(l.length:Int)≠n then false else !Uv ds pa k l
def Uv (ds:List Api.Data) (pa:Int) (k:Int):List Ty->Bool
 | []=>false
 | x::l=>((!iI x&&!(decide (k=7)&&decide (x.kind=6)))||!wz ds pa x)||Uv ds pa k l
end
def EZ (ds:List Api.Data) (pa k:Int) (x:Ty):Bool:=(!iI x&&!(decide (k=7)&&decide (x.kind=6)))||!wz ds pa x
theorem Gk (ds:List Api.Data) (pa k:Int):∀l:List Ty,Uv ds pa k l=l.any (EZ ds pa k)
 | []=>rfl
 | t::l=>by rw[Uv,Gk ds pa k l,abI];rfl
theorem mo (ds:List Api.Data) (pa:Int) (t:Ty):wz ds pa t=if t.kind=5 then decide (0<=t.id)&&decide (t.id<pa)&&decide (t.args.length=0) else
  match Cy ds t.kind t.id with
  | none=>false
  | some n=>if(t.kind≠2/\t.id≠0)\/(t.args.length:Int)≠n then false else !t.args.any (EZ ds pa t.kind):=by
 cases t;rw[wz,Gk];rfl
abbrev Z9 (pa:Int) (p:Prog):C:=.fn 48 [] [.pt [IC pa] 0,.pt (jT p) 0,.own 1000 0]
abbrev R2 (pa:Int) (p:Prog):List TO:=[.box 39 [Z9 pa p]]
abbrev vQ (pa:Int) (p:Prog) (t:Ty) (b:Bool):Prop:=CallsT P 48 [aR t,.pt [IC pa] 0,.pt (jT p) 0,.own 1000 0] (R2 pa p) (aT (R2 pa p) (.bool b))
theorem t50 (pa:Int) (p:Prog) (t x:Ty) (b:Bool) (h:vQ pa p x b) :
  CallsT P 50 [aR x,.pt [IC t.kind,IC t.id,.sl (t.args.map aG)] 0,.own 1000 0] (R2 pa p) (aT (R2 pa p) (.bool ((!iI x&&!(decide (t.kind=7)&&decide (x.kind=6)))||!b))):=by
 have c:=t51 x;generalize iI x=s at c ⊢;refine af Try.func50 Nx rfl fun d _=>?_;refine ah (fun h1=>?_) (fun h1=>?_)
 ·refine bf c rfl fun _=>?_;cases s
  ·refine aq (fun a=>?_) (fun a=>?_)
   ·refine bq [1000] rfl rfl rfl (vv C.bool ?_);have a:decide (x.kind=6)=false:=by simpa using a
    rw[a,aaQ (show t.kind=7 from h1)];rfl
   ·refine callO [1000] [1000] h rfl rfl rfl rfl rfl fun _ _=>?_;refine bq [1000] rfl rfl rfl (vv C.bool ?_);have a:decide (x.kind=6)=true:=by simpa using a
    rw[a,aaQ (show t.kind=7 from h1)];rfl
  ·refine callO [1000] [1000] h rfl rfl rfl rfl rfl fun _ _=>?_;exact bq [1000] rfl rfl rfl (vv C.bool rfl)
 ·refine bf c rfl fun _=>?_;cases s
  ·refine bq [1000] rfl rfl rfl (vv C.bool ?_);rw[aaP (show¬t.kind=7 from h1)];rfl
  ·refine callO [1000] [1000] h rfl rfl rfl rfl rfl fun _ _=>?_;exact bq [1000] rfl rfl rfl (vv C.bool rfl)
theorem Od {ds:List Api.Data}{z:Int}{d:Api.Data}{K:List C->Prop}(h0:0<=z) (a:ds[z.toNat]?=some d) (h:K [.str d.name,IC d.module,IC d.params,.sl (d.variants.map tK),IC d.drop]):uE (ds.map nO) z 5 K :=
 ⟨_,h0,by simp only[aa5,a,abl];rfl,rfl,h⟩
theorem tQ {l:List Ty}:((l.map aG).length:Int)=(l.length:Int):=by rw[v5]
theorem aS {p:Prop}[Decidable p] {A B:Prop}(h:¬p->A) (k:p->B):yX (!decide p) A B:=by
 by_cases a:p
 ·rw[aaQ a];exact k a
 ·rw[aaP a];exact h a
structure Pz (pa:Int) (p:Prog) (t:Ty) (bad:Ty->Bool):Prop where
 h49:CallsT P 49 [.sl (t.args.map aG),.fn 50 [] [.pt [IC t.kind,IC t.id,.sl (t.args.map aG)] 0,.own 1000 0]] (R2 pa p) (aT (R2 pa p) (.bool (t.args.any bad)))
theorem SA (pa:Int) (p:Prog) (t:Ty) (a:Ty->Bool) (X:Pz pa p t a) (e:t.kind=1):vQ pa p t (if t.id≠0\/(t.args.length:Int)≠0 then false else !t.args.any a):=by
 refine af Try.func48 kz rfl fun d _=>?_;refine ah (fun _=>?_) (fun q=>o5 (by omega) q);refine ah (fun _=>?_) (fun q=>o5 (by omega) q);refine aS (fun _=>?_) (fun q=>o5 q (by omega));refine aS (fun b=>?_) (fun b=>?_)
 ·exact bq [1000] rfl rfl rfl (vv C.bool (fo (Or.inl b)).symm)
 refine aS (fun c=>?_) (fun c=>?_)
 ·exact bq [1000] rfl rfl rfl (vv C.bool (fo (Or.inr (by rw[<-tQ];exact c))).symm)
 refine callO [1000] [1000] X.h49 rfl rfl rfl rfl rfl fun _ _=>?_;exact bq [1000] rfl rfl rfl (vv C.bool (fL (by rw[<-tQ];exact fun q=>q.elim (fun q=>q b) (fun q=>q c))).symm)
theorem SB (pa:Int) (p:Prog) (t:Ty) (a:Ty->Bool) (X:Pz pa p t a) (e:t.kind=6):vQ pa p t (if t.id≠0\/(t.args.length:Int)≠0 then false else !t.args.any a):=by
 refine af Try.func48 kz rfl fun d _=>?_;refine ah (fun q=>o5 q (by omega)) (fun _=>?_);refine ah (fun _=>?_) (fun q=>o5 (by omega) q);refine aS (fun _=>?_) (fun q=>o5 q (by omega));refine aS (fun b=>?_) (fun b=>?_)
 ·exact bq [1000] rfl rfl rfl (vv C.bool (fo (Or.inl b)).symm)
 refine aS (fun c=>?_) (fun c=>?_)
 ·exact bq [1000] rfl rfl rfl (vv C.bool (fo (Or.inr (by rw[<-tQ];exact c))).symm)
 refine callO [1000] [1000] X.h49 rfl rfl rfl rfl rfl fun _ _=>?_;exact bq [1000] rfl rfl rfl (vv C.bool (fL (by rw[<-tQ];exact fun q=>q.elim (fun q=>q b) (fun q=>q c))).symm)
theorem SC (pa:Int) (p:Prog) (t:Ty) (a:Ty->Bool) (X:Pz pa p t a) (e:t.kind=3):vQ pa p t (if t.id≠0\/(t.args.length:Int)≠1 then false else !t.args.any a):=by
 refine af Try.func48 kz rfl fun d _=>?_;refine ah (fun q=>o5 q (by omega)) (fun _=>?_);refine ah (fun q=>o5 q (by omega)) (fun _=>?_);refine ah (fun q=>o5 q (by omega)) (fun _=>?_);refine ah (fun q=>o5 q (by omega)) (fun _=>?_);refine ah (fun _=>?_) (fun q=>o5 (by omega) q);refine ah (fun _=>?_) (fun q=>o5 (by omega) q);refine aS (fun _=>?_) (fun q=>o5 q (by omega));refine aS (fun b=>?_) (fun b=>?_)
 ·exact bq [1000] rfl rfl rfl (vv C.bool (fo (Or.inl b)).symm)
 refine aS (fun c=>?_) (fun c=>?_)
 ·exact bq [1000] rfl rfl rfl (vv C.bool (fo (Or.inr (by rw[<-tQ];exact c))).symm)
 refine callO [1000] [1000] X.h49 rfl rfl rfl rfl rfl fun _ _=>?_;exact bq [1000] rfl rfl rfl (vv C.bool (fL (by rw[<-tQ];exact fun q=>q.elim (fun q=>q b) (fun q=>q c))).symm)
theorem SD (pa:Int) (p:Prog) (t:Ty) (a:Ty->Bool) (X:Pz pa p t a) (e:t.kind=4):vQ pa p t (if t.id≠0\/(t.args.length:Int)≠1 then false else !t.args.any a):=by
 refine af Try.func48 kz rfl fun d _=>?_;refine ah (fun q=>o5 q (by omega)) (fun _=>?_);refine ah (fun q=>o5 q (by omega)) (fun _=>?_);refine ah (fun q=>o5 q (by omega)) (fun _=>?_);refine ah (fun q=>o5 q (by omega)) (fun _=>?_);refine ah (fun q=>o5 q (by omega)) (fun _=>?_);refine ah (fun _=>?_) (fun q=>o5 (by omega) q);refine ah (fun _=>?_) (fun q=>o5 (by omega) q);refine aS (fun _=>?_) (fun q=>o5 q (by omega));refine aS (fun b=>?_) (fun b=>?_)
 ·exact bq [1000] rfl rfl rfl (vv C.bool (fo (Or.inl b)).symm)
 refine aS (fun c=>?_) (fun c=>?_)
 ·exact bq [1000] rfl rfl rfl (vv C.bool (fo (Or.inr (by rw[<-tQ];exact c))).symm)
 refine callO [1000] [1000] X.h49 rfl rfl rfl rfl rfl fun _ _=>?_;exact bq [1000] rfl rfl rfl (vv C.bool (fL (by rw[<-tQ];exact fun q=>q.elim (fun q=>q b) (fun q=>q c))).symm)
theorem SE (pa:Int) (p:Prog) (t:Ty) (a:Ty->Bool) (X:Pz pa p t a) (e:t.kind=8):vQ pa p t (if t.id≠0\/(t.args.length:Int)≠1 then false else !t.args.any a):=by
 refine af Try.func48 kz rfl fun d _=>?_;refine ah (fun q=>o5 q (by omega)) (fun _=>?_);refine ah (fun q=>o5 q (by omega)) (fun _=>?_);refine ah (fun q=>o5 q (by omega)) (fun _=>?_);refine ah (fun q=>o5 q (by omega)) (fun _=>?_);refine ah (fun q=>o5 q (by omega)) (fun _=>?_);refine ah (fun q=>o5 q (by omega)) (fun _=>?_);refine ah (fun _=>?_) (fun q=>o5 (by omega) q);refine ah (fun _=>?_) (fun q=>o5 (by omega) q);refine aS (fun _=>?_) (fun q=>o5 q (by omega));refine aS (fun b=>?_) (fun b=>?_)
 ·exact bq [1000] rfl rfl rfl (vv C.bool (fo (Or.inl b)).symm)
 refine aS (fun c=>?_) (fun c=>?_)
 ·exact bq [1000] rfl rfl rfl (vv C.bool (fo (Or.inr (by rw[<-tQ];exact c))).symm)
 refine callO [1000] [1000] X.h49 rfl rfl rfl rfl rfl fun _ _=>?_;exact bq [1000] rfl rfl rfl (vv C.bool (fL (by rw[<-tQ];exact fun q=>q.elim (fun q=>q b) (fun q=>q c))).symm)
theorem SG (pa:Int) (p:Prog) (t:Ty) (a:Ty->Bool) (X:Pz pa p t a) (e:t.kind=7):vQ pa p t (if t.id≠0\/(t.args.length:Int)≠1 then false else !t.args.any a):=by
 refine af Try.func48 kz rfl fun d _=>?_;refine ah (fun q=>o5 q (by omega)) (fun _=>?_);refine ah (fun q=>o5 q (by omega)) (fun _=>?_);refine ah (fun q=>o5 q (by omega)) (fun _=>?_);refine ah (fun q=>o5 q (by omega)) (fun _=>?_);refine ah (fun q=>o5 q (by omega)) (fun _=>?_);refine ah (fun q=>o5 q (by omega)) (fun _=>?_);refine ah (fun q=>o5 q (by omega)) (fun _=>?_);refine ah (fun _=>?_) (fun q=>o5 (by omega) q);refine aS (fun _=>?_) (fun q=>o5 q (by omega));refine aS (fun b=>?_) (fun b=>?_)
 ·exact bq [1000] rfl rfl rfl (vv C.bool (fo (Or.inl b)).symm)
 refine aS (fun c=>?_) (fun c=>?_)
 ·exact bq [1000] rfl rfl rfl (vv C.bool (fo (Or.inr (by rw[<-tQ];exact c))).symm)
 refine callO [1000] [1000] X.h49 rfl rfl rfl rfl rfl fun _ _=>?_;exact bq [1000] rfl rfl rfl (vv C.bool (fL (by rw[<-tQ];exact fun q=>q.elim (fun q=>q b) (fun q=>q c))).symm)
theorem SH (pa:Int) (p:Prog) (t:Ty) (b:¬(1<=t.kind/\t.kind<=8)):vQ pa p t false:=by
 refine af Try.func48 kz rfl fun a _=>?_;refine ah (fun q=>o5 q (by omega)) (fun _=>?_);refine ah (fun q=>o5 q (by omega)) (fun _=>?_);refine ah (fun q=>o5 q (by omega)) (fun _=>?_);refine ah (fun q=>o5 q (by omega)) (fun _=>?_);refine ah (fun q=>o5 q (by omega)) (fun _=>?_);refine ah (fun q=>o5 q (by omega)) (fun _=>?_);refine ah (fun q=>o5 q (by omega)) (fun _=>?_);refine ah (fun q=>o5 q (by omega)) (fun _=>?_);exact bq [1000] rfl rfl rfl rfl
theorem SI (pa:Int) (p:Prog) (t:Ty) (d:t.kind=5):vQ pa p t (decide (0<=t.id)&&decide (t.id<pa)&&decide (t.args.length=0)):=by
 refine af Try.func48 kz rfl fun c _=>?_;refine ah (fun q=>o5 q (by omega)) (fun _=>?_);refine ah (fun q=>o5 q (by omega)) (fun _=>?_);refine ah (fun _=>?_) (fun q=>o5 (by omega) q);refine ah (fun b=>?_) (fun b=>?_)
 ·refine ah (fun a=>?_) (fun a=>?_)
  ·exact bq [1000] rfl rfl rfl (vv C.bool (by rw[aaQ (show(0:Int)<=t.id from b),aaQ a,aaS,aaS];exact decide_eq_decide.2 (by rw[v5];omega)))
  ·exact bq [1000] rfl rfl rfl (vv C.bool (by rw[aaP a,abh,aaV]))
 ·exact bq [1000] rfl rfl rfl (vv C.bool (by rw[aaP (show¬(0:Int)<=t.id from b),aaV,aaV]))
theorem QU (pa:Int) (p:Prog) (t:Ty) (e:t.kind=2) (hi:t.id<0\/(p.datas.length:Int)<=t.id):vQ pa p t false:=by
 have a:(p.datas.map nO).length=p.datas.length:=v5 _;refine af Try.func48 kz rfl fun d _=>?_;refine ah (fun q=>o5 q (by omega)) (fun _=>?_);refine ah (fun q=>o5 q (by omega)) (fun _=>?_);refine ah (fun q=>o5 q (by omega)) (fun _=>?_);refine ah (fun _=>?_) (fun q=>o5 (by omega) q);refine ah (fun c=>?_) (fun c=>?_)
 ·exact bq [1000] rfl rfl rfl rfl
 refine ah (fun b=>?_) (fun b=>o5 (by rw[a];omega) b);exact bq [1000] rfl rfl rfl rfl
theorem SJ (pa:Int) (p:Prog) (t:Ty) (a:Ty->Bool) (X:Pz pa p t a) (j:t.kind=2) (d:Api.Data) (h0:0<=t.id) (f:p.datas[t.id.toNat]?=some d):vQ pa p t (if(t.args.length:Int)≠d.params then false else !t.args.any a):=by
 have c:(p.datas.map nO).length=p.datas.length:=v5 _;have h:t.id.toNat<p.datas.length:=(aaR.1 f).1;refine af Try.func48 kz rfl fun k _=>?_;refine ah (fun q=>o5 q (by omega)) (fun _=>?_);refine ah (fun q=>o5 q (by omega)) (fun _=>?_);refine ah (fun q=>o5 q (by omega)) (fun _=>?_);refine ah (fun _=>?_) (fun q=>o5 (by omega) q);refine ah (fun b=>o5 h0 (by omega)) (fun b=>?_);refine ah (fun e=>o5 e (by rw[c];omega)) (fun e=>?_);refine Od h0 f ?_;refine aS (fun q=>o5 j q) (fun _=>?_);refine aS (fun b=>?_) (fun b=>?_)
 ·exact bq [1000] rfl rfl rfl (vv C.bool (fo (by rw[<-tQ];exact b)).symm)
 refine callO [1000] [1000] X.h49 rfl rfl rfl rfl rfl fun _ _=>?_;exact bq [1000] rfl rfl rfl (vv C.bool (fL (by rw[<-tQ];exact fun q=>q b)).symm)
theorem t48 (pa:Int) (p:Prog):∀t:Ty,vQ pa p t (wz p.datas pa t):=dJ fun t f=>by
 have X:Pz pa p t (EZ p.datas pa t.kind):=⟨Sz [IC t.kind,IC t.id,.sl (t.args.map aG)] pa (jT p) t.args (EZ p.datas pa t.kind) fun x h=>t50 pa p t x _ (f x h)⟩;rw[mo]
 by_cases c:t.kind=5
 ·rw[fo c];exact SI pa p t c
 rw[fL c,Cy]
 by_cases h1:t.kind=1\/t.kind=6
 ·rw[fo h1];simp only[ne_eq,show¬t.kind=2 by omega,not_false_eq_true,true_and];rcases h1 with h1 | h1
  ·exact SA pa p t _ X h1
  ·exact SB pa p t _ X h1
 rw[fL h1]
 by_cases b:t.kind=2
 ·rw[fo b]
  by_cases hi:t.id<0\/(p.datas.length:Int)<=t.id
  ·rw[fo hi];exact QU pa p t b hi
  ·rw[fL hi];obtain⟨d,e⟩:=kU (l:=p.datas) (k:=t.id.toNat) (by omega);rw[e];simp only[ne_eq,b,not_true_eq_false,false_and,false_or,abl,Option.getD_some];rw[<-b];exact SJ pa p t _ X b d (by omega) e
 rw[fL b]
 by_cases a:t.kind=3\/t.kind=4\/t.kind=8\/t.kind=7
 ·rw[fo a];simp only[ne_eq,b,not_false_eq_true,true_and];rcases a with a | a | a | a
  ·exact SC pa p t _ X a
  ·exact SD pa p t _ X a
  ·exact SE pa p t _ X a
  ·exact SG pa p t _ X a
 ·rw[fL a];exact SH pa p t (by omega)
def iJ (p:Prog) (pa:Int) (t:Ty):Bool:=if pa<0\/pa>4\/cn t>8 then false else wz p.datas pa t
theorem XB (pa:Int) (p:Prog) (t:Ty) (f:cn t<=2 ^ 40):CallsT P 14 [.agg (jT p),IC pa,aR t] [] (aT [] (.bool (iJ p pa t))):=by
 have c:=Sw t f;have a:=t48 pa p t;rw[iJ];generalize cn t=D at c ⊢;generalize wz p.datas pa t=b at a ⊢;refine af Try.func14 Nh rfl fun h _=>?_;refine ah (fun h1=>?_) (fun h1=>?_)
 ·exact aC rfl (vv C.bool (fo (Or.inl h1)).symm)
 refine ah (fun d=>?_) (fun d=>?_)
 ·exact aC rfl (vv C.bool (fo (Or.inr (Or.inl d))).symm)
 refine bf c rfl fun _=>?_;refine ah (fun e=>?_) (fun e=>?_)
 ·exact aC rfl (vv C.bool (fo (Or.inr (Or.inr (by omega)))).symm)
 refine callO [7] [7] a rfl rfl rfl rfl rfl fun _ _=>?_;exact aC rfl (vv C.bool (fL (by omega)).symm)
section
variable {α:Type}
def bM:List (Int×α)->Int->Option α
 | [],_=>none
 | (k,v)::m,i=>if i=k then some v else bM m i
def eD:List (Int×α)->Int->α->List (Int×α)
 | [],i,x=>[(i,x)]
 | (k,v)::m,i,x=>if i=k then(i,x)::m else(k,v)::eD m i x
def iU (f:α->C) (m:List (Int×α)):List (C×C):=m.map fun p=>(IC p.1,f p.2)
theorem BZ (f:α->C) (i:Int):∀m:List (Int×α),vu false (IC i) (iU f m)=some ((bM m i).map f)
 | []=>rfl
 | (k,v)::m=>by
  have a:=BZ f i m;simp only[iU,aaW,vu,jA,bM] at a ⊢
  by_cases h:i=k
  ·rw[aaQ h,fo h];rfl
  ·rw[aaP h,fL h];exact a
theorem KD (f:α->C) (i:Int) (x:α):∀m:List (Int×α),EB false (IC i) (f x) (iU f m)=some (iU f (eD m i x))
 | []=>rfl
 | (k,v)::m=>by
  have a:=KD f i x m;simp only[iU,aaW,EB,jA,eD] at a ⊢
  by_cases h:i=k
  ·rw[aaQ h,fo h];rfl
  ·rw[aaP h,fL h];simp only[a];rfl
theorem kP (m:List (Int×α)) (i j:Int) (x:α):bM (eD m i x) j=if j=i then some x else bM m j:=by
 induction m with
 | nil =>
  simp only[eD,bM]
 | cons p m b =>
  obtain⟨k,v⟩:=p;simp only[eD]
  by_cases h:i=k
  ·rw[fo h];simp only[bM];subst h
   by_cases a:j=i
   ·rw[fo a,fo a]
   ·rw[fL a,fL a,fL a]
  ·rw[fL h];simp only[bM,b]
   by_cases a:j=k
   ·rw[fo a,fo a,fL (by omega)]
   ·rw[fL a,fL a]
theorem yu {f:α->C}{i:Int}{m:List (Int×α)}{Y:C->Prop}{N:Prop}{x:α}(h:bM m i=some x) (k:Y (f x)):xk false (iU f m) (IC i) Y N :=
 ⟨.inl ⟨f x,by rw[BZ,h];rfl,k⟩⟩
theorem yw {f:α->C}{i:Int}{m:List (Int×α)}{Y:C->Prop}{N:Prop}(h:bM m i=none) (k:N):xk false (iU f m) (IC i) Y N :=
 ⟨.inr ⟨by rw[BZ,h];rfl,k⟩⟩
theorem HY {f:α->C}{i:Int}{m:List (Int×α)}{K:List (C×C)->Prop}{x:α}{c:C}(e:c=f x) (k:K (iU f (eD m i x))):Pe false (iU f m) (IC i) c K :=
 ⟨_,by rw[e];exact KD f i x m,k⟩
end
mutual
def eqB:Ty->Ty->Bool
 | .mk k i l,.mk k' i' l'=>decide (k=k')&&decide (i=i')&&E0 l l'
def E0:List Ty->List Ty->Bool
 | [],[]=>true
 | x::l,y::l'=>eqB x y&&E0 l l'
 | _,_=>false
end
mutual
theorem B0:∀x y:Ty,eqB x y=true↔x=y
 | .mk k i l,.mk k' i' l'=>by
  rw[eqB,xo,xo,aaZ,aaZ,DF l l'];simp only[Ty.mk.injEq,and_assoc]
theorem DF:∀x y:List Ty,E0 x y=true↔x=y
 | [],[]=>by simp[E0]
 | [],_::_=>by simp[E0]
 | _::_,[]=>by simp[E0]
 | x::l,y::l'=>by rw[E0,xo,B0 x y,DF l l',List.cons.injEq]
end
theorem B6 (x y:Ty):rY (x=y)=eqB x y:=by
 cases h:eqB x y with
 | true=>exact oJ.2 ((B0 x y).1 h)
 | false=>exact(gO fun e=>by rw[(B0 x y).2 e] at h;cases h).symm
abbrev TM:=List (Int×Ty)
mutual
def qW (n:Int):Ty->Ty->TM->TM×Bool
 | .mk k i l,t,m=>if k=5 then(if i<0\/n<=i then(m,false) else match bM m i with
   | some x=>(m,eqB x t)
   | none=>(eD m i t,true))
  else if k=t.kind/\i=t.id then(if l.length=t.args.length then Ca n l t.args m else(m,false)) else(m,false)
def Ca (n:Int):List Ty->List Ty->TM->TM×Bool
 | [],_,m=>(m,true)
 | x::l,l',m=>match l' with
  | []=>(m,false)
  | y::l'=>match qW n x y m with
   | (m',true)=>Ca n l l' m'
   | (m',false)=>(m',false)
end
def QV (n:Int) (p t:Ty) (m:TM):TM×Bool:=if p.kind=5 then(if p.id<0\/n<=p.id then(m,false) else match bM m p.id with
   | some x=>(m,eqB x t)
   | none=>(eD m p.id t,true))
  else if p.kind=t.kind/\p.id=t.id then(if p.args.length=t.args.length then Ca n p.args t.args m else(m,false)) else(m,false)
theorem Gl (n:Int) (p t:Ty) (m:TM):qW n p t m=QV n p t m:=by
 cases p;rw[qW];rfl
abbrev VH (n:Int):C:=.fn 66 [] [.own 1000 0,.pt [IC n] 0,.own 1001 0]
abbrev Uw (n:Int) (m:TM):List TO:=[.box 37 [VH n],.box 101 [.mpr 1002],.map (iU aR m)]
abbrev DG (n:Int) (p t:Ty) (m:TM) (r:TM×Bool):Prop:=CallsT P 66 [aR p,aR t,.own 1000 0,.pt [IC n] 0,.own 1001 0] (Uw n m) (aT (Uw n r.1) (.bool r.2))
abbrev SK (n:Int) (a b:List Ty) (m:TM) (r:TM×Bool):Prop:=CallsT P 67 [.sl (a.map aG),.sl (b.map aG),VH n] (Uw n m) (aT (Uw n r.1) (.bool r.2))
theorem VI (n:Int) (a b:List Ty) (m:TM) (f:Ty->Ty->TM->TM×Bool) (j:List Ty->List Ty->TM->TM×Bool) (w:∀l m,j [] l m=(m,true)) (hz:∀x l y l' m,j (x::l) (y::l') m=match f x y m with
   | (s,true)=>j l l' s
   | (s,false)=>(s,false)) (ih:∀x∈a,∀y m,DG n x y m (f x y m)):SK n a b m (if a.length=b.length then j a b m else(m,false)):=by
 have o:(a.map aG).length=a.length:=by simp
 have hb:(b.map aG).length=b.length:=by simp
 by_cases e:a.length=b.length
 ·rw[fo e];generalize hr:j a b m=r;refine af Try.func67 wu rfl fun z _=>?_;have hm:a.length<=9223372036854775807:=by have:=iG z.1;rwa [o] at this
  refine aS (fun p=>o5 (by rw[o,hb,e]) p) (fun p=>?_);refine cA a.length 17 [] m (fun _=>[]) (fun m=>[(1000,.box 37 [VH n]),(1001,.box 101 [.mpr 1002]),(1002,.map (iU aR m))]) (fun k m=>j (a.drop k) (b.drop k) m=r) hr (ak rfl) trivial
   ⟨.inl ⟨_,rfl,.inl ⟨rfl,rfl⟩⟩,.inl ⟨_,rfl,.inl ⟨rfl,rfl⟩⟩,.inl ⟨_,rfl,.inl ⟨rfl,rfl⟩⟩,trivial⟩ (fun _=>rfl) (fun _=>rfl) ?_
  rintro k m hk c _ _ _;refine ah (fun d=>?_) (fun h=>?_)
  ·have d:k<a.length:=by rw[o] at d;omega
   refine aW d fun x hx t u=>?_;refine aW (l:=b) (k:=k) (by omega) fun y hy _ v=>?_;have c:=c;rw[u,v,hz] at c;refine cH hx ?_;refine cH hy ?_;refine callO [1000,1001,1002] [1000,1001,1002] (ih x t y m) rfl rfl rfl rfl rfl fun _ _=>?_;generalize f x y m=q at c;obtain⟨s,q⟩:=q;cases q
   ·exact bq [1000,1001,1002] rfl rfl (by rw[<-c];rfl) (by rw[<-c];rfl)
   ·refine Fit.aag (by omega) (by omega) ?_;exact⟨(k+1,s),⟨d,c⟩,⟨bU,trivial⟩,⟨.inl ⟨_,rfl,.inl ⟨rfl,rfl⟩⟩,.inl ⟨_,rfl,.inl ⟨rfl,rfl⟩⟩,.inl ⟨_,rfl,.inl ⟨rfl,rfl⟩⟩,trivial⟩,bX d⟩
  ·have h:¬k<a.length:=by rw[o] at h;omega
   have c:=c;rw[bS h,w] at c;exact bq [1000,1001,1002] rfl rfl (by rw[<-c];rfl) (by rw[<-c];rfl)
 ·rw[fL e];refine af Try.func67 wu rfl fun z _=>?_;refine aS (fun p=>?_) (fun p=>o5 (by rw[o,hb] at p;omega) e);exact bq [1000,1001,1002] rfl rfl rfl rfl
theorem VJ (n:Int) (p t:Ty) (m:TM) (r:TM×Bool) (b:¬p.kind=5) (h1:p.kind=t.kind) (a:p.id=t.id) (h:SK n p.args t.args m r):DG n p t m r:=by
 refine af Try.func66 tG rfl fun c _=>?_;refine aS (fun _=>?_) (fun q=>o5 q b);refine ah (fun _=>?_) (fun q=>o5 h1 q);refine ah (fun _=>?_) (fun q=>o5 a q);refine callO [1000,1001,1002] [1000,1001,1002] h rfl rfl rfl rfl rfl fun _ _=>?_;exact bq [1000,1001,1002] rfl rfl rfl rfl
theorem VK (n:Int) (p t:Ty) (m:TM) (b:¬p.kind=5) (h1:¬(p.kind=t.kind/\p.id=t.id)):DG n p t m (m,false):=by
 refine af Try.func66 tG rfl fun d _=>?_;refine aS (fun _=>?_) (fun q=>o5 q b);refine ah (fun a=>ah (fun c=>o5 ⟨a,c⟩ h1) (fun _=>?_)) (fun _=>?_)
 all_goals exact bq [1000,1001,1002] rfl rfl rfl rfl
theorem VL (n:Int) (p t:Ty) (m:TM) (b:p.kind=5) (h1:p.id<0\/n<=p.id):DG n p t m (m,false):=by
 refine af Try.func66 tG rfl fun c _=>?_;refine aS (fun q=>o5 b q) (fun _=>?_);refine ah (fun a=>?_) (fun a=>ah (fun _=>?_) (fun d=>o5 h1 (by omega)))
 all_goals exact bq [1000,1001,1002] rfl rfl rfl rfl
theorem VN (n:Int) (p t x:Ty) (m:TM) (e:p.kind=5) (h1:¬(p.id<0\/n<=p.id)) (f:bM m p.id=some x):DG n p t m (m,eqB x t):=by
 have a:=Z6 x t;rw[pq,B6] at a;generalize eqB x t=b at a ⊢;refine af Try.func66 tG rfl fun h _=>?_;refine aS (fun q=>o5 e q) (fun _=>?_);refine ah (fun c=>o5 (Or.inl c) h1) (fun c=>ah (fun d=>o5 (Or.inr d) h1) (fun d=>?_));refine yu f ?_;refine bf a rfl fun _=>?_;exact bq [1000,1001,1002] rfl rfl rfl rfl
theorem VO (n:Int) (p t:Ty) (m:TM) (c:p.kind=5) (h1:¬(p.id<0\/n<=p.id)) (d:bM m p.id=none):DG n p t m (eD m p.id t,true):=by
 refine af Try.func66 tG rfl fun e _=>?_;refine aS (fun q=>o5 c q) (fun _=>?_);refine ah (fun a=>o5 (Or.inl a) h1) (fun a=>ah (fun b=>o5 (Or.inr b) h1) (fun b=>?_));refine yw d ?_;refine HY (x:=t) rfl ?_;exact bq [1000,1001,1002] rfl rfl rfl rfl
theorem XC (n:Int):∀(p t:Ty) (m:TM),DG n p t m (qW n p t m):=fun p=>dJ (p:=fun p=>∀(t:Ty) (m:TM),DG n p t m (qW n p t m)) (fun p c t m=>by
 rw[Gl,QV]
 by_cases a:p.kind=5
 ·rw[fo a]
  by_cases h1:p.id<0\/n<=p.id
  ·rw[fo h1];exact VL n p t m a h1
  rw[fL h1];cases b:bM m p.id with
  | none=>exact VO n p t m a h1 b
  | some x=>exact VN n p t x m a h1 b
 ·rw[fL a]
  by_cases h1:p.kind=t.kind/\p.id=t.id
  ·rw[fo h1];refine VJ n p t m _ a h1.1 h1.2 ?_;exact VI n p.args t.args m (qW n) (Ca n) (fun l m=>by rw[Ca]) (fun x l y d m=>by rw[Ca]) c
  ·rw[fL h1];exact VK n p t m a h1) p
def bQ (s:List Ty) (t:Ty):Option Ty:=if t.id<0 then none else s[t.id.toNat]?
theorem bG {s:List Ty}{t x:Ty}(h:bQ s t=some x):0<=t.id/\s[t.id.toNat]?=some x/\t.id.toNat<s.length:=by
 unfold bQ at h;split at h
 ·cases h
 ·exact⟨by omega,h,(aaR.1 h).1⟩
theorem KE {s:List Ty}{t:Ty}(h0:0<=t.id) (h1:t.id<s.length):∃x,bQ s t=some x/\x∈s:=by
 unfold bQ;rw[fL (by omega)];exact⟨s[t.id.toNat]'(by omega),aaN _,List.getElem_mem _⟩
def aO (s:List Ty):Nat->Ty->Option Ty
 | 0,_=>none
 | n+1,t=>if t.kind=9 then(match bQ s t with
   | none=>none
   | some x=>if x.kind=0 then some t else aO s n x) else some t
def vR (f:Ty->Option Bool):List Ty->Option Bool
 | []=>some false
 | x::l=>match f x,vR f l with
  | some a,some b=>some (a||b)
  | _,_=>none
def kQ (s:List Ty) (v:Int):Nat->Ty->Option Bool
 | 0,_=>none
 | n+1,t=>match aO s n t with
  | none=>none
  | some a=>if a.kind=9 then some (decide (a.id=v)) else vR (kQ s v n) a.args
def j9 (f:List Ty->Ty->Ty->Option (Option (List Ty))):List Ty->List Ty->List Ty->Option (Option (List Ty))
 | s,[],_=>some (some s)
 | s,x::l,a=>match a with
  | []=>none
  | y::a=>match f s x y with
   | some (some s')=>j9 f s' l a
   | some none=>some none
   | none=>none
def lD:Nat->List Ty->Ty->Ty->Option (Option (List Ty))
 | 0,_,_,_=>none
 | n+1,s,a,b=>match aO s n a,aO s n b with
  | some a,some b =>
   if a.kind=9/\b.kind=9 then(if a.id=b.id then some (some s) else some (some (s.set (max a.id b.id).toNat (.mk 9 (min a.id b.id) []))))
   else if a.kind=9 then(match kQ s a.id n b with
    | none=>none
    | some true=>some none
    | some false=>some (some (s.set a.id.toNat b)))
   else if b.kind=9 then lD n s b a
   else if a.kind≠b.kind\/a.id≠b.id\/a.args.length≠b.args.length then some none
   else j9 (lD n) s a.args b.args
  | _,_=>none
def yZ (n:Int):Int:=IntKind.i64.wrap n
abbrev DM:=List (Int×Int)
abbrev OM:=List (Int×Bool)
def dX (f:Ty->DM->OM->Option (Option (Int×DM×OM))):List Ty->Int->DM->OM->Option (Option (Int×DM×OM))
 | [],k,d,o=>some (some (k,d,o))
 | x::l,k,d,o=>match f x d o with
  | some (some (a,b,o'))=>dX f l (if a>k then a else k) b o'
  | some none=>some none
  | none=>none
def bw (s:List Ty):Nat->Ty->DM->OM->Option (Option (Int×DM×OM))
 | 0,_,_,_=>none
 | n+1,t,d,o =>
  match(if t.kind=9 then bQ s t else some (.mk 0 0 [])) with
  | none=>none
  | some x=>if x.kind≠0 then(match bM d t.id with
    | some k=>some (some (k,d,o))
    | none=>match bM o t.id with
     | some true=>some none
     | _=>match bw s n x d (eD o t.id true) with
      | some (some (k,a,o'))=>some (some (k,eD a t.id k,o'))
      | some none=>some none
      | none=>none)
   else match dX (bw s n) t.args 0 d o with
    | some (some (k,a,o'))=>some (some (yZ (k+1),a,o'))
    | some none=>some none
    | none=>none
def kV (f:Ty->Option Ty):List Ty->Option (List Ty)
 | []=>some []
 | x::l=>match f x,kV f l with
  | some y,some a=>some (y::a)
  | _,_=>none
def oK (s:List Ty):Nat->Ty->Option Ty
 | 0,_=>none
 | n+1,t=>match(if t.kind=9 then bQ s t else some (.mk 0 0 [])) with
  | none=>none
  | some x=>if x.kind≠0 then oK s n x else match kV (oK s n) t.args with
   | some l=>some (.mk t.kind t.id l)
   | none=>none
end Go.Fr.Try
