/- Part of the proofs of the statements of this seat. -/
import Derived.Test.YthfdbepkalpplaaGreatFW2
import Derived.Test.YthfdbepkalpplaaGreatVnCode
set_option maxRecDepth 10000
set_option linter.unusedVariables false
set_option linter.unusedSimpArgs false
namespace Go.Fr.Tryz
open Go Go.RowKit Go.Proofs Go.Fr Go.Fr.T Go.Fr.Api
noncomputable abbrev P:Program:=Tryz.prog
abbrev aP (x:Ty):C:=.agg [IC x.kind,IC x.id,.sl (x.args.map aD)]
theorem SY (t:Ty):C.agg (aD t)=aP t:=vz C.agg (iM t)
noncomputable def xA (p:Prop):Bool:=@decide p (Classical.propDecidable p)
theorem lY {p:Prop}:xA p=true↔p:=by unfold xA;exact @decide_eq_true_iff p (Classical.propDecidable p)
theorem Ec {p:Prop}(h:xA p=true):p:=lY.1 h
theorem LC {p:Prop}(h:xA p=false):¬p:=fun q=>by rw[lY.2 q] at h;cases h
theorem ig {p:Prop}(h:¬p):false=xA p:=by
 cases e:xA p with
 | true=>exact vv (Ec e) h
 | false=>rfl
theorem rF {p:Prop}(h:p):true=xA p:=(lY.2 h).symm
theorem vD {p q:Prop}(h:p↔q):xA p=xA q:=by rw[show p=q from propext h]
theorem PV {p q:Prop}[d:Decidable p] (h:p↔q):decide p=xA q:=by
 by_cases a:p
 ·rw[aaP a];exact rF (h.1 a)
 ·rw[aaS a];exact ig fun e=>a (h.2 e)
theorem FZ {c:Type}{a b:List c}(h:¬a.length=b.length):a≠b:=fun e=>h (by rw[e])
theorem uq {c:Type}{a b:List c}{n:Nat}(d:a.length=n) (hb:b.length=n) (h:∀j<n,a[j]?=b[j]?):a=b:=by
 apply abP;intro i
 by_cases hi:i<n
 ·exact h i hi
 ·rw[abj (by omega),abj (by omega)]
theorem F4 {c:Type}{a b:List c}{k:Nat}{x y:c}(h1:a[k]?=some x) (h2:b[k]?=some y) (h:x≠y):a≠b:=fun e=>h (by rw[e,h2] at h1;injection h1 with h1;exact h1.symm)
theorem zk {d:Type}{a b:List d}{k:Nat}{x y:d}(h:∀j<k,a[j]?=b[j]?) (h1:a[k]?=some x) (h2:b[k]?=some y) (e:x=y):∀j<k+1,a[j]?=b[j]?:=by
 intro j f
 by_cases c:j=k
 ·rw[c,h1,h2,e]
 ·exact h j (by omega)
theorem fK {a:Type}{l:List a}{k:Nat}(h:k<l.length):∃x,l[k]?=some x:=⟨l[k],aaQ h⟩
theorem wk {x y:Ty}(h0:x.kind=y.kind) (h1:x.id=y.id) (h2:x.args=y.args):x=y:=by
 cases x;cases y
 simp_all [Ty.kind,Ty.id,Ty.args]
theorem Hs {x t:Ty}(h:x∈t.args):SizeOf.sizeOf x<SizeOf.sizeOf t:=by
 cases t;have:=List.sizeOf_lt_of_mem h;simp only[Ty.args] at this;simp only[Ty.mk.sizeOf_spec];omega
theorem cV {p:Ty->Prop}(h:∀t:Ty,(∀x∈t.args,p x)->p t):∀t,p t:=by
 have:∀(n:Nat) (t:Ty),SizeOf.sizeOf t<n->p t:=by
  intro n
  induction n with
  | zero=>intro t a;exact vv a (abv _)
  | succ n b=>exact fun t a=>h t fun x c=>b x (by have:=Hs c;omega)
 exact fun t=>this _ t (abW _)
theorem fB {l:List Ty}(h:Wf (.sl (l.map aD))):l.length<=9223372036854775807:=NZ h
theorem fL {a:Type}{l:List a}{k:Nat}{x:a}(b:l[k]?=some x):l.take (k+1)=l.take k++[x]:=by
 rw[List.take_add_one,b];rfl
mutual
def few:Ty->Int->Int
 | .mk _ _ l,m=>ni l m 1
def ni:List Ty->Int->Int->Int
 | [],_,n=>n
 | x::l,m,n=>if n<=m then ni l m (n+few x (m-n)) else n
end
mutual
theorem F5:∀(t:Ty) (m:Int),0<=m->1<=few t m/\few t m<=m+1
 | .mk _ _ l,m,h=>by
  rw[few];exact Ht l m 1 h (by omega) (by omega)
theorem Ht:∀(l:List Ty) (m n:Int),0<=m->1<=n->n<=m+1->1<=ni l m n/\ni l m n<=m+1
 | [],m,n,_,h1,h2=>by rw[ni];exact⟨h1,h2⟩
 | x::l,m,n,h0,h1,h2=>by
  rw[ni];split
  ·have:=F5 x (m-n) (by omega);exact Ht l m _ h0 (by omega) (by omega)
  ·exact⟨h1,h2⟩
end
theorem Jf {l:List Ty}{m n:Int}(h:¬n<=m):ni l m n=n:=by
 cases l with
 | nil=>rw[ni]
 | cons x l=>rw[ni,o5 h]
def jx (l:List Ty):Bool:=l.all (fun t=>decide (few t 30<=30))&&decide ((l.length:Int)<=8)
mutual
def bW:Ty->Nat
 | .mk _ _ l=>cG l+1
def cG:List Ty->Nat
 | []=>0
 | t::l=>max (bW t) (cG l)
end
theorem cQ (t:Ty):bW t=cG t.args+1:=by cases t;rfl
theorem vE:∀(l:List Ty) (x:Ty),cG (l++[x])=max (cG l) (bW x)
 | [],x=>by simp[cG]
 | t::l,x=>by rw[aa3,cG,vE l x,cG];omega
theorem Bs (l:List Ty) (k:Nat):cG (l.take k)<=cG l:=by
 induction l generalizing k with
 | nil=>simp[cG]
 | cons t l a =>
  cases k with
  | zero=>simp[cG]
  | succ k=>rw[List.take_succ_cons,cG,cG];have:=a k;omega
theorem jY:∀{l:List Ty}{x:Ty},x∈l->bW x<=cG l
 | t::l,x,h=>by
  rw[cG];rcases aaX.1 h with rfl | h
  ·omega
  ·have:=jY h;omega
theorem xB {l:List Ty}{n:Nat}(h:∀x∈l,bW x<=n):cG l<=n:=by
 induction l with
 | nil=>simp[cG]
 | cons t l a =>
  rw[cG];have h1:=h t (by simp);have h2:=a fun x b=>h x (by simp[b]);omega
mutual
def ins (n:Int):Ty->Bool
 | .mk k i l=>if k<1\/9<k then false else if k=9 then decide (0<=i)&&decide (i<n)&&decide (l.length=0) else PW n l
def PW (n:Int):List Ty->Bool
 | []=>true
 | t::l=>ins n t&&PW n l
end
theorem Ed (n:Int):∀l:List Ty,PW n l=l.all (ins n)
 | []=>rfl
 | t::l=>by rw[PW,Ed n l,abg]
theorem qL (n:Int) (t:Ty):ins n t=if t.kind<1\/9<t.kind then false else if t.kind=9 then decide (0<=t.id)&&decide (t.id<n)&&decide (t.args.length=0) else t.args.all (ins n):=by
 cases t;rw[ins,Ed];rfl
mutual
def qM (n:Int):Ty->Bool
 | .mk k i l=>if k=5 then decide (0<=i)&&decide (i<n)&&decide (l.length=0) else Hu n l
def Hu (n:Int):List Ty->Bool
 | []=>true
 | t::l=>qM n t&&Hu n l
end
theorem Bt (n:Int):∀l:List Ty,Hu n l=l.all (qM n)
 | []=>rfl
 | t::l=>by rw[Hu,Bt n l,abg]
theorem zl (n:Int) (t:Ty):qM n t=if t.kind=5 then decide (0<=t.id)&&decide (t.id<n)&&decide (t.args.length=0) else t.args.all (qM n):=by
 cases t;rw[qM,Bt];rfl
mutual
def hasB (n:Int):Ty->Bool
 | .mk k i l=>if k=5/\i=n then true else PY n l
def PY (n:Int):List Ty->Bool
 | []=>false
 | t::l=>hasB n t||PY n l
end
theorem Ee (n:Int):∀l:List Ty,PY n l=l.any (hasB n)
 | []=>rfl
 | t::l=>by rw[PY,Ee n l,abD]
theorem CD (n:Int) (t:Ty):hasB n t=if t.kind=5/\t.id=n then true else t.args.any (hasB n):=by
 cases t;rw[hasB,Ee];rfl
def jc (t:Ty):Bool:=decide (1<=t.kind)&&decide (t.kind<=5)
mutual
def subst (a:List Ty):Ty->Ty
 | .mk k i l=>if k=5/\0<=i/\i<a.length then(a[i.toNat]?).getD (.mk 0 0 []) else .mk k i (CF a l)
def CF (a:List Ty):List Ty->List Ty
 | []=>[]
 | t::l=>subst a t::CF a l
end
theorem zm (a:List Ty):∀l:List Ty,CF a l=l.map (subst a)
 | []=>rfl
 | t::l=>by rw[CF,zm a l];rfl
theorem subst_eq (a:List Ty) (t:Ty):subst a t=if t.kind=5/\0<=t.id/\t.id<a.length then(a[t.id.toNat]?).getD (.mk 0 0 []) else .mk t.kind t.id (t.args.map (subst a)):=by
 cases t;rw[subst,zm];rfl
mutual
def iA:Ty->Prop
 | .mk _ _ l=>l.length<=2 ^ 30/\LD l
def LD:List Ty->Prop
 | []=>True
 | t::l=>iA t/\LD l
end
theorem Ef:∀l:List Ty,LD l↔∀t∈l,iA t
 | []=>by simp[LD]
 | t::l=>by simp[LD,Ef l]
theorem fu (t:Ty):iA t↔t.args.length<=2 ^ 30/\∀x∈t.args,iA x:=by
 cases t;rw[iA,Ef];rfl
theorem vF {f:Ty}{s:List Ty}:s.map aD++[[IC f.kind,IC f.id,.sl (f.args.map aD)]]=(s++[f]).map aD:=by rw[abx,<-iM];rfl
theorem lD {els:List (List C)}{c:List C}{sz a:Nat}{K:Prop}(n:Nat) (d:c.length=sz) (b:els.length=n) (hb:a<=1024) (h:n<=2 ^ 30) (k:K):wH els [c] sz a K :=
 ⟨fun es he=>(by rcases aaX.1 he with rfl | he;exact d;cases he),by rw[b];simp only[aa8,abO,maxLen];omega,by
  rw[b];simp only[aa8,abO];exact abw (Nat.mul_le_mul (show n+(0+1)<=2 ^ 31 by omega) hb) (by decide),k⟩
theorem kK {L L1:TL}{k t sz:Nat}(h:L.get k=none) (h1:L1.get k=some (.row t sz [])):NA L L1 .nils (.rw k):=.inr (.inr (.inr (.inl ⟨rfl,k,t,sz,rfl,h,h1⟩)))
theorem nN {t sz:Nat}{a b:List (List C)}(h:a=b):TO.row t sz a=TO.row t sz b:=by rw[h]
theorem W7 {a b:List (List C)}(h:a=b):C.sl a=C.sl b:=by rw[h]
theorem t21:∀(t:Ty) (m:Int),0<=m->m<=1000->CallsT P 21 [aP t,IC m] [] (aR [] (IC (few t m)))
 | .mk k i l,m,h0,h1=>by
  have ih:∀x∈l,∀h:Int,0<=h->h<=1000->CallsT P 21 [aP x,IC h] [] (aR [] (IC (few x h))):=fun x y h a b=>t21 x h a b;have o:=F5;rw[few];show CallsT P 21 [.agg [IC k,IC i,.sl (l.map aD)],IC m] [] _;generalize p:few=few' at ih o;have q:∀x r n,ni (x::r) m n=if n<=m then ni r m (n+few' x (m-n)) else n:=by
   intro x r n;rw[ni,p]
  refine af Tryz.func21 Ox rfl fun hw _=>?_;refine bN l.length 6 [5] (1:Int) (fun n=>[IC n]) (fun _=>[]) (fun k n=>ni (l.drop k) m n=ni l m 1/\1<=n/\n<=m+1) ⟨rfl,by omega,by omega⟩ (ai rfl) ⟨ai rfl,trivial⟩ trivial (fun _=>rfl) (fun _=>rfl) ?_;rintro j n hj ⟨d,ad,ab⟩ _ _ _;have z:l.length<=9223372036854775807:=fB hw.1.2.2.1;refine ah (fun e=>?_) (fun f=>?_)
  ·have e:j<l.length:=by simpa using e
   refine bf e fun x y v u=>?_;refine ah (fun w=>?_) (fun s=>?_)
   ·refine cA y ?_;refine Fit.aae (by omega) (by omega) ?_;refine aF (ih x v (m-n) (by omega) (by omega)) rfl fun _=>?_;have hb:=o x (m-n) (by omega);refine Fit.aae (by omega) (by omega) ?_;refine Fit.aae (by omega) (by omega) ?_;refine⟨(j+1,n+few' x (m-n)),⟨e,?_,by omega,by omega⟩,⟨bw,ai rfl,trivial⟩,trivial,bB e⟩;rw[u,q,fo w] at d;exact d
   ·have c:=d;rw[Jf s] at c;exact ay rfl (vz IC c)
  ·have f:¬j<l.length:=by simpa using f
   have c:=d;rw[bU f,ni] at c;exact ay rfl (vz IC c)
termination_by t=>SizeOf.sizeOf t
decreasing_by
 have:=List.sizeOf_lt_of_mem y;simp only[Ty.mk.sizeOf_spec];omega
theorem t6 (l:List Ty):CallsT P 6 [.sl (l.map aD)] [] (aR [] (.bool (jx l))):=by
 have h31:∀x:Ty,CallsT P 21 [aP x,IC 30] [] (aR [] (IC (few x 30))):=fun x=>t21 x 30 (by omega) (by omega);have h:jx l=(l.all (fun t=>decide (few t 30<=30))&&decide ((l.length:Int)<=8)):=rfl;generalize few=fw at h31 h;refine af Tryz.func6 SI rfl fun s _=>?_;have o:l.length<=9223372036854775807:=fB s.1;have n:(l.map aD).length=l.length:=xo _;refine bN l.length 3 [] () (fun _=>[]) (fun _=>[]) (fun k _=>(l.drop k).all (fun t=>decide (fw t 30<=30))=l.all (fun t=>decide (fw t 30<=30))) rfl (ai rfl) trivial trivial (fun _=>rfl) (fun _=>rfl) ?_;rintro k _ v c _ _ _;refine ah (fun b=>?_) (fun j=>?_)
 ·have b:k<l.length:=by simpa using b
  refine bf b fun x u q m=>?_;refine cA u ?_;refine aF (h31 x) rfl fun _=>?_;have a:=c;rw[m,abg] at a;refine ah (fun p=>?_) (fun r=>?_)
  ·have e:false=jx l:=by
    have f:decide (fw x 30<=30)=false:=aaS (by omega);rw[f,aaY] at a;rw[h,<-a,aaY]
   exact ay rfl (vz C.bool e)
  ·refine Fit.aae (by omega) (by omega) ?_;have f:decide (fw x 30<=30)=true:=aaP (by omega);have d:=a;rw[f,aaW] at d;exact⟨(k+1,()),⟨b,d⟩,⟨bw,trivial⟩,trivial,bB b⟩
 ·have j:¬k<l.length:=by simpa using j
  have e:decide (((l.map aD).length:Int)<=8)=jx l:=by
   rw[bU j,List.all_nil] at c;rw[h,<-c,aaW,n]
  exact ay rfl (vz C.bool e)
theorem t47 (t:Ty):CallsT P 47 [aP t] [] (aR [] (.bool (jc t))):=by
 have e:jc t=(decide (1<=t.kind)&&decide (t.kind<=5)):=rfl;refine af Tryz.func47 OU rfl fun a _=>?_;refine ah (fun h=>?_) (fun h=>?_)
 ·exact ay rfl (vz C.bool (by rw[e,aaP (show(1:Int)<=t.kind from h),aaW]))
 ·exact ay rfl (vz C.bool (by rw[e,aaS (show¬(1:Int)<=t.kind from h),aaY]))
theorem YN (t:Ty):CallsT P 77 [aP t] [] (aR [] (.bool (jc t))):=by
 have e:jc t=(decide (1<=t.kind)&&decide (t.kind<=5)):=rfl;refine af Tryz.func77 Pe rfl fun a _=>?_;refine ah (fun h=>?_) (fun h=>?_)
 ·exact ay rfl (vz C.bool (by rw[e,aaP (show(1:Int)<=t.kind from h),aaW]))
 ·exact ay rfl (vz C.bool (by rw[e,aaS (show¬(1:Int)<=t.kind from h),aaY]))
theorem PZ (t:Ty):CallsT P 98 [aP t] [] (aR [] (.bool (decide (t.kind=9)))):=by
 refine af Tryz.func98 Pv rfl fun a _=>?_;exact ay rfl rfl
theorem Uf:CallsT P 14 [] [] (aR [] (aP (.mk 1 0 []))):=by
 refine af Tryz.func14 Oq rfl fun a _=>?_;exact ay rfl rfl
theorem SZ (k:Int) (t:Ty):CallsT P 13 [IC k,aP t] [] (aR [] (aP (.mk k 0 [t]))):=by
 refine af Tryz.func13 Oo rfl fun a _=>?_;have e:C.agg [IC k,IC 0,.sl [[IC t.kind,IC t.id,.sl (t.args.map aD)]]]=aP (.mk k 0 [t]):=by
  rw[<-iM];rfl
 exact ay rfl e
abbrev qN (f:Nat) (args:List C) (p:Prop):Prop:=CallsT P f args [] (aR [] (.bool (xA p)))
theorem Uy (a b:List (Ty)) (u:∀x∈a,∀y,qN 57 [aP x,aP y] (x=y)):qN 36 [.sl (a.map aD),.sl (b.map aD)] (a=b):=by
 refine af Tryz.func36 OI rfl fun t _=>?_;have m:(a.map aD).length=a.length:=by simp
 have hb:(b.map aD).length=b.length:=by simp
 have v:a.length<=9223372036854775807:=by have:=gS t.1;rwa [m] at this
 refine aq (fun d=>?_) (fun d=>?_)
 ·have d:¬a.length=b.length:=fun e=>by
   rw[m,hb,e] at d;simp at d
  exact ay rfl (vz C.bool (ig (FZ d)))
 have d:a.length=b.length:=by
  rw[m,hb] at d;simp at d;omega
 refine bN a.length 5 [] () (fun _=>[]) (fun _=>[]) (fun k _=>∀j<k,a[j]?=b[j]?) (fun j s=>vv s (by omega)) (ai rfl) trivial trivial (fun _=>rfl) (fun _=>rfl) ?_;rintro k ⟨⟩ r f _ _ _;refine ah (fun c=>?_) (fun n=>?_)
 ·have c:k<a.length:=by rw[m] at c;omega
  refine ck c fun x q p=>?_;refine ck (l:=b) (k:=k) (by omega) fun y o _=>?_;refine cA q ?_;refine cA o ?_;refine bG (u x p y) rfl fun _=>?_;refine aq (fun h=>?_) (fun h=>?_)
  ·have h:¬x=y:=LC (by simpa using h);exact ay rfl (vz C.bool (ig (F4 q o h)))
  ·have h:x=y:=Ec (by simpa using h);refine Fit.aae (by omega) (by omega) ?_;exact⟨(k+1,()),⟨c,zk f q o h⟩,⟨bw,trivial⟩,trivial,bB c⟩
 ·have n:¬k<a.length:=by rw[m] at n;omega
  have r:k=a.length:=by omega
  exact ay rfl (vz C.bool (rF (uq rfl d.symm (r▸f))))
theorem t57:∀x y:Ty,qN 57 [aP x,aP y] (x=y):=fun x=>cV (p:=fun x=>∀y,qN 57 [aP x,aP y] (x=y)) (fun x a y=>by
  refine af Tryz.func57 O0 rfl fun b _=>?_;refine ah (fun h0=>?_) (fun h0=>ay rfl (vz C.bool (ig fun e=>h0 (by rw[e]))));refine ah (fun h1=>?_) (fun h1=>ay rfl (vz C.bool (ig fun e=>h1 (by rw[e]))));refine aF (Uy x.args y.args a) rfl fun _=>?_;exact ay rfl (vz C.bool (vD ⟨fun h=>wk h0 h1 h,fun e=>by rw[e]⟩))) x
theorem t36 (a b:List Ty):qN 36 [.sl (a.map aD),.sl (b.map aD)] (a=b):=Uy a b fun x _ y=>t57 x y
theorem W8 (a b:List (Ty)) (u:∀x∈a,∀y,qN 56 [aP x,aP y] (x=y)):qN 51 [.sl (a.map aD),.sl (b.map aD),.fn 56 [] []] (a=b):=by
 refine af Tryz.func51 xk rfl fun t _=>?_;have m:(a.map aD).length=a.length:=by simp
 have hb:(b.map aD).length=b.length:=by simp
 have v:a.length<=9223372036854775807:=by have:=gS t.1;rwa [m] at this
 refine aq (fun d=>?_) (fun d=>?_)
 ·have d:¬a.length=b.length:=fun e=>by
   rw[m,hb,e] at d;simp at d
  exact ay rfl (vz C.bool (ig (FZ d)))
 have d:a.length=b.length:=by
  rw[m,hb] at d;simp at d;omega
 refine bN a.length 17 [] () (fun _=>[]) (fun _=>[]) (fun k _=>∀j<k,a[j]?=b[j]?) (fun j s=>vv s (by omega)) (ai rfl) trivial trivial (fun _=>rfl) (fun _=>rfl) ?_;rintro k ⟨⟩ r f _ _ _;refine ah (fun c=>?_) (fun n=>?_)
 ·have c:k<a.length:=by rw[m] at c;omega
  refine ck c fun x q p=>?_;refine ck (l:=b) (k:=k) (by omega) fun y o _=>?_;refine cA q ?_;refine cA o ?_;refine aF (u x p y) rfl fun _=>?_;refine aq (fun h=>?_) (fun h=>?_)
  ·have h:¬x=y:=LC (by simpa using h);exact ay rfl (vz C.bool (ig (F4 q o h)))
  ·have h:x=y:=Ec (by simpa using h);refine Fit.aae (by omega) (by omega) ?_;exact⟨(k+1,()),⟨c,zk f q o h⟩,⟨bw,trivial⟩,trivial,bB c⟩
 ·have n:¬k<a.length:=by rw[m] at n;omega
  have r:k=a.length:=by omega
  exact ay rfl (vz C.bool (rF (uq rfl d.symm (r▸f))))
theorem t56:∀x y:Ty,qN 56 [aP x,aP y] (x=y):=fun x=>cV (p:=fun x=>∀y,qN 56 [aP x,aP y] (x=y)) (fun x a y=>by
  refine af Tryz.func56 OZ rfl fun b _=>?_;refine ah (fun h0=>?_) (fun h0=>ay rfl (vz C.bool (ig fun e=>h0 (by rw[e]))));refine ah (fun h1=>?_) (fun h1=>ay rfl (vz C.bool (ig fun e=>h1 (by rw[e]))));refine aF (W8 x.args y.args a) rfl fun _=>?_;exact ay rfl (vz C.bool (vD ⟨fun h=>wk h0 h1 h,fun e=>by rw[e]⟩))) x
theorem cap (n:Nat):(n:Int)+1=((n+1:Nat):Int):=rfl
theorem Rv {n:Int}(h:-9223372036854775808<=n) (k:n<=9223372036854775807):Wf (IC n):=by
 simp only[Wf,Lit.wf,aaN,aa0,IntKind.min,IntKind.max,IntKind.signed,IntKind.bits];exact⟨by simpa using h,by simpa using by omega⟩
theorem Wd {a b:Nat}(h:a<=2 ^ 40) (k:b<=2 ^ 40):Wf (IC (if(b:Int)>(a:Int) then(b:Int) else(a:Int))):=Rv (by split<;>omega) (by split<;>omega)
theorem Uz {a b c:Nat}(h:max a b=c):(if(b:Int)>(a:Int) then(b:Int) else(a:Int))=(c:Int):=by
 split<;>omega
theorem t7:∀t:Ty,bW t<=2 ^ 40->CallsT P 7 [aP t] [] (aR [] (IC (bW t))):=cV fun t p hd=>by
 have r:cG t.args<2 ^ 40:=by rw[cQ] at hd;omega
 have p:∀x∈t.args,CallsT P 7 [aP x] [] (aR [] (IC (bW x))):=fun x h=>p x h (by have:=jY h;omega);have u:=cQ t;have f:∀k x,t.args[k]?=some x->cG (t.args.take (k+1))=max (cG (t.args.take k)) (bW x):=fun k x h=>by rw[fL h,vE]
 have j:=Bs t.args;have e:cG (t.args.take t.args.length)=cG t.args:=by rw[List.take_length]
 have h0:cG (t.args.take 0)=0:=rfl;generalize cG=D at f j e h0 u r;generalize bW=E at p u f;refine af Tryz.func7 SJ rfl fun y _=>?_;have s:t.args.length<=9223372036854775807:=fB y.1.2.2.1;have l:(t.args.map aD).length=t.args.length:=xo _;refine bN t.args.length 4 [3] (0:Nat) (fun n=>[IC n]) (fun _=>[]) (fun k n=>n=D (t.args.take k)) h0.symm (ai rfl) ⟨ai rfl,trivial⟩ trivial (fun _=>rfl) (fun _=>rfl) ?_;rintro k n v m w _ _;refine ah (fun d=>?_) (fun o=>?_)
 ·have d:k<t.args.length:=by rw[l] at d;omega
  refine ck d fun x h q=>?_;refine cA h ?_;refine aF (p x q) rfl fun _=>?_;have z:=j (k+1);have hs:=f k x h;refine⟨?_,?_⟩
  ·exact Wd (a:=n) (b:=E x) (by omega) (by omega)
  refine Fit.aae (by omega) (by omega) ?_;exact⟨(k+1,D (t.args.take (k+1))),⟨d,rfl⟩,⟨bw,.inr (.inl ⟨vz IC (Uz (a:=n) (b:=E x) (c:=D (t.args.take (k+1))) (by omega)),rfl⟩),trivial⟩,trivial,bB d⟩
 ·have o:¬k<t.args.length:=by rw[l] at o;omega
  have v:k=t.args.length:=by omega
  rw[v,e] at m;refine Fit.aae (by omega) (by omega) ?_;exact ay rfl (vz IC (by omega))
theorem UA:∀t:Ty,bW t<=2 ^ 40->CallsT P 43 [aP t] [] (aR [] (IC (bW t))):=cV fun t p hd=>by
 have r:cG t.args<2 ^ 40:=by rw[cQ] at hd;omega
 have p:∀x∈t.args,CallsT P 43 [aP x] [] (aR [] (IC (bW x))):=fun x h=>p x h (by have:=jY h;omega);have u:=cQ t;have f:∀k x,t.args[k]?=some x->cG (t.args.take (k+1))=max (cG (t.args.take k)) (bW x):=fun k x h=>by rw[fL h,vE]
 have j:=Bs t.args;have e:cG (t.args.take t.args.length)=cG t.args:=by rw[List.take_length]
 have h0:cG (t.args.take 0)=0:=rfl;generalize cG=D at f j e h0 u r;generalize bW=E at p u f;refine af Tryz.func43 OQ rfl fun y _=>?_;have s:t.args.length<=9223372036854775807:=fB y.1.2.2.1;have l:(t.args.map aD).length=t.args.length:=xo _;refine bN t.args.length 9 [3] (0:Nat) (fun n=>[IC n]) (fun _=>[]) (fun k n=>n=D (t.args.take k)) h0.symm (ai rfl) ⟨ai rfl,trivial⟩ trivial (fun _=>rfl) (fun _=>rfl) ?_;rintro k n v m w _ _;refine ah (fun d=>?_) (fun o=>?_)
 ·have d:k<t.args.length:=by rw[l] at d;omega
  refine ck d fun x h q=>?_;refine cA h ?_;refine aF (p x q) rfl fun _=>?_;have z:=j (k+1);have hs:=f k x h;refine⟨?_,?_⟩
  ·exact Wd (a:=n) (b:=E x) (by omega) (by omega)
  refine Fit.aae (by omega) (by omega) ?_;exact⟨(k+1,D (t.args.take (k+1))),⟨d,rfl⟩,⟨bw,.inr (.inl ⟨vz IC (Uz (a:=n) (b:=E x) (c:=D (t.args.take (k+1))) (by omega)),rfl⟩),trivial⟩,trivial,bB d⟩
 ·have o:¬k<t.args.length:=by rw[l] at o;omega
  have v:k=t.args.length:=by omega
  rw[v,e] at m;refine Fit.aae (by omega) (by omega) ?_;exact ay rfl (vz IC (by omega))
theorem ur {a:Type}{p:a->Bool}{l:List a}{k:Nat}{x:a}(hd:l.drop k=x::l.drop (k+1)) (hi:(l.drop k).all p=l.all p) (b:p x=true):(l.drop (k+1)).all p=l.all p:=by
 rw[hd,abg,b,aaW] at hi;exact hi
theorem LF {a:Type}{p:a->Bool}{l:List a}{k:Nat}{x:a}(hd:l.drop k=x::l.drop (k+1)) (hi:(l.drop k).all p=l.all p) (b:p x=false):false=l.all p:=by
 rw[hd,abg,b,aaY] at hi;exact hi
theorem Hv {a:Type}{p:a->Bool}{l:List a}{k:Nat}(h:¬k<l.length) (hi:(l.drop k).all p=l.all p):true=l.all p:=by
 rw[bU h,List.all_nil] at hi;exact hi
theorem LG {a:Type}{p:a->Bool}{l:List a}{k:Nat}{x:a}(hd:l.drop k=x::l.drop (k+1)) (hi:(l.drop k).any p=l.any p) (b:p x=false):(l.drop (k+1)).any p=l.any p:=by
 rw[hd,abD,b,Bool.false_or] at hi;exact hi
theorem P0 {a:Type}{p:a->Bool}{l:List a}{k:Nat}{x:a}(hd:l.drop k=x::l.drop (k+1)) (hi:(l.drop k).any p=l.any p) (b:p x=true):true=l.any p:=by
 rw[hd,abD,b,Bool.true_or] at hi;exact hi
theorem P1 {a:Type}{p:a->Bool}{l:List a}{k:Nat}(h:¬k<l.length) (hi:(l.drop k).any p=l.any p):false=l.any p:=by
 rw[bU h,List.any_nil] at hi;exact hi
theorem YO (n:Int):∀t:Ty,CallsT P 91 [aP t,IC n] [] (aR [] (.bool (ins n t))):=cV fun t o=>by
 have he:=qL n t;have l:=PZ t;have c:(t.args.map aD).length=t.args.length:=xo _;generalize ins n=f at he o ⊢;refine af Tryz.func91 Po rfl fun p _=>?_;have m:t.args.length<=9223372036854775807:=fB p.1.2.2.1;refine ah (fun h1=>?_) (fun h1=>?_)
 ·exact ay rfl (vz C.bool (by rw[he,fo (Or.inl h1)]))
 refine ah (fun h2=>?_) (fun h2=>?_)
 ·exact ay rfl (vz C.bool (by rw[he,fo (Or.inr h2)]))
 rw[o5 (by omega)] at he;refine aF l rfl fun _=>?_;refine ah (fun h3=>?_) (fun h3=>?_)
 ·rw[fo h3] at he;refine ah (fun h4=>?_) (fun h4=>?_)
  ·refine ah (fun h5=>?_) (fun h5=>?_)
   ·exact ay rfl (vz C.bool (by rw[he,aaP (show(0:Int)<=t.id from h4),aaP h5,aaW,aaW];exact decide_eq_decide.2 (by rw[c];omega)))
   ·exact ay rfl (vz C.bool (by rw[he,aaS h5,abl,aaY]))
  ·exact ay rfl (vz C.bool (by rw[he,aaS (show¬(0:Int)<=t.id from h4),aaY,aaY]))
 rw[o5 h3] at he;refine bN t.args.length 5 [] () (fun _=>[]) (fun _=>[]) (fun k _=>(t.args.drop k).all f=t.args.all f) rfl (ai rfl) trivial trivial (fun _=>rfl) (fun _=>rfl) ?_;rintro k _ r b _ _ _;refine ah (fun a=>?_) (fun d=>?_)
 ·have a:k<t.args.length:=by rw[c] at a;omega
  refine bf a fun x q j e=>?_;refine cA q ?_;refine aF (o x j) rfl fun _=>?_;refine aq (fun h=>?_) (fun h=>?_)
  ·exact ay rfl (vz C.bool (by rw[he];exact LF e b (by simpa using h)))
  ·refine Fit.aae (by omega) (by omega) ?_;exact⟨(k+1,()),⟨a,ur e b (by simpa using h)⟩,⟨bw,trivial⟩,trivial,bB a⟩
 ·have d:¬k<t.args.length:=by rw[c] at d;omega
  exact ay rfl (vz C.bool (by rw[he];exact Hv d b))
theorem W9 (a:List Ty) (t x:Ty) (h1:t.kind=5) (h2:0<=t.id) (h3:t.id<a.length) (c:a[t.id.toNat]?=some x):CallsT P 53 [aP t,.pt [.sl (a.map aD)] 0] [] (aR [] (.tup [aP x,.bool true])):=by
 have b:(a.map aD).length=a.length:=xo _;refine af Tryz.func53 G8 rfl fun d _=>?_;refine ah (fun _=>?_) (fun q=>vv h1 q);refine ah (fun _=>?_) (fun q=>vv h2 q);refine ah (fun _=>?_) (fun q=>vv (by rw[b];exact h3) q);refine(vz (fun z=>tL (a.map aD) z 3 _) (show t.id=(t.id.toNat:Int) by omega)).mpr ?_;refine cA c ?_;exact ay rfl rfl
theorem Xa (a:List Ty) (t:Ty) (h:¬(t.kind=5/\0<=t.id/\t.id<a.length)):CallsT P 53 [aP t,.pt [.sl (a.map aD)] 0] [] (aR [] (.tup [aP t,.bool false])):=by
 have b:(a.map aD).length=a.length:=xo _;refine af Tryz.func53 G8 rfl fun c _=>?_;refine ah (fun h1=>ah (fun h2=>ah (fun h3=>vv ⟨h1,h2,by rw[b] at h3;exact h3⟩ h) (fun _=>?_)) (fun _=>?_)) (fun _=>?_)
 all_goals exact ay rfl rfl
theorem Xb (els:List (List C)) (t x:Ty) (h:CallsT P 53 [aP t,.pt [.sl els] 0] [] (aR [] (.tup [aP x,.bool true]))):CallsT P 52 [aP t,.fn 53 [] [.pt [.sl els] 0]] [] (aR [] (aP x)):=by
 refine af Tryz.func52 G7 rfl fun a _=>?_;refine aF h rfl fun _=>?_;exact ay rfl rfl
theorem Xc (els:List (List C)) (t:Ty) (f:Ty->Ty) (hb:t.args.length<=2 ^ 30) (h:CallsT P 53 [aP t,.pt [.sl els] 0] [] (aR [] (.tup [aP t,.bool false])))
  (m:∀x∈t.args,CallsT P 52 [aP x,.fn 53 [] [.pt [.sl els] 0]] [] (aR [] (aP (f x)))):CallsT P 52 [aP t,.fn 53 [] [.pt [.sl els] 0]] [] (aR [] (aP (.mk t.kind t.id (t.args.map f)))):=by
 have c:(t.args.map aD).length=t.args.length:=xo _;refine af Tryz.func52 G7 rfl fun p _=>?_;refine aF h rfl fun _=>?_;refine bN t.args.length 26 [] ([]:List Ty) (fun _=>[]) (fun s=>[(4,.box 33 [IC 0,IC 0,.nils]),(5,.box 33 [IC t.kind,IC t.id,.sl (t.args.map aD)]),(7,.box 33 [IC t.kind,IC t.id,.rw 36]),(36,.row 33 3 (s.map aD))]) (fun j s=>s=(t.args.take j).map f) (by simp) (ai rfl) trivial
  ⟨.inl ⟨_,rfl,.inl ⟨rfl,rfl⟩⟩,.inl ⟨_,rfl,.inl ⟨rfl,rfl⟩⟩,.inl ⟨_,rfl,.inr ⟨33,_,_,rfl,rfl,_,_,rfl,ai rfl,_,_,rfl,ai rfl,_,_,rfl,kK rfl rfl,rfl⟩⟩,.inr ⟨rfl,33,3,rfl⟩,trivial⟩ (fun _=>rfl) (fun _=>rfl) ?_
 rintro j s o b _ _ _;refine ah (fun a=>?_) (fun d=>?_)
 ·have a:j<t.args.length:=by rw[c] at a;omega
  refine ck a fun x l k=>?_;have n:(s.map aD).length=j:=by rw[b,xo,xo,abF];omega
  refine cA l ?_;refine bG (m x k) rfl fun _=>?_;refine lD j rfl n (by decide) (by omega) ?_;refine Fit.aae (by omega) (by omega) ?_;refine⟨(j+1,s++[f x]),⟨a,?_⟩,⟨bw,trivial⟩,⟨.inl ⟨_,rfl,.inl ⟨rfl,rfl⟩⟩,.inl ⟨_,rfl,.inl ⟨rfl,rfl⟩⟩,.inl ⟨_,rfl,.inl ⟨rfl,rfl⟩⟩,.inl ⟨_,rfl,.inl ⟨nN vF,rfl⟩⟩,trivial⟩,bB a⟩;show s++[f x]=(t.args.take (j+1)).map f;rw[fL l,b,abx];rfl
 ·have d:¬j<t.args.length:=by rw[c] at d;omega
  have e:C.agg [IC t.kind,IC t.id,.sl (s.map aD)]=aP (.mk t.kind t.id (t.args.map f)):=by
   rw[b,abz (by omega)];rfl
  exact yT [36] [] ⟨_,[],rfl,rfl,rfl,rfl,e⟩
theorem t52 (a:List Ty):∀t:Ty,iA t->CallsT P 52 [aP t,.fn 53 [] [.pt [.sl (a.map aD)] 0]] [] (aR [] (aP (subst a t))):=cV fun t c hb=>by
 have hb:=(fu t).1 hb;rw[subst_eq]
 by_cases h:t.kind=5/\0<=t.id/\t.id<a.length
 ·rw[fo h];obtain⟨h1,h2,h3⟩:=h;obtain⟨x,b⟩:=fK (l:=a) (k:=t.id.toNat) (by omega);rw[b];exact Xb _ t x (W9 a t x h1 h2 h3 b)
 ·rw[o5 h];exact Xc _ t _ hb.1 (Xa a t h) fun x b=>c x b (hb.2 x b)
theorem t26 (a:List Ty) (t:Ty) (hb:iA t):CallsT P 26 [.sl (a.map aD),aP t] [] (aR [] (aP (subst a t))):=by
 have h:=t52 a t hb;generalize subst a t=r at h ⊢;refine af Tryz.func26 OC rfl fun b _=>?_;refine aF h rfl fun _=>?_;exact ay rfl rfl
def fidx (q:Ty->Bool):List Ty->Int->Int
 | [],_=>-1
 | x::l,k=>if q x then k else fidx q l (k+1)
theorem uw {q:Ty->Bool}{l:List Ty}{k:Nat}{x:Ty}{r:Int}(hd:l.drop k=x::l.drop (k+1)) (hi:fidx q (l.drop k) k=r) (a:q x=true):(k:Int)=r:=by
 rw[hd,fidx,fo a] at hi;exact hi
theorem xC {q:Ty->Bool}{l:List Ty}{k:Nat}{x:Ty}{r:Int}(hd:l.drop k=x::l.drop (k+1)) (hi:fidx q (l.drop k) k=r) (a:q x=false):fidx q (l.drop (k+1)) ((k+1:Nat):Int)=r:=by
 rw[hd,fidx,o5 (by rw[a];exact abf)] at hi;exact hi
theorem uy {q:Ty->Bool}{l:List Ty}{k:Nat}{r:Int}(h:¬k<l.length) (hi:fidx q (l.drop k) k=r):(-1:Int)=r:=by
 rw[bU h,fidx] at hi;exact hi
theorem Bu (q:Ty->Bool):∀(l:List Ty) (k:Int),0<=k->decide (0<=fidx q l k)=l.any q
 | [],k,_=>rfl
 | x::l,k,h=>by
  rw[fidx,abD];cases a:q x
  ·rw[o5 abf,Bool.false_or];exact Bu q l (k+1) (by omega)
  ·rw[fo rfl,Bool.true_or];exact aaP h
theorem uz (q:Ty->Bool) (l:List Ty):decide (fidx q l 0>=0)=l.any q:=Bu q l 0 (aa7 _)
theorem UB (es:List C) (pa:Int) (pc:List C) (l:List Ty) (q:Ty->Bool) (h:∀x∈l,CallsT P 46 [aP x,.pt es 0,.own 1000 0] [.box 85 [.fn 44 [] [.pt [IC pa] 0,.pt pc 0,.own 1000 0]]] (aR [.box 85 [.fn 44 [] [.pt [IC pa] 0,.pt pc 0,.own 1000 0]]] (.bool (q x)))) :
  CallsT P 76 [.sl (l.map aD),.fn 46 [] [.pt es 0,.own 1000 0]] [.box 85 [.fn 44 [] [.pt [IC pa] 0,.pt pc 0,.own 1000 0]]] (aR [.box 85 [.fn 44 [] [.pt [IC pa] 0,.pt pc 0,.own 1000 0]]] (IC (fidx q l 0))):=by
 have e:(l.map aD).length=l.length:=xo _;refine af Tryz.func76 xu rfl fun n _=>?_;have m:l.length<=9223372036854775807:=fB n.1;refine bN l.length 8 [] () (fun _=>[]) (fun _=>[(1000,.box 85 [.fn 44 [] [.pt [IC pa] 0,.pt pc 0,.own 1000 0]])]) (fun k _=>fidx q (l.drop k) k=fidx q l 0) rfl (ai rfl) trivial ⟨.inl ⟨_,rfl,.inl ⟨rfl,rfl⟩⟩,trivial⟩ (fun _=>rfl) (fun _=>rfl) ?_;rintro k _ p b _ _ _;refine ah (fun a=>?_) (fun c=>?_)
 ·have a:k<l.length:=by rw[e] at a;omega
  refine bf a fun x o f d=>?_;refine cA o ?_;refine callO [1000] [1000] (h x f) rfl rfl rfl rfl rfl fun _ _=>?_;refine aq (fun j=>?_) (fun j=>?_)
  ·exact bP [1000] rfl rfl rfl (vz IC (uw d b j))
  ·refine Fit.aae (by omega) (by omega) ?_;exact⟨(k+1,()),⟨a,xC d b j⟩,⟨bw,trivial⟩,⟨.inl ⟨_,rfl,.inl ⟨rfl,rfl⟩⟩,trivial⟩,bB a⟩
 ·have c:¬k<l.length:=by rw[e] at c;omega
  exact bP [1000] rfl rfl rfl (vz IC (uy c b))
theorem UC (es:List C) (pa:Int) (pc:List C) (l:List Ty) (q:Ty->Bool) (h:∀x∈l,CallsT P 46 [aP x,.pt es 0,.own 1000 0] [.box 85 [.fn 44 [] [.pt [IC pa] 0,.pt pc 0,.own 1000 0]]] (aR [.box 85 [.fn 44 [] [.pt [IC pa] 0,.pt pc 0,.own 1000 0]]] (.bool (q x)))) :
  CallsT P 45 [.sl (l.map aD),.fn 46 [] [.pt es 0,.own 1000 0]] [.box 85 [.fn 44 [] [.pt [IC pa] 0,.pt pc 0,.own 1000 0]]] (aR [.box 85 [.fn 44 [] [.pt [IC pa] 0,.pt pc 0,.own 1000 0]]] (.bool (l.any q))):=by
 have a:=UB es pa pc l q h;have e:=uz q l;generalize fidx q l 0=n at a e;refine af Tryz.func45 xj rfl fun b _=>?_;refine callO [1000] [1000] a rfl rfl rfl rfl rfl fun _ _=>?_;exact bP [1000] rfl rfl rfl (vz C.bool e)
def C5 (ds:List Api.Data) (k i:Int):Option Int :=
 if k=1\/k=6 then some 0 else if k=2 then(if i<0\/(ds.length:Int)<=i then none else some ((ds[i.toNat]?).map (·.params) |>.getD 0)) else if k=3\/k=4\/k=8\/k=7 then some 1 else none
mutual
def wK (ds:List Api.Data) (pa:Int):Ty->Bool
 | .mk k i l=>if k=5 then decide (0<=i)&&decide (i<pa)&&decide (l.length=0) else
  match C5 ds k i with
  | none=>false
  | some n=>if(k≠2/\i≠0)\/(l.length:Int)≠n then false else !Wg ds pa k l
def Wg (ds:List Api.Data) (pa:Int) (k:Int):List Ty->Bool
 | []=>false
 | x::l=>((!jc x&&!(decide (k=7)&&decide (x.kind=6)))||!wK ds pa x)||Wg ds pa k l
end
def F9 (ds:List Api.Data) (pa k:Int) (x:Ty):Bool:=(!jc x&&!(decide (k=7)&&decide (x.kind=6)))||!wK ds pa x
theorem Hw (ds:List Api.Data) (pa k:Int):∀l:List Ty,Wg ds pa k l=l.any (F9 ds pa k)
 | []=>rfl
 | t::l=>by rw[Wg,Hw ds pa k l,abD];rfl
theorem mT (ds:List Api.Data) (pa:Int) (t:Ty):wK ds pa t=if t.kind=5 then decide (0<=t.id)&&decide (t.id<pa)&&decide (t.args.length=0) else
  match C5 ds t.kind t.id with
  | none=>false
  | some n=>if(t.kind≠2/\t.id≠0)\/(t.args.length:Int)≠n then false else !t.args.any (F9 ds pa t.kind):=by
 cases t;rw[wK,Hw];rfl
abbrev F48 (pa:Int) (p:Prog):C:=.fn 44 [] [.pt [IC pa] 0,.pt (kh p) 0,.own 1000 0]
abbrev Ug (pa:Int) (p:Prog):List TO:=[.box 85 [F48 pa p]]
abbrev wL (pa:Int) (p:Prog) (t:Ty) (b:Bool):Prop:=CallsT P 44 [aP t,.pt [IC pa] 0,.pt (kh p) 0,.own 1000 0] (Ug pa p) (aR (Ug pa p) (.bool b))
theorem t46 (pa:Int) (p:Prog) (t x:Ty) (b:Bool) (h:wL pa p x b) :
  CallsT P 46 [aP x,.pt [IC t.kind,IC t.id,.sl (t.args.map aD)] 0,.own 1000 0] (Ug pa p) (aR (Ug pa p) (.bool ((!jc x&&!(decide (t.kind=7)&&decide (x.kind=6)))||!b))):=by
 have a:=t47 x;generalize jc x=s at a ⊢;refine af Tryz.func46 OT rfl fun c _=>?_;refine ah (fun h1=>?_) (fun h1=>?_)
 ·refine aF a rfl fun _=>?_;cases s
  ·refine aq (fun h2=>?_) (fun h2=>?_)
   ·refine bP [1000] rfl rfl rfl (vz C.bool ?_);have h2:decide (x.kind=6)=false:=by simpa using h2
    rw[h2,aaP (show t.kind=7 from h1)];rfl
   ·refine callO [1000] [1000] h rfl rfl rfl rfl rfl fun _ _=>?_;refine bP [1000] rfl rfl rfl (vz C.bool ?_);have h2:decide (x.kind=6)=true:=by simpa using h2
    rw[h2,aaP (show t.kind=7 from h1)];rfl
  ·refine callO [1000] [1000] h rfl rfl rfl rfl rfl fun _ _=>?_;exact bP [1000] rfl rfl rfl (vz C.bool rfl)
 ·refine aF a rfl fun _=>?_;cases s
  ·refine bP [1000] rfl rfl rfl (vz C.bool ?_);rw[aaS (show¬t.kind=7 from h1)];rfl
  ·refine callO [1000] [1000] h rfl rfl rfl rfl rfl fun _ _=>?_;exact bP [1000] rfl rfl rfl (vz C.bool rfl)
theorem Ga {ds:List Api.Data}{z:Int}{d:Api.Data}{K:List C->Prop}(h0:0<=z) (a:ds[z.toNat]?=some d) (h:K [.str d.name,IC d.module,IC d.params,.sl (d.variants.map uj),IC d.drop]):tL (ds.map lC) z 5 K :=
 ⟨_,h0,by simp only[aa6,a,abt];rfl,rfl,h⟩
theorem uD {l:List Ty}:((l.map aD).length:Int)=(l.length:Int):=by rw[xo]
theorem aV {p:Prop}[Decidable p] {A B:Prop}(h:¬p->A) (k:p->B):zW (!decide p) A B:=by
 by_cases a:p
 ·rw[aaP a];exact k a
 ·rw[aaS a];exact h a
structure Rw (pa:Int) (p:Prog) (t:Ty) (bad:Ty->Bool):Prop where
 h49:CallsT P 45 [.sl (t.args.map aD),.fn 46 [] [.pt [IC t.kind,IC t.id,.sl (t.args.map aD)] 0,.own 1000 0]] (Ug pa p) (aR (Ug pa p) (.bool (t.args.any bad)))
theorem UD (pa:Int) (p:Prog) (t:Ty) (a:Ty->Bool) (X:Rw pa p t a) (c:t.kind=1):wL pa p t (if t.id≠0\/(t.args.length:Int)≠0 then false else !t.args.any a):=by
 refine af Tryz.func44 kS rfl fun b _=>?_;refine ah (fun _=>?_) (fun q=>vv (by omega) q);refine ah (fun _=>?_) (fun q=>vv (by omega) q);refine aV (fun _=>?_) (fun q=>vv q (by omega));refine aV (fun h3=>?_) (fun h3=>?_)
 ·exact bP [1000] rfl rfl rfl (vz C.bool (fo (Or.inl h3)).symm)
 refine aV (fun h4=>?_) (fun h4=>?_)
 ·exact bP [1000] rfl rfl rfl (vz C.bool (fo (Or.inr (by rw[<-uD];exact h4))).symm)
 refine callO [1000] [1000] X.h49 rfl rfl rfl rfl rfl fun _ _=>?_;exact bP [1000] rfl rfl rfl (vz C.bool (o5 (by rw[<-uD];exact fun q=>q.elim (fun q=>q h3) (fun q=>q h4))).symm)
theorem UE (pa:Int) (p:Prog) (t:Ty) (a:Ty->Bool) (X:Rw pa p t a) (c:t.kind=6):wL pa p t (if t.id≠0\/(t.args.length:Int)≠0 then false else !t.args.any a):=by
 refine af Tryz.func44 kS rfl fun b _=>?_;refine ah (fun q=>vv q (by omega)) (fun _=>?_);refine ah (fun _=>?_) (fun q=>vv (by omega) q);refine aV (fun _=>?_) (fun q=>vv q (by omega));refine aV (fun h3=>?_) (fun h3=>?_)
 ·exact bP [1000] rfl rfl rfl (vz C.bool (fo (Or.inl h3)).symm)
 refine aV (fun h4=>?_) (fun h4=>?_)
 ·exact bP [1000] rfl rfl rfl (vz C.bool (fo (Or.inr (by rw[<-uD];exact h4))).symm)
 refine callO [1000] [1000] X.h49 rfl rfl rfl rfl rfl fun _ _=>?_;exact bP [1000] rfl rfl rfl (vz C.bool (o5 (by rw[<-uD];exact fun q=>q.elim (fun q=>q h3) (fun q=>q h4))).symm)
theorem UF (pa:Int) (p:Prog) (t:Ty) (a:Ty->Bool) (X:Rw pa p t a) (c:t.kind=3):wL pa p t (if t.id≠0\/(t.args.length:Int)≠1 then false else !t.args.any a):=by
 refine af Tryz.func44 kS rfl fun b _=>?_;refine ah (fun q=>vv q (by omega)) (fun _=>?_);refine ah (fun q=>vv q (by omega)) (fun _=>?_);refine ah (fun q=>vv q (by omega)) (fun _=>?_);refine ah (fun q=>vv q (by omega)) (fun _=>?_);refine ah (fun _=>?_) (fun q=>vv (by omega) q);refine ah (fun _=>?_) (fun q=>vv (by omega) q);refine aV (fun _=>?_) (fun q=>vv q (by omega));refine aV (fun h3=>?_) (fun h3=>?_)
 ·exact bP [1000] rfl rfl rfl (vz C.bool (fo (Or.inl h3)).symm)
 refine aV (fun h4=>?_) (fun h4=>?_)
 ·exact bP [1000] rfl rfl rfl (vz C.bool (fo (Or.inr (by rw[<-uD];exact h4))).symm)
 refine callO [1000] [1000] X.h49 rfl rfl rfl rfl rfl fun _ _=>?_;exact bP [1000] rfl rfl rfl (vz C.bool (o5 (by rw[<-uD];exact fun q=>q.elim (fun q=>q h3) (fun q=>q h4))).symm)
theorem UG (pa:Int) (p:Prog) (t:Ty) (a:Ty->Bool) (X:Rw pa p t a) (c:t.kind=4):wL pa p t (if t.id≠0\/(t.args.length:Int)≠1 then false else !t.args.any a):=by
 refine af Tryz.func44 kS rfl fun b _=>?_;refine ah (fun q=>vv q (by omega)) (fun _=>?_);refine ah (fun q=>vv q (by omega)) (fun _=>?_);refine ah (fun q=>vv q (by omega)) (fun _=>?_);refine ah (fun q=>vv q (by omega)) (fun _=>?_);refine ah (fun q=>vv q (by omega)) (fun _=>?_);refine ah (fun _=>?_) (fun q=>vv (by omega) q);refine ah (fun _=>?_) (fun q=>vv (by omega) q);refine aV (fun _=>?_) (fun q=>vv q (by omega));refine aV (fun h3=>?_) (fun h3=>?_)
 ·exact bP [1000] rfl rfl rfl (vz C.bool (fo (Or.inl h3)).symm)
 refine aV (fun h4=>?_) (fun h4=>?_)
 ·exact bP [1000] rfl rfl rfl (vz C.bool (fo (Or.inr (by rw[<-uD];exact h4))).symm)
 refine callO [1000] [1000] X.h49 rfl rfl rfl rfl rfl fun _ _=>?_;exact bP [1000] rfl rfl rfl (vz C.bool (o5 (by rw[<-uD];exact fun q=>q.elim (fun q=>q h3) (fun q=>q h4))).symm)
theorem UH (pa:Int) (p:Prog) (t:Ty) (a:Ty->Bool) (X:Rw pa p t a) (c:t.kind=8):wL pa p t (if t.id≠0\/(t.args.length:Int)≠1 then false else !t.args.any a):=by
 refine af Tryz.func44 kS rfl fun b _=>?_;refine ah (fun q=>vv q (by omega)) (fun _=>?_);refine ah (fun q=>vv q (by omega)) (fun _=>?_);refine ah (fun q=>vv q (by omega)) (fun _=>?_);refine ah (fun q=>vv q (by omega)) (fun _=>?_);refine ah (fun q=>vv q (by omega)) (fun _=>?_);refine ah (fun q=>vv q (by omega)) (fun _=>?_);refine ah (fun _=>?_) (fun q=>vv (by omega) q);refine ah (fun _=>?_) (fun q=>vv (by omega) q);refine aV (fun _=>?_) (fun q=>vv q (by omega));refine aV (fun h3=>?_) (fun h3=>?_)
 ·exact bP [1000] rfl rfl rfl (vz C.bool (fo (Or.inl h3)).symm)
 refine aV (fun h4=>?_) (fun h4=>?_)
 ·exact bP [1000] rfl rfl rfl (vz C.bool (fo (Or.inr (by rw[<-uD];exact h4))).symm)
 refine callO [1000] [1000] X.h49 rfl rfl rfl rfl rfl fun _ _=>?_;exact bP [1000] rfl rfl rfl (vz C.bool (o5 (by rw[<-uD];exact fun q=>q.elim (fun q=>q h3) (fun q=>q h4))).symm)
theorem UI (pa:Int) (p:Prog) (t:Ty) (a:Ty->Bool) (X:Rw pa p t a) (c:t.kind=7):wL pa p t (if t.id≠0\/(t.args.length:Int)≠1 then false else !t.args.any a):=by
 refine af Tryz.func44 kS rfl fun b _=>?_;refine ah (fun q=>vv q (by omega)) (fun _=>?_);refine ah (fun q=>vv q (by omega)) (fun _=>?_);refine ah (fun q=>vv q (by omega)) (fun _=>?_);refine ah (fun q=>vv q (by omega)) (fun _=>?_);refine ah (fun q=>vv q (by omega)) (fun _=>?_);refine ah (fun q=>vv q (by omega)) (fun _=>?_);refine ah (fun q=>vv q (by omega)) (fun _=>?_);refine ah (fun _=>?_) (fun q=>vv (by omega) q);refine aV (fun _=>?_) (fun q=>vv q (by omega));refine aV (fun h3=>?_) (fun h3=>?_)
 ·exact bP [1000] rfl rfl rfl (vz C.bool (fo (Or.inl h3)).symm)
 refine aV (fun h4=>?_) (fun h4=>?_)
 ·exact bP [1000] rfl rfl rfl (vz C.bool (fo (Or.inr (by rw[<-uD];exact h4))).symm)
 refine callO [1000] [1000] X.h49 rfl rfl rfl rfl rfl fun _ _=>?_;exact bP [1000] rfl rfl rfl (vz C.bool (o5 (by rw[<-uD];exact fun q=>q.elim (fun q=>q h3) (fun q=>q h4))).symm)
theorem UJ (pa:Int) (p:Prog) (t:Ty) (b:¬(1<=t.kind/\t.kind<=8)):wL pa p t false:=by
 refine af Tryz.func44 kS rfl fun a _=>?_;refine ah (fun q=>vv q (by omega)) (fun _=>?_);refine ah (fun q=>vv q (by omega)) (fun _=>?_);refine ah (fun q=>vv q (by omega)) (fun _=>?_);refine ah (fun q=>vv q (by omega)) (fun _=>?_);refine ah (fun q=>vv q (by omega)) (fun _=>?_);refine ah (fun q=>vv q (by omega)) (fun _=>?_);refine ah (fun q=>vv q (by omega)) (fun _=>?_);refine ah (fun q=>vv q (by omega)) (fun _=>?_);exact bP [1000] rfl rfl rfl rfl
theorem UK (pa:Int) (p:Prog) (t:Ty) (b:t.kind=5):wL pa p t (decide (0<=t.id)&&decide (t.id<pa)&&decide (t.args.length=0)):=by
 refine af Tryz.func44 kS rfl fun a _=>?_;refine ah (fun q=>vv q (by omega)) (fun _=>?_);refine ah (fun q=>vv q (by omega)) (fun _=>?_);refine ah (fun _=>?_) (fun q=>vv (by omega) q);refine ah (fun h4=>?_) (fun h4=>?_)
 ·refine ah (fun h5=>?_) (fun h5=>?_)
  ·exact bP [1000] rfl rfl rfl (vz C.bool (by rw[aaP (show(0:Int)<=t.id from h4),aaP h5,aaW,aaW];exact decide_eq_decide.2 (by rw[xo];omega)))
  ·exact bP [1000] rfl rfl rfl (vz C.bool (by rw[aaS h5,abl,aaY]))
 ·exact bP [1000] rfl rfl rfl (vz C.bool (by rw[aaS (show¬(0:Int)<=t.id from h4),aaY,aaY]))
theorem S0 (pa:Int) (p:Prog) (t:Ty) (c:t.kind=2) (hi:t.id<0\/(p.datas.length:Int)<=t.id):wL pa p t false:=by
 have a:(p.datas.map lC).length=p.datas.length:=xo _;refine af Tryz.func44 kS rfl fun b _=>?_;refine ah (fun q=>vv q (by omega)) (fun _=>?_);refine ah (fun q=>vv q (by omega)) (fun _=>?_);refine ah (fun q=>vv q (by omega)) (fun _=>?_);refine ah (fun _=>?_) (fun q=>vv (by omega) q);refine ah (fun h4=>?_) (fun h4=>?_)
 ·exact bP [1000] rfl rfl rfl rfl
 refine ah (fun h5=>?_) (fun h5=>vv (by rw[a];omega) h5);exact bP [1000] rfl rfl rfl rfl
theorem UL (pa:Int) (p:Prog) (t:Ty) (a:Ty->Bool) (X:Rw pa p t a) (e:t.kind=2) (d:Api.Data) (h0:0<=t.id) (hd:p.datas[t.id.toNat]?=some d):wL pa p t (if(t.args.length:Int)≠d.params then false else !t.args.any a):=by
 have b:(p.datas.map lC).length=p.datas.length:=xo _;have c:t.id.toNat<p.datas.length:=(aaT.1 hd).1;refine af Tryz.func44 kS rfl fun f _=>?_;refine ah (fun q=>vv q (by omega)) (fun _=>?_);refine ah (fun q=>vv q (by omega)) (fun _=>?_);refine ah (fun q=>vv q (by omega)) (fun _=>?_);refine ah (fun _=>?_) (fun q=>vv (by omega) q);refine ah (fun h4=>vv h0 (by omega)) (fun h4=>?_);refine ah (fun h5=>vv h5 (by rw[b];omega)) (fun h5=>?_);refine Ga h0 hd ?_;refine aV (fun q=>vv e q) (fun _=>?_);refine aV (fun h4=>?_) (fun h4=>?_)
 ·exact bP [1000] rfl rfl rfl (vz C.bool (fo (by rw[<-uD];exact h4)).symm)
 refine callO [1000] [1000] X.h49 rfl rfl rfl rfl rfl fun _ _=>?_;exact bP [1000] rfl rfl rfl (vz C.bool (o5 (by rw[<-uD];exact fun q=>q h4)).symm)
theorem t44 (pa:Int) (p:Prog):∀t:Ty,wL pa p t (wK p.datas pa t):=cV fun t a=>by
 have X:Rw pa p t (F9 p.datas pa t.kind):=⟨UC [IC t.kind,IC t.id,.sl (t.args.map aD)] pa (kh p) t.args (F9 p.datas pa t.kind) fun x b=>t46 pa p t x _ (a x b)⟩;rw[mT]
 by_cases h5:t.kind=5
 ·rw[fo h5];exact UK pa p t h5
 rw[o5 h5,C5]
 by_cases h1:t.kind=1\/t.kind=6
 ·rw[fo h1];simp only[ne_eq,show¬t.kind=2 by omega,not_false_eq_true,true_and];rcases h1 with h1 | h1
  ·exact UD pa p t _ X h1
  ·exact UE pa p t _ X h1
 rw[o5 h1]
 by_cases h2:t.kind=2
 ·rw[fo h2]
  by_cases hi:t.id<0\/(p.datas.length:Int)<=t.id
  ·rw[fo hi];exact S0 pa p t h2 hi
  ·rw[o5 hi];obtain⟨d,hd⟩:=fK (l:=p.datas) (k:=t.id.toNat) (by omega);rw[hd];simp only[ne_eq,h2,not_true_eq_false,false_and,false_or,abt,Option.getD_some];rw[<-h2];exact UL pa p t _ X h2 d (by omega) hd
 rw[o5 h2]
 by_cases h3:t.kind=3\/t.kind=4\/t.kind=8\/t.kind=7
 ·rw[fo h3];simp only[ne_eq,h2,not_false_eq_true,true_and];rcases h3 with h3 | h3 | h3 | h3
  ·exact UF pa p t _ X h3
  ·exact UG pa p t _ X h3
  ·exact UH pa p t _ X h3
  ·exact UI pa p t _ X h3
 ·rw[o5 h3];exact UJ pa p t (by omega)
def jd (p:Prog) (pa:Int) (t:Ty):Bool:=if pa<0\/pa>4\/bW t>8 then false else wK p.datas pa t
theorem YP (pa:Int) (p:Prog) (t:Ty) (hd:bW t<=2 ^ 40):CallsT P 18 [.agg (kh p),IC pa,aP t] [] (aR [] (.bool (jd p pa t))):=by
 have a:=UA t hd;have c:=t44 pa p t;rw[jd];generalize bW t=D at a ⊢;generalize wK p.datas pa t=b at c ⊢;refine af Tryz.func18 Ou rfl fun d _=>?_;refine ah (fun h1=>?_) (fun h1=>?_)
 ·exact ay rfl (vz C.bool (fo (Or.inl h1)).symm)
 refine ah (fun h2=>?_) (fun h2=>?_)
 ·exact ay rfl (vz C.bool (fo (Or.inr (Or.inl h2))).symm)
 refine aF a rfl fun _=>?_;refine ah (fun h3=>?_) (fun h3=>?_)
 ·exact ay rfl (vz C.bool (fo (Or.inr (Or.inr (by omega)))).symm)
 refine callO [7] [7] c rfl rfl rfl rfl rfl fun _ _=>?_;exact ay rfl (vz C.bool (o5 (by omega)).symm)
section
variable {α:Type}
def br:List (Int×α)->Int->Option α
 | [],_=>none
 | (k,v)::m,i=>if i=k then some v else br m i
def eV:List (Int×α)->Int->α->List (Int×α)
 | [],i,x=>[(i,x)]
 | (k,v)::m,i,x=>if i=k then(i,x)::m else(k,v)::eV m i x
def j6 (f:α->C) (m:List (Int×α)):List (C×C):=m.map fun p=>(IC p.1,f p.2)
theorem CG (f:α->C) (i:Int):∀m:List (Int×α),vW false (IC i) (j6 f m)=some ((br m i).map f)
 | []=>rfl
 | (k,v)::m=>by
  have a:=CG f i m;simp only[j6,aaZ,vW,jQ,br] at a ⊢
  by_cases h:i=k
  ·rw[aaP h,fo h];rfl
  ·rw[aaS h,o5 h];exact a
theorem LH (f:α->C) (i:Int) (x:α):∀m:List (Int×α),FB false (IC i) (f x) (j6 f m)=some (j6 f (eV m i x))
 | []=>rfl
 | (k,v)::m=>by
  have a:=LH f i x m;simp only[j6,aaZ,FB,jQ,eV] at a ⊢
  by_cases h:i=k
  ·rw[aaP h,fo h];rfl
  ·rw[aaS h,o5 h];simp only[a];rfl
theorem iN (m:List (Int×α)) (i j:Int) (x:α):br (eV m i x) j=if j=i then some x else br m j:=by
 induction m with
 | nil =>
  simp only[eV,br]
 | cons p m a =>
  obtain⟨k,v⟩:=p;simp only[eV]
  by_cases h:i=k
  ·rw[fo h];simp only[br];subst h
   by_cases h2:j=i
   ·rw[fo h2,fo h2]
   ·rw[o5 h2,o5 h2,o5 h2]
  ·rw[o5 h];simp only[br,a]
   by_cases h2:j=k
   ·rw[fo h2,fo h2,o5 (by omega)]
   ·rw[o5 h2,o5 h2]
theorem Eg {f:α->C}{i:Int}{m:List (Int×α)}{Y:C->Prop}{N:Prop}{x:α}(h:br m i=some x) (k:Y (f x)):yq false (j6 f m) (IC i) Y N :=
 ⟨.inl ⟨f x,by rw[CG,h];rfl,k⟩⟩
theorem Eh {f:α->C}{i:Int}{m:List (Int×α)}{Y:C->Prop}{N:Prop}(h:br m i=none) (k:N):yq false (j6 f m) (IC i) Y N :=
 ⟨.inr ⟨by rw[CG,h];rfl,k⟩⟩
theorem P2 {f:α->C}{i:Int}{m:List (Int×α)}{K:List (C×C)->Prop}{x:α}{c:C}(e:c=f x) (k:K (j6 f (eV m i x))):QZ false (j6 f m) (IC i) c K :=
 ⟨_,by rw[e];exact LH f i x m,k⟩
end
mutual
def eqB:Ty->Ty->Bool
 | .mk k i l,.mk k' i' l'=>decide (k=k')&&decide (i=i')&&Gb l l'
def Gb:List Ty->List Ty->Bool
 | [],[]=>true
 | x::l,y::l'=>eqB x y&&Gb l l'
 | _,_=>false
end
mutual
theorem pI:∀x y:Ty,eqB x y=true↔x=y
 | .mk k i l,.mk k' i' l'=>by
  rw[eqB,aaN,aaN,aa0,aa0,Ei l l'];simp only[Ty.mk.injEq,and_assoc]
theorem Ei:∀x y:List Ty,Gb x y=true↔x=y
 | [],[]=>by simp[Gb]
 | [],_::_=>by simp[Gb]
 | _::_,[]=>by simp[Gb]
 | x::l,y::l'=>by rw[Gb,aaN,pI x y,Ei l l',List.cons.injEq]
end
theorem CH (x y:Ty):xA (x=y)=eqB x y:=by
 cases h:eqB x y with
 | true=>exact lY.2 ((pI x y).1 h)
 | false=>exact(ig fun e=>by rw[(pI x y).2 e] at h;cases h).symm
abbrev TM:=List (Int×Ty)
mutual
def jZ (n:Int):Ty->Ty->TM->TM×Bool
 | .mk k i l,t,m=>if k=5 then(if i<0\/n<=i then(m,false) else match br m i with
   | some x=>(m,eqB x t)
   | none=>(eV m i t,true))
  else if k=t.kind/\i=t.id then(if l.length=t.args.length then nj n l t.args m else(m,false)) else(m,false)
def nj (n:Int):List Ty->List Ty->TM->TM×Bool
 | [],_,m=>(m,true)
 | x::l,l',m=>match l' with
  | []=>(m,false)
  | y::l'=>match jZ n x y m with
   | (m',true)=>nj n l l' m'
   | (m',false)=>(m',false)
end
def Jg (n:Int) (p t:Ty) (m:TM):TM×Bool:=if p.kind=5 then(if p.id<0\/n<=p.id then(m,false) else match br m p.id with
   | some x=>(m,eqB x t)
   | none=>(eV m p.id t,true))
  else if p.kind=t.kind/\p.id=t.id then(if p.args.length=t.args.length then nj n p.args t.args m else(m,false)) else(m,false)
theorem uE (n:Int) (p t:Ty) (m:TM):jZ n p t m=Jg n p t m:=by
 cases p;rw[jZ];rfl
abbrev Xd (n:Int):C:=.fn 55 [] [.own 1000 0,.pt [IC n] 0,.own 1001 0]
abbrev Wh (n:Int) (m:TM):List TO:=[.box 64 [Xd n],.box 94 [.mpr 1002],.map (j6 aP m)]
abbrev Ej (n:Int) (p t:Ty) (m:TM) (r:TM×Bool):Prop:=CallsT P 55 [aP p,aP t,.own 1000 0,.pt [IC n] 0,.own 1001 0] (Wh n m) (aR (Wh n r.1) (.bool r.2))
abbrev UM (n:Int) (a b:List Ty) (m:TM) (r:TM×Bool):Prop:=CallsT P 51 [.sl (a.map aD),.sl (b.map aD),Xd n] (Wh n m) (aR (Wh n r.1) (.bool r.2))
theorem Xe (n:Int) (a b:List Ty) (m:TM) (f:Ty->Ty->TM->TM×Bool) (j:List Ty->List Ty->TM->TM×Bool) (v:∀l m,j [] l m=(m,true)) (hz:∀x l y l' m,j (x::l) (y::l') m=match f x y m with
   | (s,true)=>j l l' s
   | (s,false)=>(s,false)) (ih:∀x∈a,∀y m,Ej n x y m (f x y m)):UM n a b m (if a.length=b.length then j a b m else(m,false)):=by
 have p:(a.map aD).length=a.length:=by simp
 have hb:(b.map aD).length=b.length:=by simp
 by_cases e:a.length=b.length
 ·rw[fo e];generalize hr:j a b m=r;refine af Tryz.func51 xk rfl fun z _=>?_;have hm:a.length<=9223372036854775807:=by have:=gS z.1;rwa [p] at this
  refine aV (fun o=>vv (by rw[p,hb,e]) o) (fun o=>?_);refine bN a.length 17 [] m (fun _=>[]) (fun m=>[(1000,.box 64 [Xd n]),(1001,.box 94 [.mpr 1002]),(1002,.map (j6 aP m))]) (fun k m=>j (a.drop k) (b.drop k) m=r) hr (ai rfl) trivial
   ⟨.inl ⟨_,rfl,.inl ⟨rfl,rfl⟩⟩,.inl ⟨_,rfl,.inl ⟨rfl,rfl⟩⟩,.inl ⟨_,rfl,.inl ⟨rfl,rfl⟩⟩,trivial⟩ (fun _=>rfl) (fun _=>rfl) ?_
  rintro k m hk c _ _ _;refine ah (fun d=>?_) (fun h=>?_)
  ·have d:k<a.length:=by rw[p] at d;omega
   refine bf d fun x hx u t=>?_;refine bf (l:=b) (k:=k) (by omega) fun y hy _ w=>?_;have c:=c;rw[t,w,hz] at c;refine cA hx ?_;refine cA hy ?_;refine callO [1000,1001,1002] [1000,1001,1002] (ih x u y m) rfl rfl rfl rfl rfl fun _ _=>?_;generalize f x y m=q at c;obtain⟨s,q⟩:=q;cases q
   ·exact bP [1000,1001,1002] rfl rfl (by rw[<-c];rfl) (by rw[<-c];rfl)
   ·refine Fit.aae (by omega) (by omega) ?_;exact⟨(k+1,s),⟨d,c⟩,⟨bw,trivial⟩,⟨.inl ⟨_,rfl,.inl ⟨rfl,rfl⟩⟩,.inl ⟨_,rfl,.inl ⟨rfl,rfl⟩⟩,.inl ⟨_,rfl,.inl ⟨rfl,rfl⟩⟩,trivial⟩,bB d⟩
  ·have h:¬k<a.length:=by rw[p] at h;omega
   have c:=c;rw[bU h,v] at c;exact bP [1000,1001,1002] rfl rfl (by rw[<-c];rfl) (by rw[<-c];rfl)
 ·rw[o5 e];refine af Tryz.func51 xk rfl fun z _=>?_;refine aV (fun o=>?_) (fun o=>vv (by rw[p,hb] at o;omega) e);exact bP [1000,1001,1002] rfl rfl rfl rfl
theorem Xf (n:Int) (p t:Ty) (m:TM) (r:TM×Bool) (h5:¬p.kind=5) (h1:p.kind=t.kind) (h2:p.id=t.id) (h:UM n p.args t.args m r):Ej n p t m r:=by
 refine af Tryz.func55 ud rfl fun a _=>?_;refine aV (fun _=>?_) (fun q=>vv q h5);refine ah (fun _=>?_) (fun q=>vv h1 q);refine ah (fun _=>?_) (fun q=>vv h2 q);refine callO [1000,1001,1002] [1000,1001,1002] h rfl rfl rfl rfl rfl fun _ _=>?_;exact bP [1000,1001,1002] rfl rfl rfl rfl
theorem Xg (n:Int) (p t:Ty) (m:TM) (h5:¬p.kind=5) (h1:¬(p.kind=t.kind/\p.id=t.id)):Ej n p t m (m,false):=by
 refine af Tryz.func55 ud rfl fun a _=>?_;refine aV (fun _=>?_) (fun q=>vv q h5);refine ah (fun h3=>ah (fun h4=>vv ⟨h3,h4⟩ h1) (fun _=>?_)) (fun _=>?_)
 all_goals exact bP [1000,1001,1002] rfl rfl rfl rfl
theorem Xh (n:Int) (p t:Ty) (m:TM) (h5:p.kind=5) (h1:p.id<0\/n<=p.id):Ej n p t m (m,false):=by
 refine af Tryz.func55 ud rfl fun a _=>?_;refine aV (fun q=>vv h5 q) (fun _=>?_);refine ah (fun h3=>?_) (fun h3=>ah (fun _=>?_) (fun h4=>vv h1 (by omega)))
 all_goals exact bP [1000,1001,1002] rfl rfl rfl rfl
theorem Xi (n:Int) (p t x:Ty) (m:TM) (h5:p.kind=5) (h1:¬(p.id<0\/n<=p.id)) (c:br m p.id=some x):Ej n p t m (m,eqB x t):=by
 have a:=t56 x t;rw[qN,CH] at a;generalize eqB x t=b at a ⊢;refine af Tryz.func55 ud rfl fun d _=>?_;refine aV (fun q=>vv h5 q) (fun _=>?_);refine ah (fun h3=>vv (Or.inl h3) h1) (fun h3=>ah (fun h4=>vv (Or.inr h4) h1) (fun h4=>?_));refine Eg c ?_;refine aF a rfl fun _=>?_;exact bP [1000,1001,1002] rfl rfl rfl rfl
theorem Xj (n:Int) (p t:Ty) (m:TM) (h5:p.kind=5) (h1:¬(p.id<0\/n<=p.id)) (a:br m p.id=none):Ej n p t m (eV m p.id t,true):=by
 refine af Tryz.func55 ud rfl fun b _=>?_;refine aV (fun q=>vv h5 q) (fun _=>?_);refine ah (fun h3=>vv (Or.inl h3) h1) (fun h3=>ah (fun h4=>vv (Or.inr h4) h1) (fun h4=>?_));refine Eh a ?_;refine P2 (x:=t) rfl ?_;exact bP [1000,1001,1002] rfl rfl rfl rfl
theorem YQ (n:Int):∀(p t:Ty) (m:TM),Ej n p t m (jZ n p t m):=fun p=>cV (p:=fun p=>∀(t:Ty) (m:TM),Ej n p t m (jZ n p t m)) (fun p b t m=>by
 rw[uE,Jg]
 by_cases h5:p.kind=5
 ·rw[fo h5]
  by_cases h1:p.id<0\/n<=p.id
  ·rw[fo h1];exact Xh n p t m h5 h1
  rw[o5 h1];cases a:br m p.id with
  | none=>exact Xj n p t m h5 h1 a
  | some x=>exact Xi n p t x m h5 h1 a
 ·rw[o5 h5]
  by_cases h1:p.kind=t.kind/\p.id=t.id
  ·rw[fo h1];refine Xf n p t m _ h5 h1.1 h1.2 ?_;exact Xe n p.args t.args m (jZ n) (nj n) (fun l m=>by rw[nj]) (fun x l y c m=>by rw[nj]) b
  ·rw[o5 h1];exact Xg n p t m h5 h1) p
def bO (s:List Ty) (t:Ty):Option Ty:=if t.id<0 then none else s[t.id.toNat]?
theorem bE {s:List Ty}{t x:Ty}(h:bO s t=some x):0<=t.id/\s[t.id.toNat]?=some x/\t.id.toNat<s.length:=by
 unfold bO at h;split at h
 ·cases h
 ·exact⟨by omega,h,(aaT.1 h).1⟩
theorem LI {s:List Ty}{t:Ty}(h0:0<=t.id) (h1:t.id<s.length):∃x,bO s t=some x/\x∈s:=by
 unfold bO;rw[o5 (by omega)];exact⟨s[t.id.toNat]'(by omega),aaQ _,List.getElem_mem _⟩
def aO (s:List Ty):Nat->Ty->Option Ty
 | 0,_=>none
 | n+1,t=>if t.kind=9 then(match bO s t with
   | none=>none
   | some x=>if x.kind=0 then some t else aO s n x) else some t
def wM (f:Ty->Option Bool):List Ty->Option Bool
 | []=>some false
 | x::l=>match f x,wM f l with
  | some a,some b=>some (a||b)
  | _,_=>none
def jI (s:List Ty) (v:Int):Nat->Ty->Option Bool
 | 0,_=>none
 | n+1,t=>match aO s n t with
  | none=>none
  | some a=>if a.kind=9 then some (decide (a.id=v)) else wM (jI s v n) a.args
def jJ (f:List Ty->Ty->Ty->Option (Option (List Ty))):List Ty->List Ty->List Ty->Option (Option (List Ty))
 | s,[],_=>some (some s)
 | s,x::l,a=>match a with
  | []=>none
  | y::a=>match f s x y with
   | some (some s')=>jJ f s' l a
   | some none=>some none
   | none=>none
def kT:Nat->List Ty->Ty->Ty->Option (Option (List Ty))
 | 0,_,_,_=>none
 | n+1,s,a,b=>match aO s n a,aO s n b with
  | some a,some b =>
   if a.kind=9/\b.kind=9 then(if a.id=b.id then some (some s) else some (some (s.set (max a.id b.id).toNat (.mk 9 (min a.id b.id) []))))
   else if a.kind=9 then(match jI s a.id n b with
    | none=>none
    | some true=>some none
    | some false=>some (some (s.set a.id.toNat b)))
   else if b.kind=9 then kT n s b a
   else if a.kind≠b.kind\/a.id≠b.id\/a.args.length≠b.args.length then some none
   else jJ (kT n) s a.args b.args
  | _,_=>none
def Ek (n:Int):Int:=IntKind.i64.wrap n
abbrev DM:=List (Int×Int)
abbrev OM:=List (Int×Bool)
def fV (f:Ty->DM->OM->Option (Option (Int×DM×OM))):List Ty->Int->DM->OM->Option (Option (Int×DM×OM))
 | [],k,d,o=>some (some (k,d,o))
 | x::l,k,d,o=>match f x d o with
  | some (some (a,b,o'))=>fV f l (if a>k then a else k) b o'
  | some none=>some none
  | none=>none
def bH (s:List Ty):Nat->Ty->DM->OM->Option (Option (Int×DM×OM))
 | 0,_,_,_=>none
 | n+1,t,d,o =>
  match(if t.kind=9 then bO s t else some (.mk 0 0 [])) with
  | none=>none
  | some x=>if x.kind≠0 then(match br d t.id with
    | some k=>some (some (k,d,o))
    | none=>match br o t.id with
     | some true=>some none
     | _=>match bH s n x d (eV o t.id true) with
      | some (some (k,a,o'))=>some (some (k,eV a t.id k,o'))
      | some none=>some none
      | none=>none)
   else match fV (bH s n) t.args 0 d o with
    | some (some (k,a,o'))=>some (some (Ek (k+1),a,o'))
    | some none=>some none
    | none=>none
def j7 (f:Ty->Option Ty):List Ty->Option (List Ty)
 | []=>some []
 | x::l=>match f x,j7 f l with
  | some y,some a=>some (y::a)
  | _,_=>none
def nk (s:List Ty):Nat->Ty->Option Ty
 | 0,_=>none
 | n+1,t=>match(if t.kind=9 then bO s t else some (.mk 0 0 [])) with
  | none=>none
  | some x=>if x.kind≠0 then nk s n x else match j7 (nk s n) t.args with
   | some l=>some (.mk t.kind t.id l)
   | none=>none
end Go.Fr.Tryz
