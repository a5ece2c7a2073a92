/- Part of the proofs of the statements of this seat. -/
import Derived.Test.YthfdbepkalpplaaFW2
import Derived.Test.YthfdbepkalpplaaUnCode
set_option maxRecDepth 10000
set_option linter.unusedVariables false
set_option linter.unusedSimpArgs false
namespace Go.Fr.Try
open Go Go.RowKit Go.Proofs Go.Fr Go.Fr.T Go.Fr.Api
noncomputable abbrev P:Program:=Try.prog
abbrev aK (x:Ty):C:=.agg [IC x.kind,IC x.id,.sl (x.args.map aD)]
theorem Tx (t:Ty):C.agg (aD t)=aK t:=vv C.agg (iP t)
noncomputable def Ar (p:Prop):Bool:=@decide p (Classical.propDecidable p)
theorem pV {p:Prop}:Ar p=true↔p:=by unfold Ar;exact @decide_eq_true_iff p (Classical.propDecidable p)
theorem EF {p:Prop}(h:Ar p=true):p:=pV.1 h
theorem My {p:Prop}(h:Ar p=false):¬p:=fun q=>by rw[pV.2 q] at h;cases h
theorem iy {p:Prop}(h:¬p):false=Ar p:=by
 cases e:Ar p with
 | true=>exact o5 (EF e) h
 | false=>rfl
theorem pW {p:Prop}(h:p):true=Ar p:=(pV.2 h).symm
theorem wm {p q:Prop}(h:p↔q):Ar p=Ar q:=by rw[show p=q from propext h]
theorem Qx {p q:Prop}[d:Decidable p] (h:p↔q):decide p=Ar q:=by
 by_cases a:p
 ·rw[aa2 a];exact pW (h.1 a)
 ·rw[aa3 a];exact iy fun e=>a (h.2 e)
theorem Gm {c:Type}{a b:List c}(h:¬a.length=b.length):a≠b:=fun e=>h (by rw[e])
theorem uV {c:Type}{a b:List c}{n:Nat}(d:a.length=n) (hb:b.length=n) (h:∀j<n,a[j]?=b[j]?):a=b:=by
 apply ab5;intro i
 by_cases hi:i<n
 ·exact h i hi
 ·rw[abE (by omega),abE (by omega)]
theorem Gn {c:Type}{a b:List c}{k:Nat}{x y:c}(h1:a[k]?=some x) (h2:b[k]?=some y) (h:x≠y):a≠b:=fun e=>h (by rw[e,h2] at h1;injection h1 with h1;exact h1.symm)
theorem zC {d:Type}{a b:List d}{k:Nat}{x y:d}(h:∀j<k,a[j]?=b[j]?) (h1:a[k]?=some x) (h2:b[k]?=some y) (e:x=y):∀j<k+1,a[j]?=b[j]?:=by
 intro j f
 by_cases c:j=k
 ·rw[c,h1,h2,e]
 ·exact h j (by omega)
theorem fK {a:Type}{l:List a}{k:Nat}(h:k<l.length):∃x,l[k]?=some x:=⟨l[k],aa4 h⟩
theorem uW {x y:Ty}(h0:x.kind=y.kind) (h1:x.id=y.id) (h2:x.args=y.args):x=y:=by
 cases x;cases y
 simp_all [Ty.kind,Ty.id,Ty.args]
theorem HV {x t:Ty}(h:x∈t.args):SizeOf.sizeOf x<SizeOf.sizeOf t:=by
 cases t;have:=List.sizeOf_lt_of_mem h;simp only[Ty.args] at this;simp only[Ty.mk.sizeOf_spec];omega
theorem cL {p:Ty->Prop}(h:∀t:Ty,(∀x∈t.args,p x)->p t):∀t,p t:=by
 have:∀(n:Nat) (t:Ty),SizeOf.sizeOf t<n->p t:=by
  intro n
  induction n with
  | zero=>intro t a;exact o5 a (abL _)
  | succ n b=>exact fun t a=>h t fun x c=>b x (by have:=HV c;omega)
 exact fun t=>this _ t (acd _)
theorem dU {l:List Ty}(h:Wf (.sl (l.map aD))):l.length<=9223372036854775807:=O6 h
theorem dA {a:Type}{l:List a}{k:Nat}{x:a}(b:l[k]?=some x):l.take (k+1)=l.take k++[x]:=by
 rw[List.take_add_one,b];rfl
mutual
def few:Ty->Int->Int
 | .mk _ _ l,m=>nF l m 1
def nF:List Ty->Int->Int->Int
 | [],_,n=>n
 | x::l,m,n=>if n<=m then nF l m (n+few x (m-n)) else n
end
mutual
theorem Gp:∀(t:Ty) (m:Int),0<=m->1<=few t m/\few t m<=m+1
 | .mk _ _ l,m,h=>by
  rw[few];exact HW l m 1 h (by omega) (by omega)
theorem HW:∀(l:List Ty) (m n:Int),0<=m->1<=n->n<=m+1->1<=nF l m n/\nF l m n<=m+1
 | [],m,n,_,h1,h2=>by rw[nF];exact⟨h1,h2⟩
 | x::l,m,n,h0,h1,h2=>by
  rw[nF];split
  ·have:=Gp x (m-n) (by omega);exact HW l m _ h0 (by omega) (by omega)
  ·exact⟨h1,h2⟩
end
theorem Jv {l:List Ty}{m n:Int}(h:¬n<=m):nF l m n=n:=by
 cases l with
 | nil=>rw[nF]
 | cons x l=>rw[nF,fo h]
def jd (l:List Ty):Bool:=l.all (fun t=>decide (few t 30<=30))&&decide ((l.length:Int)<=8)
mutual
def cg:Ty->Nat
 | .mk _ _ l=>cI l+1
def cI:List Ty->Nat
 | []=>0
 | t::l=>max (cg t) (cI l)
end
theorem cQ (t:Ty):cg t=cI t.args+1:=by cases t;rfl
theorem wo:∀(l:List Ty) (x:Ty),cI (l++[x])=max (cI l) (cg x)
 | [],x=>by simp[cI]
 | t::l,x=>by rw[abj,cI,wo l x,cI];omega
theorem BO (l:List Ty) (k:Nat):cI (l.take k)<=cI l:=by
 induction l generalizing k with
 | nil=>simp[cI]
 | cons t l a =>
  cases k with
  | zero=>simp[cI]
  | succ k=>rw[List.take_succ_cons,cI,cI];have:=a k;omega
theorem jy:∀{l:List Ty}{x:Ty},x∈l->cg x<=cI l
 | t::l,x,h=>by
  rw[cI];rcases abd.1 h with rfl | h
  ·omega
  ·have:=jy h;omega
theorem uX {l:List Ty}{n:Nat}(h:∀x∈l,cg x<=n):cI l<=n:=by
 induction l with
 | nil=>simp[cI]
 | cons t l a =>
  rw[cI];have h1:=h t (by simp);have h2:=a fun x b=>h x (by simp[b]);omega
mutual
def ins (n:Int):Ty->Bool
 | .mk k i l=>if k<1\/9<k then false else if k=9 then decide (0<=i)&&decide (i<n)&&decide (l.length=0) else Qy n l
def Qy (n:Int):List Ty->Bool
 | []=>true
 | t::l=>ins n t&&Qy n l
end
theorem EG (n:Int):∀l:List Ty,Qy n l=l.all (ins n)
 | []=>rfl
 | t::l=>by rw[Qy,EG n l,abu]
theorem qX (n:Int) (t:Ty):ins n t=if t.kind<1\/9<t.kind then false else if t.kind=9 then decide (0<=t.id)&&decide (t.id<n)&&decide (t.args.length=0) else t.args.all (ins n):=by
 cases t;rw[ins,EG];rfl
mutual
def qY (n:Int):Ty->Bool
 | .mk k i l=>if k=5 then decide (0<=i)&&decide (i<n)&&decide (l.length=0) else HX n l
def HX (n:Int):List Ty->Bool
 | []=>true
 | t::l=>qY n t&&HX n l
end
theorem BP (n:Int):∀l:List Ty,HX n l=l.all (qY n)
 | []=>rfl
 | t::l=>by rw[HX,BP n l,abu]
theorem zD (n:Int) (t:Ty):qY n t=if t.kind=5 then decide (0<=t.id)&&decide (t.id<n)&&decide (t.args.length=0) else t.args.all (qY n):=by
 cases t;rw[qY,BP];rfl
mutual
def hasB (n:Int):Ty->Bool
 | .mk k i l=>if k=5/\i=n then true else Qz n l
def Qz (n:Int):List Ty->Bool
 | []=>false
 | t::l=>hasB n t||Qz n l
end
theorem EH (n:Int):∀l:List Ty,Qz n l=l.any (hasB n)
 | []=>rfl
 | t::l=>by rw[Qz,EH n l,abQ]
theorem C3 (n:Int) (t:Ty):hasB n t=if t.kind=5/\t.id=n then true else t.args.any (hasB n):=by
 cases t;rw[hasB,EH];rfl
def je (t:Ty):Bool:=decide (1<=t.kind)&&decide (t.kind<=5)
mutual
def subst (a:List Ty):Ty->Ty
 | .mk k i l=>if k=5/\0<=i/\i<a.length then(a[i.toNat]?).getD (.mk 0 0 []) else .mk k i (C4 a l)
def C4 (a:List Ty):List Ty->List Ty
 | []=>[]
 | t::l=>subst a t::C4 a l
end
theorem zE (a:List Ty):∀l:List Ty,C4 a l=l.map (subst a)
 | []=>rfl
 | t::l=>by rw[C4,zE a l];rfl
theorem subst_eq (a:List Ty) (t:Ty):subst a t=if t.kind=5/\0<=t.id/\t.id<a.length then(a[t.id.toNat]?).getD (.mk 0 0 []) else .mk t.kind t.id (t.args.map (subst a)):=by
 cases t;rw[subst,zE];rfl
mutual
def gN:Ty->Prop
 | .mk _ _ l=>l.length<=2 ^ 30/\Mz l
def Mz:List Ty->Prop
 | []=>True
 | t::l=>gN t/\Mz l
end
theorem EI:∀l:List Ty,Mz l↔∀t∈l,gN t
 | []=>by simp[Mz]
 | t::l=>by simp[Mz,EI l]
theorem eM (t:Ty):gN t↔t.args.length<=2 ^ 30/\∀x∈t.args,gN x:=by
 cases t;rw[gN,EI];rfl
theorem sF {f:Ty}{s:List Ty}:s.map aD++[[IC f.kind,IC f.id,.sl (f.args.map aD)]]=(s++[f]).map aD:=by rw[abC,<-iP];rfl
theorem jN {els:List (List C)}{c:List C}{sz a:Nat}{K:Prop}(n:Nat) (d:c.length=sz) (b:els.length=n) (hb:a<=1024) (h:n<=2 ^ 30) (k:K):xk els [c] sz a K :=
 ⟨fun es he=>(by rcases abd.1 he with rfl | he;exact d;cases he),by rw[b];simp only[abo,ab1,maxLen];omega,by
  rw[b];simp only[abo,ab1];exact abN (Nat.mul_le_mul (show n+(0+1)<=2 ^ 31 by omega) hb) (by decide),k⟩
theorem jf {L L1:TL}{k t sz:Nat}(h:L.get k=none) (h1:L1.get k=some (.row t sz [])):OE L L1 .nils (.rw k):=.inr (.inr (.inr (.inl ⟨rfl,k,t,sz,rfl,h,h1⟩)))
theorem mq {t sz:Nat}{a b:List (List C)}(h:a=b):TO.row t sz a=TO.row t sz b:=by rw[h]
theorem Yv {a b:List (List C)}(h:a=b):C.sl a=C.sl b:=by rw[h]
theorem MA {a:List Ty}{i:Int}(h1:0<=i) (h2:i<(a.map aD).length):∃x,a[i.toNat]?=some x/\x∈a/\i=(i.toNat:Int):=by
 have b:i.toNat<a.length:=by rw[vz] at h2;omega
 exact⟨a[i.toNat],aa4 b,List.getElem_mem b,by omega⟩
theorem t46:∀(t:Ty) (m:Int),0<=m->m<=1000->CallsT P 46 [aK t,IC m] [] (aQ [] (IC (few t m)))
 | .mk k i l,m,h0,h1=>by
  have ih:∀x∈l,∀h:Int,0<=h->h<=1000->CallsT P 46 [aK x,IC h] [] (aQ [] (IC (few x h))):=fun x v h a b=>t46 x h a b;have p:=Gp;rw[few];show CallsT P 46 [.agg [IC k,IC i,.sl (l.map aD)],IC m] [] _;generalize o:few=few' at ih p;have y:∀x r n,nF (x::r) m n=if n<=m then nF r m (n+few' x (m-n)) else n:=by
   intro x r n;rw[nF,o]
  refine af Try.func46 PW rfl fun hw _=>?_;refine bA l.length 6 [5] (1:Int) (fun n=>[IC n]) (fun _=>[]) (fun k n=>nF (l.drop k) m n=nF l m 1/\1<=n/\n<=m+1) ⟨rfl,by omega,by omega⟩ (aj rfl) ⟨aj rfl,trivial⟩ trivial (fun _=>rfl) (fun _=>rfl) ?_;rintro j n hj ⟨d,ac,ad⟩ _ _ _;have z:l.length<=9223372036854775807:=dU hw.1.2.2.1;refine ah (fun e=>?_) (fun f=>?_)
  ·have e:j<l.length:=by simpa using e
   refine aX e fun x v q w=>?_;refine ah (fun s=>?_) (fun u=>?_)
   ·refine bW v ?_;refine Fit.aar (by omega) (by omega) ?_;refine aF (ih x q (m-n) (by omega) (by omega)) rfl fun _=>?_;have hb:=p x (m-n) (by omega);refine Fit.aar (by omega) (by omega) ?_;refine Fit.aar (by omega) (by omega) ?_;refine⟨(j+1,n+few' x (m-n)),⟨e,?_,by omega,by omega⟩,⟨aZ,aj rfl,trivial⟩,trivial,bf e⟩;rw[w,y,eu s] at d;exact d
   ·have c:=d;rw[Jv u] at c;exact ay rfl (vv IC c)
  ·have f:¬j<l.length:=by simpa using f
   have c:=d;rw[bU f,nF] at c;exact ay rfl (vv IC c)
termination_by t=>SizeOf.sizeOf t
decreasing_by
 have:=List.sizeOf_lt_of_mem v;simp only[Ty.mk.sizeOf_spec];omega
theorem t12 (l:List Ty):CallsT P 12 [.sl (l.map aD)] [] (aQ [] (.bool (jd l))):=by
 have h31:∀x:Ty,CallsT P 46 [aK x,IC 30] [] (aQ [] (IC (few x 30))):=fun x=>t46 x 30 (by omega) (by omega);have j:jd l=(l.all (fun t=>decide (few t 30<=30))&&decide ((l.length:Int)<=8)):=rfl;generalize few=fw at h31 j;refine af Try.func12 Pm rfl fun p _=>?_;have o:l.length<=9223372036854775807:=dU p.1;have m:(l.map aD).length=l.length:=vz _;refine bA l.length 3 [] () (fun _=>[]) (fun _=>[]) (fun k _=>(l.drop k).all (fun t=>decide (fw t 30<=30))=l.all (fun t=>decide (fw t 30<=30))) rfl (aj rfl) trivial trivial (fun _=>rfl) (fun _=>rfl) ?_;rintro k _ v c _ _ _;refine ah (fun d=>?_) (fun h=>?_)
 ·have d:k<l.length:=by simpa using d
  refine aX d fun x u q n=>?_;refine bW u ?_;refine aF (h31 x) rfl fun _=>?_;have a:=c;rw[n,abu] at a;refine ah (fun s=>?_) (fun r=>?_)
  ·have e:false=jd l:=by
    have f:decide (fw x 30<=30)=false:=aa3 (by omega);rw[f,abb] at a;rw[j,<-a,abb]
   exact ay rfl (vv C.bool e)
  ·refine Fit.aar (by omega) (by omega) ?_;have f:decide (fw x 30<=30)=true:=aa2 (by omega);have b:=a;rw[f,aa7] at b;exact⟨(k+1,()),⟨d,b⟩,⟨aZ,trivial⟩,trivial,bf d⟩
 ·have h:¬k<l.length:=by simpa using h
  have e:decide (((l.map aD).length:Int)<=8)=jd l:=by
   rw[bU h,List.all_nil] at c;rw[j,<-c,aa7,m]
  exact ay rfl (vv C.bool e)
theorem t51 (t:Ty):CallsT P 51 [aK t] [] (aQ [] (.bool (je t))):=by
 have e:je t=(decide (1<=t.kind)&&decide (t.kind<=5)):=rfl;refine af Try.func51 P0 rfl fun a _=>?_;refine ah (fun h=>?_) (fun h=>?_)
 ·exact ay rfl (vv C.bool (by rw[e,aa2 (show(1:Int)<=t.kind from h),aa7]))
 ·exact ay rfl (vv C.bool (by rw[e,aa3 (show¬(1:Int)<=t.kind from h),abb]))
theorem t17 (t:Ty):CallsT P 17 [aK t] [] (aQ [] (.bool (je t))):=by
 have e:je t=(decide (1<=t.kind)&&decide (t.kind<=5)):=rfl;refine af Try.func17 Ps rfl fun a _=>?_;refine ah (fun h=>?_) (fun h=>?_)
 ·exact ay rfl (vv C.bool (by rw[e,aa2 (show(1:Int)<=t.kind from h),aa7]))
 ·exact ay rfl (vv C.bool (by rw[e,aa3 (show¬(1:Int)<=t.kind from h),abb]))
theorem NR (t:Ty):CallsT P 55 [aK t] [] (aQ [] (.bool (decide (t.kind=9)))):=by
 refine af Try.func55 P2 rfl fun a _=>?_;exact ay rfl rfl
theorem UU:CallsT P 42 [] [] (aQ [] (aK (.mk 1 0 []))):=by
 refine af Try.func42 PN rfl fun a _=>?_;exact ay rfl rfl
theorem t27 (n:Int):CallsT P 27 [IC n] [] (aQ [] (aK (.mk 9 n []))):=by
 refine af Try.func27 Px rfl fun a _=>?_;exact ay rfl rfl
theorem Tz (k:Int) (t:Ty):CallsT P 44 [IC k,aK t] [] (aQ [] (aK (.mk k 0 [t]))):=by
 refine af Try.func44 PO rfl fun a _=>?_;have e:C.agg [IC k,IC 0,.sl [[IC t.kind,IC t.id,.sl (t.args.map aD)]]]=aK (.mk k 0 [t]):=by
  rw[<-iP];rfl
 exact ay rfl e
abbrev qZ (f:Nat) (args:List C) (p:Prop):Prop:=CallsT P f args [] (aQ [] (.bool (Ar p)))
theorem Vc (a b:List (Ty)) (t:∀x∈a,∀y,qZ 15 [aK x,aK y] (x=y)):qZ 45 [.sl (a.map aD),.sl (b.map aD)] (a=b):=by
 refine af Try.func45 PV rfl fun s _=>?_;have m:(a.map aD).length=a.length:=by simp
 have hb:(b.map aD).length=b.length:=by simp
 have v:a.length<=9223372036854775807:=by have:=gJ s.1;rwa [m] at this
 refine aq (fun d=>?_) (fun d=>?_)
 ·have d:¬a.length=b.length:=fun e=>by
   rw[m,hb,e] at d;simp at d
  exact ay rfl (vv C.bool (iy (Gm d)))
 have d:a.length=b.length:=by
  rw[m,hb] at d;simp at d;omega
 refine bA a.length 5 [] () (fun _=>[]) (fun _=>[]) (fun k _=>∀j<k,a[j]?=b[j]?) (fun j u=>o5 u (by omega)) (aj rfl) trivial trivial (fun _=>rfl) (fun _=>rfl) ?_;rintro k ⟨⟩ r f _ _ _;refine ah (fun c=>?_) (fun n=>?_)
 ·have c:k<a.length:=by rw[m] at c;omega
  refine bR c fun x q p=>?_;refine bR (l:=b) (k:=k) (by omega) fun y o _=>?_;refine bW q ?_;refine bW o ?_;refine bB (t x p y) rfl fun _=>?_;refine aq (fun h=>?_) (fun h=>?_)
  ·have h:¬x=y:=My (by simpa using h);exact ay rfl (vv C.bool (iy (Gn q o h)))
  ·have h:x=y:=EF (by simpa using h);refine Fit.aar (by omega) (by omega) ?_;exact⟨(k+1,()),⟨c,zC f q o h⟩,⟨aZ,trivial⟩,trivial,bf c⟩
 ·have n:¬k<a.length:=by rw[m] at n;omega
  have r:k=a.length:=by omega
  exact ay rfl (vv C.bool (pW (uV rfl d.symm (r▸f))))
theorem t15:∀x y:Ty,qZ 15 [aK x,aK y] (x=y):=fun x=>cL (p:=fun x=>∀y,qZ 15 [aK x,aK y] (x=y)) (fun x a y=>by
  refine af Try.func15 Po rfl fun b _=>?_;refine ah (fun h0=>?_) (fun h0=>ay rfl (vv C.bool (iy fun e=>h0 (by rw[e]))));refine ah (fun h1=>?_) (fun h1=>ay rfl (vv C.bool (iy fun e=>h1 (by rw[e]))));refine aF (Vc x.args y.args a) rfl fun _=>?_;exact ay rfl (vv C.bool (wm ⟨fun h=>uW h0 h1 h,fun e=>by rw[e]⟩))) x
theorem t45 (a b:List Ty):qZ 45 [.sl (a.map aD),.sl (b.map aD)] (a=b):=Vc a b fun x _ y=>t15 x y
theorem Yw (a b:List (Ty)) (t:∀x∈a,∀y,qZ 68 [aK x,aK y] (x=y)):qZ 67 [.sl (a.map aD),.sl (b.map aD),.fn 68 [] []] (a=b):=by
 refine af Try.func67 xS rfl fun s _=>?_;have m:(a.map aD).length=a.length:=by simp
 have hb:(b.map aD).length=b.length:=by simp
 have v:a.length<=9223372036854775807:=by have:=gJ s.1;rwa [m] at this
 refine aq (fun d=>?_) (fun d=>?_)
 ·have d:¬a.length=b.length:=fun e=>by
   rw[m,hb,e] at d;simp at d
  exact ay rfl (vv C.bool (iy (Gm d)))
 have d:a.length=b.length:=by
  rw[m,hb] at d;simp at d;omega
 refine bA a.length 17 [] () (fun _=>[]) (fun _=>[]) (fun k _=>∀j<k,a[j]?=b[j]?) (fun j u=>o5 u (by omega)) (aj rfl) trivial trivial (fun _=>rfl) (fun _=>rfl) ?_;rintro k ⟨⟩ r f _ _ _;refine ah (fun c=>?_) (fun n=>?_)
 ·have c:k<a.length:=by rw[m] at c;omega
  refine bR c fun x q p=>?_;refine bR (l:=b) (k:=k) (by omega) fun y o _=>?_;refine bW q ?_;refine bW o ?_;refine aF (t x p y) rfl fun _=>?_;refine aq (fun h=>?_) (fun h=>?_)
  ·have h:¬x=y:=My (by simpa using h);exact ay rfl (vv C.bool (iy (Gn q o h)))
  ·have h:x=y:=EF (by simpa using h);refine Fit.aar (by omega) (by omega) ?_;exact⟨(k+1,()),⟨c,zC f q o h⟩,⟨aZ,trivial⟩,trivial,bf c⟩
 ·have n:¬k<a.length:=by rw[m] at n;omega
  have r:k=a.length:=by omega
  exact ay rfl (vv C.bool (pW (uV rfl d.symm (r▸f))))
theorem t68:∀x y:Ty,qZ 68 [aK x,aK y] (x=y):=fun x=>cL (p:=fun x=>∀y,qZ 68 [aK x,aK y] (x=y)) (fun x a y=>by
  refine af Try.func68 P5 rfl fun b _=>?_;refine ah (fun h0=>?_) (fun h0=>ay rfl (vv C.bool (iy fun e=>h0 (by rw[e]))));refine ah (fun h1=>?_) (fun h1=>ay rfl (vv C.bool (iy fun e=>h1 (by rw[e]))));refine aF (Yw x.args y.args a) rfl fun _=>?_;exact ay rfl (vv C.bool (wm ⟨fun h=>uW h0 h1 h,fun e=>by rw[e]⟩))) x
theorem cap (n:Nat):(n:Int)+1=((n+1:Nat):Int):=rfl
theorem Sb {n:Int}(h:-9223372036854775808<=n) (k:n<=9223372036854775807):Wf (IC n):=by
 simp only[Wf,Lit.wf,xo,abf,IntKind.min,IntKind.max,IntKind.signed,IntKind.bits];exact⟨by simpa using h,by simpa using by omega⟩
theorem W5 {a b:Nat}(h:a<=2 ^ 40) (k:b<=2 ^ 40):Wf (IC (if(b:Int)>(a:Int) then(b:Int) else(a:Int))):=Sb (by split<;>omega) (by split<;>omega)
theorem Ve {a b c:Nat}(h:max a b=c):(if(b:Int)>(a:Int) then(b:Int) else(a:Int))=(c:Int):=by
 split<;>omega
theorem Yx:∀t:Ty,cg t<=2 ^ 40->CallsT P 18 [aK t] [] (aQ [] (IC (cg t))):=cL fun t p hd=>by
 have q:cI t.args<2 ^ 40:=by rw[cQ] at hd;omega
 have p:∀x∈t.args,CallsT P 18 [aK x] [] (aQ [] (IC (cg x))):=fun x h=>p x h (by have:=jy h;omega);have v:=cQ t;have f:∀k x,t.args[k]?=some x->cI (t.args.take (k+1))=max (cI (t.args.take k)) (cg x):=fun k x h=>by rw[dA h,wo]
 have o:=BO t.args;have e:cI (t.args.take t.args.length)=cI t.args:=by rw[List.take_length]
 have h0:cI (t.args.take 0)=0:=rfl;generalize cI=D at f o e h0 v q;generalize cg=E at p v f;refine af Try.func18 Pt rfl fun w _=>?_;have u:t.args.length<=9223372036854775807:=dU w.1.2.2.1;have l:(t.args.map aD).length=t.args.length:=vz _;refine bA t.args.length 4 [3] (0:Nat) (fun n=>[IC n]) (fun _=>[]) (fun k n=>n=D (t.args.take k)) h0.symm (aj rfl) ⟨aj rfl,trivial⟩ trivial (fun _=>rfl) (fun _=>rfl) ?_;rintro k n s j y _ _;refine ah (fun d=>?_) (fun m=>?_)
 ·have d:k<t.args.length:=by rw[l] at d;omega
  refine bR d fun x h r=>?_;refine bW h ?_;refine aF (p x r) rfl fun _=>?_;have z:=o (k+1);have hs:=f k x h;refine⟨?_,?_⟩
  ·exact W5 (a:=n) (b:=E x) (by omega) (by omega)
  refine Fit.aar (by omega) (by omega) ?_;exact⟨(k+1,D (t.args.take (k+1))),⟨d,rfl⟩,⟨aZ,.inr (.inl ⟨vv IC (Ve (a:=n) (b:=E x) (c:=D (t.args.take (k+1))) (by omega)),rfl⟩),trivial⟩,trivial,bf d⟩
 ·have m:¬k<t.args.length:=by rw[l] at m;omega
  have s:k=t.args.length:=by omega
  rw[s,e] at j;refine Fit.aar (by omega) (by omega) ?_;exact ay rfl (vv IC (by omega))
theorem Vf:∀t:Ty,cg t<=2 ^ 40->CallsT P 47 [aK t] [] (aQ [] (IC (cg t))):=cL fun t p hd=>by
 have q:cI t.args<2 ^ 40:=by rw[cQ] at hd;omega
 have p:∀x∈t.args,CallsT P 47 [aK x] [] (aQ [] (IC (cg x))):=fun x h=>p x h (by have:=jy h;omega);have v:=cQ t;have f:∀k x,t.args[k]?=some x->cI (t.args.take (k+1))=max (cI (t.args.take k)) (cg x):=fun k x h=>by rw[dA h,wo]
 have o:=BO t.args;have e:cI (t.args.take t.args.length)=cI t.args:=by rw[List.take_length]
 have h0:cI (t.args.take 0)=0:=rfl;generalize cI=D at f o e h0 v q;generalize cg=E at p v f;refine af Try.func47 PY rfl fun w _=>?_;have u:t.args.length<=9223372036854775807:=dU w.1.2.2.1;have l:(t.args.map aD).length=t.args.length:=vz _;refine bA t.args.length 9 [3] (0:Nat) (fun n=>[IC n]) (fun _=>[]) (fun k n=>n=D (t.args.take k)) h0.symm (aj rfl) ⟨aj rfl,trivial⟩ trivial (fun _=>rfl) (fun _=>rfl) ?_;rintro k n s j y _ _;refine ah (fun d=>?_) (fun m=>?_)
 ·have d:k<t.args.length:=by rw[l] at d;omega
  refine bR d fun x h r=>?_;refine bW h ?_;refine aF (p x r) rfl fun _=>?_;have z:=o (k+1);have hs:=f k x h;refine⟨?_,?_⟩
  ·exact W5 (a:=n) (b:=E x) (by omega) (by omega)
  refine Fit.aar (by omega) (by omega) ?_;exact⟨(k+1,D (t.args.take (k+1))),⟨d,rfl⟩,⟨aZ,.inr (.inl ⟨vv IC (Ve (a:=n) (b:=E x) (c:=D (t.args.take (k+1))) (by omega)),rfl⟩),trivial⟩,trivial,bf d⟩
 ·have m:¬k<t.args.length:=by rw[l] at m;omega
  have s:k=t.args.length:=by omega
  rw[s,e] at j;refine Fit.aar (by omega) (by omega) ?_;exact ay rfl (vv IC (by omega))
theorem mZ {a:Type}{p:a->Bool}{l:List a}{k:Nat}{x:a}(hd:l.drop k=x::l.drop (k+1)) (hi:(l.drop k).all p=l.all p) (b:p x=true):(l.drop (k+1)).all p=l.all p:=by
 rw[hd,abu,b,aa7] at hi;exact hi
theorem Gq {a:Type}{p:a->Bool}{l:List a}{k:Nat}{x:a}(hd:l.drop k=x::l.drop (k+1)) (hi:(l.drop k).all p=l.all p) (b:p x=false):false=l.all p:=by
 rw[hd,abu,b,abb] at hi;exact hi
theorem C5 {a:Type}{p:a->Bool}{l:List a}{k:Nat}(h:¬k<l.length) (hi:(l.drop k).all p=l.all p):true=l.all p:=by
 rw[bU h,List.all_nil] at hi;exact hi
theorem MC {a:Type}{p:a->Bool}{l:List a}{k:Nat}{x:a}(hd:l.drop k=x::l.drop (k+1)) (hi:(l.drop k).any p=l.any p) (b:p x=false):(l.drop (k+1)).any p=l.any p:=by
 rw[hd,abQ,b,Bool.false_or] at hi;exact hi
theorem QA {a:Type}{p:a->Bool}{l:List a}{k:Nat}{x:a}(hd:l.drop k=x::l.drop (k+1)) (hi:(l.drop k).any p=l.any p) (b:p x=true):true=l.any p:=by
 rw[hd,abQ,b,Bool.true_or] at hi;exact hi
theorem QB {a:Type}{p:a->Bool}{l:List a}{k:Nat}(h:¬k<l.length) (hi:(l.drop k).any p=l.any p):false=l.any p:=by
 rw[bU h,List.any_nil] at hi;exact hi
theorem t21 (n:Int):∀t:Ty,CallsT P 21 [aK t,IC n] [] (aQ [] (.bool (ins n t))):=cL fun t o=>by
 have he:=qX n t;have l:=NR t;have c:(t.args.map aD).length=t.args.length:=vz _;generalize ins n=f at he o ⊢;refine af Try.func21 Pv rfl fun p _=>?_;have m:t.args.length<=9223372036854775807:=dU p.1.2.2.1;refine ah (fun h1=>?_) (fun h1=>?_)
 ·exact ay rfl (vv C.bool (by rw[he,eu (Or.inl h1)]))
 refine ah (fun h2=>?_) (fun h2=>?_)
 ·exact ay rfl (vv C.bool (by rw[he,eu (Or.inr h2)]))
 rw[fo (by omega)] at he;refine aF l rfl fun _=>?_;refine ah (fun h3=>?_) (fun h3=>?_)
 ·rw[eu h3] at he;refine ah (fun h4=>?_) (fun h4=>?_)
  ·refine ah (fun h5=>?_) (fun h5=>?_)
   ·exact ay rfl (vv C.bool (by rw[he,aa2 (show(0:Int)<=t.id from h4),aa2 h5,aa7,aa7];exact decide_eq_decide.2 (by rw[c];omega)))
   ·exact ay rfl (vv C.bool (by rw[he,aa3 h5,aby,abb]))
  ·exact ay rfl (vv C.bool (by rw[he,aa3 (show¬(0:Int)<=t.id from h4),abb,abb]))
 rw[fo h3] at he;refine bA t.args.length 5 [] () (fun _=>[]) (fun _=>[]) (fun k _=>(t.args.drop k).all f=t.args.all f) rfl (aj rfl) trivial trivial (fun _=>rfl) (fun _=>rfl) ?_;rintro k _ r a _ _ _;refine ah (fun b=>?_) (fun d=>?_)
 ·have b:k<t.args.length:=by rw[c] at b;omega
  refine aX b fun x q j e=>?_;refine bW q ?_;refine aF (o x j) rfl fun _=>?_;refine aq (fun h=>?_) (fun h=>?_)
  ·exact ay rfl (vv C.bool (by rw[he];exact Gq e a (by simpa using h)))
  ·refine Fit.aar (by omega) (by omega) ?_;exact⟨(k+1,()),⟨b,mZ e a (by simpa using h)⟩,⟨aZ,trivial⟩,trivial,bf b⟩
 ·have d:¬k<t.args.length:=by rw[c] at d;omega
  exact ay rfl (vv C.bool (by rw[he];exact C5 d a))
theorem Yy (a:List Ty) (t x:Ty) (h1:t.kind=5) (h2:0<=t.id) (h3:t.id<a.length) (c:a[t.id.toNat]?=some x):CallsT P 53 [aK t,.pt [.sl (a.map aD)] 0] [] (aQ [] (.tup [aK x,.bool true])):=by
 have b:(a.map aD).length=a.length:=vz _;refine af Try.func53 HC rfl fun d _=>?_;refine ah (fun _=>?_) (fun q=>o5 h1 q);refine ah (fun _=>?_) (fun q=>o5 h2 q);refine ah (fun _=>?_) (fun q=>o5 (by rw[b];exact h3) q);refine(vv (fun z=>ur (a.map aD) z 3 _) (show t.id=(t.id.toNat:Int) by omega)).mpr ?_;refine bW c ?_;exact ay rfl rfl
theorem Yz (a:List Ty) (t:Ty) (h:¬(t.kind=5/\0<=t.id/\t.id<a.length)):CallsT P 53 [aK t,.pt [.sl (a.map aD)] 0] [] (aQ [] (.tup [aK t,.bool false])):=by
 have b:(a.map aD).length=a.length:=vz _;refine af Try.func53 HC rfl fun c _=>?_;refine ah (fun h1=>ah (fun h2=>ah (fun h3=>o5 ⟨h1,h2,by rw[b] at h3;exact h3⟩ h) (fun _=>?_)) (fun _=>?_)) (fun _=>?_)
 all_goals exact ay rfl rfl
theorem YA (els:List (List C)) (t x:Ty) (h:CallsT P 53 [aK t,.pt [.sl els] 0] [] (aQ [] (.tup [aK x,.bool true]))):CallsT P 52 [aK t,.fn 53 [] [.pt [.sl els] 0]] [] (aQ [] (aK x)):=by
 refine af Try.func52 HA rfl fun a _=>?_;refine aF h rfl fun _=>?_;exact ay rfl rfl
theorem YB (els:List (List C)) (t:Ty) (f:Ty->Ty) (hb:t.args.length<=2 ^ 30) (h:CallsT P 53 [aK t,.pt [.sl els] 0] [] (aQ [] (.tup [aK t,.bool false])))
  (m:∀x∈t.args,CallsT P 52 [aK x,.fn 53 [] [.pt [.sl els] 0]] [] (aQ [] (aK (f x)))):CallsT P 52 [aK t,.fn 53 [] [.pt [.sl els] 0]] [] (aQ [] (aK (.mk t.kind t.id (t.args.map f)))):=by
 have c:(t.args.map aD).length=t.args.length:=vz _;refine af Try.func52 HA rfl fun o _=>?_;refine aF h rfl fun _=>?_;refine bA t.args.length 26 [] ([]:List Ty) (fun _=>[]) (fun s=>[(4,.box 32 [IC 0,IC 0,.nils]),(5,.box 32 [IC t.kind,IC t.id,.sl (t.args.map aD)]),(7,.box 32 [IC t.kind,IC t.id,.rw 36]),(36,.row 32 3 (s.map aD))]) (fun j s=>s=(t.args.take j).map f) (by simp) (aj rfl) trivial
  ⟨.inl ⟨_,rfl,.inl ⟨rfl,rfl⟩⟩,.inl ⟨_,rfl,.inl ⟨rfl,rfl⟩⟩,.inl ⟨_,rfl,.inr ⟨32,_,_,rfl,rfl,_,_,rfl,aj rfl,_,_,rfl,aj rfl,_,_,rfl,jf rfl rfl,rfl⟩⟩,.inr ⟨rfl,32,3,rfl⟩,trivial⟩ (fun _=>rfl) (fun _=>rfl) ?_
 rintro j s p a _ _ _;refine ah (fun b=>?_) (fun d=>?_)
 ·have b:j<t.args.length:=by rw[c] at b;omega
  refine bR b fun x l k=>?_;have n:(s.map aD).length=j:=by rw[a,vz,vz,abM];omega
  refine bW l ?_;refine bB (m x k) rfl fun _=>?_;refine jN j rfl n (by decide) (by omega) ?_;refine Fit.aar (by omega) (by omega) ?_;refine⟨(j+1,s++[f x]),⟨b,?_⟩,⟨aZ,trivial⟩,⟨.inl ⟨_,rfl,.inl ⟨rfl,rfl⟩⟩,.inl ⟨_,rfl,.inl ⟨rfl,rfl⟩⟩,.inl ⟨_,rfl,.inl ⟨rfl,rfl⟩⟩,.inl ⟨_,rfl,.inl ⟨mq sF,rfl⟩⟩,trivial⟩,bf b⟩;show s++[f x]=(t.args.take (j+1)).map f;rw[dA l,a,abC];rfl
 ·have d:¬j<t.args.length:=by rw[c] at d;omega
  have e:C.agg [IC t.kind,IC t.id,.sl (s.map aD)]=aK (.mk t.kind t.id (t.args.map f)):=by
   rw[a,abA (by omega)];rfl
  exact uL [36] [] ⟨_,[],rfl,rfl,rfl,rfl,e⟩
theorem t52 (a:List Ty):∀t:Ty,gN t->CallsT P 52 [aK t,.fn 53 [] [.pt [.sl (a.map aD)] 0]] [] (aQ [] (aK (subst a t))):=cL fun t c hb=>by
 have hb:=(eM t).1 hb;rw[subst_eq]
 by_cases h:t.kind=5/\0<=t.id/\t.id<a.length
 ·rw[eu h];obtain⟨h1,h2,h3⟩:=h;obtain⟨x,b⟩:=fK (l:=a) (k:=t.id.toNat) (by omega);rw[b];exact YA _ t x (Yy a t x h1 h2 h3 b)
 ·rw[fo h];exact YB _ t _ hb.1 (Yz a t h) fun x b=>c x b (hb.2 x b)
theorem t16 (a:List Ty) (t:Ty) (hb:gN t):CallsT P 16 [.sl (a.map aD),aK t] [] (aQ [] (aK (subst a t))):=by
 have h:=t52 a t hb;generalize subst a t=r at h ⊢;refine af Try.func16 Pr rfl fun b _=>?_;refine aF h rfl fun _=>?_;exact ay rfl rfl
def fidx (q:Ty->Bool):List Ty->Int->Int
 | [],_=>-1
 | x::l,k=>if q x then k else fidx q l (k+1)
theorem rf {q:Ty->Bool}{l:List Ty}{k:Nat}{x:Ty}{r:Int}(hd:l.drop k=x::l.drop (k+1)) (hi:fidx q (l.drop k) k=r) (a:q x=true):(k:Int)=r:=by
 rw[hd,fidx,eu a] at hi;exact hi
theorem uY {q:Ty->Bool}{l:List Ty}{k:Nat}{x:Ty}{r:Int}(hd:l.drop k=x::l.drop (k+1)) (hi:fidx q (l.drop k) k=r) (a:q x=false):fidx q (l.drop (k+1)) ((k+1:Nat):Int)=r:=by
 rw[hd,fidx,fo (by rw[a];exact abt)] at hi;exact hi
theorem ri {q:Ty->Bool}{l:List Ty}{k:Nat}{r:Int}(h:¬k<l.length) (hi:fidx q (l.drop k) k=r):(-1:Int)=r:=by
 rw[bU h,fidx] at hi;exact hi
theorem BQ (q:Ty->Bool):∀(l:List Ty) (k:Int),0<=k->decide (0<=fidx q l k)=l.any q
 | [],k,_=>rfl
 | x::l,k,h=>by
  rw[fidx,abQ];cases a:q x
  ·rw[fo abt,Bool.false_or];exact BQ q l (k+1) (by omega)
  ·rw[eu rfl,Bool.true_or];exact aa2 h
theorem rj (q:Ty->Bool) (l:List Ty):decide (fidx q l 0>=0)=l.any q:=BQ q l 0 (abn _)
theorem Vg (es:List C) (pa:Int) (pc:List C) (l:List Ty) (q:Ty->Bool) (h:∀x∈l,CallsT P 50 [aK x,.pt es 0,.own 1000 0] [.box 39 [.fn 48 [] [.pt [IC pa] 0,.pt pc 0,.own 1000 0]]] (aQ [.box 39 [.fn 48 [] [.pt [IC pa] 0,.pt pc 0,.own 1000 0]]] (.bool (q x)))) :
  CallsT P 92 [.sl (l.map aD),.fn 50 [] [.pt es 0,.own 1000 0]] [.box 39 [.fn 48 [] [.pt [IC pa] 0,.pt pc 0,.own 1000 0]]] (aQ [.box 39 [.fn 48 [] [.pt [IC pa] 0,.pt pc 0,.own 1000 0]]] (IC (fidx q l 0))):=by
 have d:(l.map aD).length=l.length:=vz _;refine af Try.func92 uP rfl fun n _=>?_;have m:l.length<=9223372036854775807:=dU n.1;refine bA l.length 8 [] () (fun _=>[]) (fun _=>[(1000,.box 39 [.fn 48 [] [.pt [IC pa] 0,.pt pc 0,.own 1000 0]])]) (fun k _=>fidx q (l.drop k) k=fidx q l 0) rfl (aj rfl) trivial ⟨.inl ⟨_,rfl,.inl ⟨rfl,rfl⟩⟩,trivial⟩ (fun _=>rfl) (fun _=>rfl) ?_;rintro k _ p a _ _ _;refine ah (fun b=>?_) (fun c=>?_)
 ·have b:k<l.length:=by rw[d] at b;omega
  refine aX b fun x o f e=>?_;refine bW o ?_;refine callO [1000] [1000] (h x f) rfl rfl rfl rfl rfl fun _ _=>?_;refine aq (fun j=>?_) (fun j=>?_)
  ·exact bJ [1000] rfl rfl rfl (vv IC (rf e a j))
  ·refine Fit.aar (by omega) (by omega) ?_;exact⟨(k+1,()),⟨b,uY e a j⟩,⟨aZ,trivial⟩,⟨.inl ⟨_,rfl,.inl ⟨rfl,rfl⟩⟩,trivial⟩,bf b⟩
 ·have c:¬k<l.length:=by rw[d] at c;omega
  exact bJ [1000] rfl rfl rfl (vv IC (ri c a))
theorem Vh (es:List C) (pa:Int) (pc:List C) (l:List Ty) (q:Ty->Bool) (h:∀x∈l,CallsT P 50 [aK x,.pt es 0,.own 1000 0] [.box 39 [.fn 48 [] [.pt [IC pa] 0,.pt pc 0,.own 1000 0]]] (aQ [.box 39 [.fn 48 [] [.pt [IC pa] 0,.pt pc 0,.own 1000 0]]] (.bool (q x)))) :
  CallsT P 49 [.sl (l.map aD),.fn 50 [] [.pt es 0,.own 1000 0]] [.box 39 [.fn 48 [] [.pt [IC pa] 0,.pt pc 0,.own 1000 0]]] (aQ [.box 39 [.fn 48 [] [.pt [IC pa] 0,.pt pc 0,.own 1000 0]]] (.bool (l.any q))):=by
 have a:=Vg es pa pc l q h;have e:=rj q l;generalize fidx q l 0=n at a e;refine af Try.func49 uN rfl fun b _=>?_;refine callO [1000] [1000] a rfl rfl rfl rfl rfl fun _ _=>?_;exact bJ [1000] rfl rfl rfl (vv C.bool e)
def DA (ds:List Api.Data) (k i:Int):Option Int :=
 if k=1\/k=6 then some 0 else if k=2 then(if i<0\/(ds.length:Int)<=i then none else some ((ds[i.toNat]?).map (·.params) |>.getD 0)) else if k=3\/k=4\/k=8\/k=7 then some 1 else none
mutual
def wT (ds:List Api.Data) (pa:Int):Ty->Bool
 | .mk k i l=>if k=5 then decide (0<=i)&&decide (i<pa)&&decide (l.length=0) else
  match DA ds k i with
  | none=>false
  | some n=>if(k≠2/\i≠0)\/(l.length:Int)≠n then false else !W6 ds pa k l
def W6 (ds:List Api.Data) (pa:Int) (k:Int):List Ty->Bool
 | []=>false
 | x::l=>((!je x&&!(decide (k=7)&&decide (x.kind=6)))||!wT ds pa x)||W6 ds pa k l
end
def Gr (ds:List Api.Data) (pa k:Int) (x:Ty):Bool:=(!je x&&!(decide (k=7)&&decide (x.kind=6)))||!wT ds pa x
theorem HY (ds:List Api.Data) (pa k:Int):∀l:List Ty,W6 ds pa k l=l.any (Gr ds pa k)
 | []=>rfl
 | t::l=>by rw[W6,HY ds pa k l,abQ];rfl
theorem m9 (ds:List Api.Data) (pa:Int) (t:Ty):wT ds pa t=if t.kind=5 then decide (0<=t.id)&&decide (t.id<pa)&&decide (t.args.length=0) else
  match DA ds t.kind t.id with
  | none=>false
  | some n=>if(t.kind≠2/\t.id≠0)\/(t.args.length:Int)≠n then false else !t.args.any (Gr ds pa t.kind):=by
 cases t;rw[wT,HY];rfl
abbrev F48 (pa:Int) (p:Prog):C:=.fn 48 [] [.pt [IC pa] 0,.pt (kG p) 0,.own 1000 0]
abbrev UW (pa:Int) (p:Prog):List TO:=[.box 39 [F48 pa p]]
abbrev xA (pa:Int) (p:Prog) (t:Ty) (b:Bool):Prop:=CallsT P 48 [aK t,.pt [IC pa] 0,.pt (kG p) 0,.own 1000 0] (UW pa p) (aQ (UW pa p) (.bool b))
theorem t50 (pa:Int) (p:Prog) (t x:Ty) (b:Bool) (h:xA pa p x b) :
  CallsT P 50 [aK x,.pt [IC t.kind,IC t.id,.sl (t.args.map aD)] 0,.own 1000 0] (UW pa p) (aQ (UW pa p) (.bool ((!je x&&!(decide (t.kind=7)&&decide (x.kind=6)))||!b))):=by
 have a:=t51 x;generalize je x=s at a ⊢;refine af Try.func50 PZ rfl fun c _=>?_;refine ah (fun h1=>?_) (fun h1=>?_)
 ·refine aF a rfl fun _=>?_;cases s
  ·refine aq (fun h2=>?_) (fun h2=>?_)
   ·refine bJ [1000] rfl rfl rfl (vv C.bool ?_);have h2:decide (x.kind=6)=false:=by simpa using h2
    rw[h2,aa2 (show t.kind=7 from h1)];rfl
   ·refine callO [1000] [1000] h rfl rfl rfl rfl rfl fun _ _=>?_;refine bJ [1000] rfl rfl rfl (vv C.bool ?_);have h2:decide (x.kind=6)=true:=by simpa using h2
    rw[h2,aa2 (show t.kind=7 from h1)];rfl
  ·refine callO [1000] [1000] h rfl rfl rfl rfl rfl fun _ _=>?_;exact bJ [1000] rfl rfl rfl (vv C.bool rfl)
 ·refine aF a rfl fun _=>?_;cases s
  ·refine bJ [1000] rfl rfl rfl (vv C.bool ?_);rw[aa3 (show¬t.kind=7 from h1)];rfl
  ·refine callO [1000] [1000] h rfl rfl rfl rfl rfl fun _ _=>?_;exact bJ [1000] rfl rfl rfl (vv C.bool rfl)
theorem Gs {ds:List Api.Data}{z:Int}{d:Api.Data}{K:List C->Prop}(h0:0<=z) (a:ds[z.toNat]?=some d) (h:K [.str d.name,IC d.module,IC d.params,.sl (d.variants.map uT),IC d.drop]):ur (ds.map lG) z 5 K :=
 ⟨_,h0,by simp only[abk,a,abI];rfl,rfl,h⟩
theorem uZ {l:List Ty}:((l.map aD).length:Int)=(l.length:Int):=by rw[vz]
theorem aT {p:Prop}[Decidable p] {A B:Prop}(h:¬p->A) (k:p->B):Ap (!decide p) A B:=by
 by_cases a:p
 ·rw[aa2 a];exact k a
 ·rw[aa3 a];exact h a
structure Sc (pa:Int) (p:Prog) (t:Ty) (bad:Ty->Bool):Prop where
 h49:CallsT P 49 [.sl (t.args.map aD),.fn 50 [] [.pt [IC t.kind,IC t.id,.sl (t.args.map aD)] 0,.own 1000 0]] (UW pa p) (aQ (UW pa p) (.bool (t.args.any bad)))
theorem Vi (pa:Int) (p:Prog) (t:Ty) (a:Ty->Bool) (X:Sc pa p t a) (b:t.kind=1):xA pa p t (if t.id≠0\/(t.args.length:Int)≠0 then false else !t.args.any a):=by
 refine af Try.func48 kY rfl fun c _=>?_;refine ah (fun _=>?_) (fun q=>o5 (by omega) q);refine ah (fun _=>?_) (fun q=>o5 (by omega) q);refine aT (fun _=>?_) (fun q=>o5 q (by omega));refine aT (fun h3=>?_) (fun h3=>?_)
 ·exact bJ [1000] rfl rfl rfl (vv C.bool (eu (Or.inl h3)).symm)
 refine aT (fun h4=>?_) (fun h4=>?_)
 ·exact bJ [1000] rfl rfl rfl (vv C.bool (eu (Or.inr (by rw[<-uZ];exact h4))).symm)
 refine callO [1000] [1000] X.h49 rfl rfl rfl rfl rfl fun _ _=>?_;exact bJ [1000] rfl rfl rfl (vv C.bool (fo (by rw[<-uZ];exact fun q=>q.elim (fun q=>q h3) (fun q=>q h4))).symm)
theorem Vj (pa:Int) (p:Prog) (t:Ty) (a:Ty->Bool) (X:Sc pa p t a) (b:t.kind=6):xA pa p t (if t.id≠0\/(t.args.length:Int)≠0 then false else !t.args.any a):=by
 refine af Try.func48 kY rfl fun c _=>?_;refine ah (fun q=>o5 q (by omega)) (fun _=>?_);refine ah (fun _=>?_) (fun q=>o5 (by omega) q);refine aT (fun _=>?_) (fun q=>o5 q (by omega));refine aT (fun h3=>?_) (fun h3=>?_)
 ·exact bJ [1000] rfl rfl rfl (vv C.bool (eu (Or.inl h3)).symm)
 refine aT (fun h4=>?_) (fun h4=>?_)
 ·exact bJ [1000] rfl rfl rfl (vv C.bool (eu (Or.inr (by rw[<-uZ];exact h4))).symm)
 refine callO [1000] [1000] X.h49 rfl rfl rfl rfl rfl fun _ _=>?_;exact bJ [1000] rfl rfl rfl (vv C.bool (fo (by rw[<-uZ];exact fun q=>q.elim (fun q=>q h3) (fun q=>q h4))).symm)
theorem Vk (pa:Int) (p:Prog) (t:Ty) (a:Ty->Bool) (X:Sc pa p t a) (b:t.kind=3):xA pa p t (if t.id≠0\/(t.args.length:Int)≠1 then false else !t.args.any a):=by
 refine af Try.func48 kY rfl fun c _=>?_;refine ah (fun q=>o5 q (by omega)) (fun _=>?_);refine ah (fun q=>o5 q (by omega)) (fun _=>?_);refine ah (fun q=>o5 q (by omega)) (fun _=>?_);refine ah (fun q=>o5 q (by omega)) (fun _=>?_);refine ah (fun _=>?_) (fun q=>o5 (by omega) q);refine ah (fun _=>?_) (fun q=>o5 (by omega) q);refine aT (fun _=>?_) (fun q=>o5 q (by omega));refine aT (fun h3=>?_) (fun h3=>?_)
 ·exact bJ [1000] rfl rfl rfl (vv C.bool (eu (Or.inl h3)).symm)
 refine aT (fun h4=>?_) (fun h4=>?_)
 ·exact bJ [1000] rfl rfl rfl (vv C.bool (eu (Or.inr (by rw[<-uZ];exact h4))).symm)
 refine callO [1000] [1000] X.h49 rfl rfl rfl rfl rfl fun _ _=>?_;exact bJ [1000] rfl rfl rfl (vv C.bool (fo (by rw[<-uZ];exact fun q=>q.elim (fun q=>q h3) (fun q=>q h4))).symm)
theorem Vl (pa:Int) (p:Prog) (t:Ty) (a:Ty->Bool) (X:Sc pa p t a) (b:t.kind=4):xA pa p t (if t.id≠0\/(t.args.length:Int)≠1 then false else !t.args.any a):=by
 refine af Try.func48 kY rfl fun c _=>?_;refine ah (fun q=>o5 q (by omega)) (fun _=>?_);refine ah (fun q=>o5 q (by omega)) (fun _=>?_);refine ah (fun q=>o5 q (by omega)) (fun _=>?_);refine ah (fun q=>o5 q (by omega)) (fun _=>?_);refine ah (fun q=>o5 q (by omega)) (fun _=>?_);refine ah (fun _=>?_) (fun q=>o5 (by omega) q);refine ah (fun _=>?_) (fun q=>o5 (by omega) q);refine aT (fun _=>?_) (fun q=>o5 q (by omega));refine aT (fun h3=>?_) (fun h3=>?_)
 ·exact bJ [1000] rfl rfl rfl (vv C.bool (eu (Or.inl h3)).symm)
 refine aT (fun h4=>?_) (fun h4=>?_)
 ·exact bJ [1000] rfl rfl rfl (vv C.bool (eu (Or.inr (by rw[<-uZ];exact h4))).symm)
 refine callO [1000] [1000] X.h49 rfl rfl rfl rfl rfl fun _ _=>?_;exact bJ [1000] rfl rfl rfl (vv C.bool (fo (by rw[<-uZ];exact fun q=>q.elim (fun q=>q h3) (fun q=>q h4))).symm)
theorem Vm (pa:Int) (p:Prog) (t:Ty) (a:Ty->Bool) (X:Sc pa p t a) (b:t.kind=8):xA pa p t (if t.id≠0\/(t.args.length:Int)≠1 then false else !t.args.any a):=by
 refine af Try.func48 kY rfl fun c _=>?_;refine ah (fun q=>o5 q (by omega)) (fun _=>?_);refine ah (fun q=>o5 q (by omega)) (fun _=>?_);refine ah (fun q=>o5 q (by omega)) (fun _=>?_);refine ah (fun q=>o5 q (by omega)) (fun _=>?_);refine ah (fun q=>o5 q (by omega)) (fun _=>?_);refine ah (fun q=>o5 q (by omega)) (fun _=>?_);refine ah (fun _=>?_) (fun q=>o5 (by omega) q);refine ah (fun _=>?_) (fun q=>o5 (by omega) q);refine aT (fun _=>?_) (fun q=>o5 q (by omega));refine aT (fun h3=>?_) (fun h3=>?_)
 ·exact bJ [1000] rfl rfl rfl (vv C.bool (eu (Or.inl h3)).symm)
 refine aT (fun h4=>?_) (fun h4=>?_)
 ·exact bJ [1000] rfl rfl rfl (vv C.bool (eu (Or.inr (by rw[<-uZ];exact h4))).symm)
 refine callO [1000] [1000] X.h49 rfl rfl rfl rfl rfl fun _ _=>?_;exact bJ [1000] rfl rfl rfl (vv C.bool (fo (by rw[<-uZ];exact fun q=>q.elim (fun q=>q h3) (fun q=>q h4))).symm)
theorem Vn (pa:Int) (p:Prog) (t:Ty) (a:Ty->Bool) (X:Sc pa p t a) (b:t.kind=7):xA pa p t (if t.id≠0\/(t.args.length:Int)≠1 then false else !t.args.any a):=by
 refine af Try.func48 kY rfl fun c _=>?_;refine ah (fun q=>o5 q (by omega)) (fun _=>?_);refine ah (fun q=>o5 q (by omega)) (fun _=>?_);refine ah (fun q=>o5 q (by omega)) (fun _=>?_);refine ah (fun q=>o5 q (by omega)) (fun _=>?_);refine ah (fun q=>o5 q (by omega)) (fun _=>?_);refine ah (fun q=>o5 q (by omega)) (fun _=>?_);refine ah (fun q=>o5 q (by omega)) (fun _=>?_);refine ah (fun _=>?_) (fun q=>o5 (by omega) q);refine aT (fun _=>?_) (fun q=>o5 q (by omega));refine aT (fun h3=>?_) (fun h3=>?_)
 ·exact bJ [1000] rfl rfl rfl (vv C.bool (eu (Or.inl h3)).symm)
 refine aT (fun h4=>?_) (fun h4=>?_)
 ·exact bJ [1000] rfl rfl rfl (vv C.bool (eu (Or.inr (by rw[<-uZ];exact h4))).symm)
 refine callO [1000] [1000] X.h49 rfl rfl rfl rfl rfl fun _ _=>?_;exact bJ [1000] rfl rfl rfl (vv C.bool (fo (by rw[<-uZ];exact fun q=>q.elim (fun q=>q h3) (fun q=>q h4))).symm)
theorem Vo (pa:Int) (p:Prog) (t:Ty) (a:¬(1<=t.kind/\t.kind<=8)):xA pa p t false:=by
 refine af Try.func48 kY rfl fun b _=>?_;refine ah (fun q=>o5 q (by omega)) (fun _=>?_);refine ah (fun q=>o5 q (by omega)) (fun _=>?_);refine ah (fun q=>o5 q (by omega)) (fun _=>?_);refine ah (fun q=>o5 q (by omega)) (fun _=>?_);refine ah (fun q=>o5 q (by omega)) (fun _=>?_);refine ah (fun q=>o5 q (by omega)) (fun _=>?_);refine ah (fun q=>o5 q (by omega)) (fun _=>?_);refine ah (fun q=>o5 q (by omega)) (fun _=>?_);exact bJ [1000] rfl rfl rfl rfl
theorem Vp (pa:Int) (p:Prog) (t:Ty) (a:t.kind=5):xA pa p t (decide (0<=t.id)&&decide (t.id<pa)&&decide (t.args.length=0)):=by
 refine af Try.func48 kY rfl fun b _=>?_;refine ah (fun q=>o5 q (by omega)) (fun _=>?_);refine ah (fun q=>o5 q (by omega)) (fun _=>?_);refine ah (fun _=>?_) (fun q=>o5 (by omega) q);refine ah (fun h4=>?_) (fun h4=>?_)
 ·refine ah (fun h5=>?_) (fun h5=>?_)
  ·exact bJ [1000] rfl rfl rfl (vv C.bool (by rw[aa2 (show(0:Int)<=t.id from h4),aa2 h5,aa7,aa7];exact decide_eq_decide.2 (by rw[vz];omega)))
  ·exact bJ [1000] rfl rfl rfl (vv C.bool (by rw[aa3 h5,aby,abb]))
 ·exact bJ [1000] rfl rfl rfl (vv C.bool (by rw[aa3 (show¬(0:Int)<=t.id from h4),abb,abb]))
theorem TA (pa:Int) (p:Prog) (t:Ty) (b:t.kind=2) (hi:t.id<0\/(p.datas.length:Int)<=t.id):xA pa p t false:=by
 have a:(p.datas.map lG).length=p.datas.length:=vz _;refine af Try.func48 kY rfl fun c _=>?_;refine ah (fun q=>o5 q (by omega)) (fun _=>?_);refine ah (fun q=>o5 q (by omega)) (fun _=>?_);refine ah (fun q=>o5 q (by omega)) (fun _=>?_);refine ah (fun _=>?_) (fun q=>o5 (by omega) q);refine ah (fun h4=>?_) (fun h4=>?_)
 ·exact bJ [1000] rfl rfl rfl rfl
 refine ah (fun h5=>?_) (fun h5=>o5 (by rw[a];omega) h5);exact bJ [1000] rfl rfl rfl rfl
theorem Vq (pa:Int) (p:Prog) (t:Ty) (a:Ty->Bool) (X:Sc pa p t a) (c:t.kind=2) (d:Api.Data) (h0:0<=t.id) (hd:p.datas[t.id.toNat]?=some d):xA pa p t (if(t.args.length:Int)≠d.params then false else !t.args.any a):=by
 have b:(p.datas.map lG).length=p.datas.length:=vz _;have e:t.id.toNat<p.datas.length:=(aa6.1 hd).1;refine af Try.func48 kY rfl fun f _=>?_;refine ah (fun q=>o5 q (by omega)) (fun _=>?_);refine ah (fun q=>o5 q (by omega)) (fun _=>?_);refine ah (fun q=>o5 q (by omega)) (fun _=>?_);refine ah (fun _=>?_) (fun q=>o5 (by omega) q);refine ah (fun h4=>o5 h0 (by omega)) (fun h4=>?_);refine ah (fun h5=>o5 h5 (by rw[b];omega)) (fun h5=>?_);refine Gs h0 hd ?_;refine aT (fun q=>o5 c q) (fun _=>?_);refine aT (fun h4=>?_) (fun h4=>?_)
 ·exact bJ [1000] rfl rfl rfl (vv C.bool (eu (by rw[<-uZ];exact h4)).symm)
 refine callO [1000] [1000] X.h49 rfl rfl rfl rfl rfl fun _ _=>?_;exact bJ [1000] rfl rfl rfl (vv C.bool (fo (by rw[<-uZ];exact fun q=>q h4)).symm)
theorem t48 (pa:Int) (p:Prog):∀t:Ty,xA pa p t (wT p.datas pa t):=cL fun t a=>by
 have X:Sc pa p t (Gr p.datas pa t.kind):=⟨Vh [IC t.kind,IC t.id,.sl (t.args.map aD)] pa (kG p) t.args (Gr p.datas pa t.kind) fun x b=>t50 pa p t x _ (a x b)⟩;rw[m9]
 by_cases h5:t.kind=5
 ·rw[eu h5];exact Vp pa p t h5
 rw[fo h5,DA]
 by_cases h1:t.kind=1\/t.kind=6
 ·rw[eu h1];simp only[ne_eq,show¬t.kind=2 by omega,not_false_eq_true,true_and];rcases h1 with h1 | h1
  ·exact Vi pa p t _ X h1
  ·exact Vj pa p t _ X h1
 rw[fo h1]
 by_cases h2:t.kind=2
 ·rw[eu h2]
  by_cases hi:t.id<0\/(p.datas.length:Int)<=t.id
  ·rw[eu hi];exact TA pa p t h2 hi
  ·rw[fo hi];obtain⟨d,hd⟩:=fK (l:=p.datas) (k:=t.id.toNat) (by omega);rw[hd];simp only[ne_eq,h2,not_true_eq_false,false_and,false_or,abI,Option.getD_some];rw[<-h2];exact Vq pa p t _ X h2 d (by omega) hd
 rw[fo h2]
 by_cases h3:t.kind=3\/t.kind=4\/t.kind=8\/t.kind=7
 ·rw[eu h3];simp only[ne_eq,h2,not_false_eq_true,true_and];rcases h3 with h3 | h3 | h3 | h3
  ·exact Vk pa p t _ X h3
  ·exact Vl pa p t _ X h3
  ·exact Vm pa p t _ X h3
  ·exact Vn pa p t _ X h3
 ·rw[fo h3];exact Vo pa p t (by omega)
def jg (p:Prog) (pa:Int) (t:Ty):Bool:=if pa<0\/pa>4\/cg t>8 then false else wT p.datas pa t
theorem t14 (pa:Int) (p:Prog) (t:Ty) (hd:cg t<=2 ^ 40):CallsT P 14 [.agg (kG p),IC pa,aK t] [] (aQ [] (.bool (jg p pa t))):=by
 have c:=Vf t hd;have a:=t48 pa p t;rw[jg];generalize cg t=D at c ⊢;generalize wT p.datas pa t=b at a ⊢;refine af Try.func14 Pn rfl fun d _=>?_;refine ah (fun h1=>?_) (fun h1=>?_)
 ·exact ay rfl (vv C.bool (eu (Or.inl h1)).symm)
 refine ah (fun h2=>?_) (fun h2=>?_)
 ·exact ay rfl (vv C.bool (eu (Or.inr (Or.inl h2))).symm)
 refine aF c rfl fun _=>?_;refine ah (fun h3=>?_) (fun h3=>?_)
 ·exact ay rfl (vv C.bool (eu (Or.inr (Or.inr (by omega)))).symm)
 refine callO [7] [7] a rfl rfl rfl rfl rfl fun _ _=>?_;exact ay rfl (vv C.bool (fo (by omega)).symm)
section
variable {α:Type}
def bw:List (Int×α)->Int->Option α
 | [],_=>none
 | (k,v)::m,i=>if i=k then some v else bw m i
def eX:List (Int×α)->Int->α->List (Int×α)
 | [],i,x=>[(i,x)]
 | (k,v)::m,i,x=>if i=k then(i,x)::m else(k,v)::eX m i x
def jt (f:α->C) (m:List (Int×α)):List (C×C):=m.map fun p=>(IC p.1,f p.2)
theorem C6 (f:α->C) (i:Int):∀m:List (Int×α),wL false (IC i) (jt f m)=some ((bw m i).map f)
 | []=>rfl
 | (k,v)::m=>by
  have a:=C6 f i m;simp only[jt,abe,wL,j4,bw] at a ⊢
  by_cases h:i=k
  ·rw[aa2 h,eu h];rfl
  ·rw[aa3 h,fo h];exact a
theorem ME (f:α->C) (i:Int) (x:α):∀m:List (Int×α),FW false (IC i) (f x) (jt f m)=some (jt f (eX m i x))
 | []=>rfl
 | (k,v)::m=>by
  have a:=ME f i x m;simp only[jt,abe,FW,j4,eX] at a ⊢
  by_cases h:i=k
  ·rw[aa2 h,eu h];rfl
  ·rw[aa3 h,fo h];simp only[a];rfl
theorem iQ (m:List (Int×α)) (i j:Int) (x:α):bw (eX m i x) j=if j=i then some x else bw m j:=by
 induction m with
 | nil =>
  simp only[eX,bw]
 | cons p m a =>
  obtain⟨k,v⟩:=p;simp only[eX]
  by_cases h:i=k
  ·rw[eu h];simp only[bw];subst h
   by_cases h2:j=i
   ·rw[eu h2,eu h2]
   ·rw[fo h2,fo h2,fo h2]
  ·rw[fo h];simp only[bw,a]
   by_cases h2:j=k
   ·rw[eu h2,eu h2,fo (by omega)]
   ·rw[fo h2,fo h2]
theorem zF {f:α->C}{i:Int}{m:List (Int×α)}{Y:C->Prop}{N:Prop}{x:α}(h:bw m i=some x) (k:Y (f x)):yJ false (jt f m) (IC i) Y N :=
 ⟨.inl ⟨f x,by rw[C6,h];rfl,k⟩⟩
theorem zG {f:α->C}{i:Int}{m:List (Int×α)}{Y:C->Prop}{N:Prop}(h:bw m i=none) (k:N):yJ false (jt f m) (IC i) Y N :=
 ⟨.inr ⟨by rw[C6,h];rfl,k⟩⟩
theorem Jw {f:α->C}{i:Int}{m:List (Int×α)}{K:List (C×C)->Prop}{x:α}{c:C}(e:c=f x) (k:K (jt f (eX m i x))):RM false (jt f m) (IC i) c K :=
 ⟨_,by rw[e];exact ME f i x m,k⟩
end
mutual
def eqB:Ty->Ty->Bool
 | .mk k i l,.mk k' i' l'=>decide (k=k')&&decide (i=i')&&Gt l l'
def Gt:List Ty->List Ty->Bool
 | [],[]=>true
 | x::l,y::l'=>eqB x y&&Gt l l'
 | _,_=>false
end
mutual
theorem pX:∀x y:Ty,eqB x y=true↔x=y
 | .mk k i l,.mk k' i' l'=>by
  rw[eqB,xo,xo,abf,abf,EJ l l'];simp only[Ty.mk.injEq,and_assoc]
theorem EJ:∀x y:List Ty,Gt x y=true↔x=y
 | [],[]=>by simp[Gt]
 | [],_::_=>by simp[Gt]
 | _::_,[]=>by simp[Gt]
 | x::l,y::l'=>by rw[Gt,xo,pX x y,EJ l l',List.cons.injEq]
end
theorem C8 (x y:Ty):Ar (x=y)=eqB x y:=by
 cases h:eqB x y with
 | true=>exact pV.2 ((pX x y).1 h)
 | false=>exact(iy fun e=>by rw[(pX x y).2 e] at h;cases h).symm
abbrev TM:=List (Int×Ty)
mutual
def j9 (n:Int):Ty->Ty->TM->TM×Bool
 | .mk k i l,t,m=>if k=5 then(if i<0\/n<=i then(m,false) else match bw m i with
   | some x=>(m,eqB x t)
   | none=>(eX m i t,true))
  else if k=t.kind/\i=t.id then(if l.length=t.args.length then nG n l t.args m else(m,false)) else(m,false)
def nG (n:Int):List Ty->List Ty->TM->TM×Bool
 | [],_,m=>(m,true)
 | x::l,l',m=>match l' with
  | []=>(m,false)
  | y::l'=>match j9 n x y m with
   | (m',true)=>nG n l l' m'
   | (m',false)=>(m',false)
end
def Jy (n:Int) (p t:Ty) (m:TM):TM×Bool:=if p.kind=5 then(if p.id<0\/n<=p.id then(m,false) else match bw m p.id with
   | some x=>(m,eqB x t)
   | none=>(eX m p.id t,true))
  else if p.kind=t.kind/\p.id=t.id then(if p.args.length=t.args.length then nG n p.args t.args m else(m,false)) else(m,false)
theorem u4 (n:Int) (p t:Ty) (m:TM):j9 n p t m=Jy n p t m:=by
 cases p;rw[j9];rfl
abbrev YC (n:Int):C:=.fn 66 [] [.own 1000 0,.pt [IC n] 0,.own 1001 0]
abbrev W7 (n:Int) (m:TM):List TO:=[.box 37 [YC n],.box 101 [.mpr 1002],.map (jt aK m)]
abbrev EK (n:Int) (p t:Ty) (m:TM) (r:TM×Bool):Prop:=CallsT P 66 [aK p,aK t,.own 1000 0,.pt [IC n] 0,.own 1001 0] (W7 n m) (aQ (W7 n r.1) (.bool r.2))
abbrev Vr (n:Int) (a b:List Ty) (m:TM) (r:TM×Bool):Prop:=CallsT P 67 [.sl (a.map aD),.sl (b.map aD),YC n] (W7 n m) (aQ (W7 n r.1) (.bool r.2))
theorem YD (n:Int) (a b:List Ty) (m:TM) (f:Ty->Ty->TM->TM×Bool) (j:List Ty->List Ty->TM->TM×Bool) (w:∀l m,j [] l m=(m,true)) (hz:∀x l y l' m,j (x::l) (y::l') m=match f x y m with
   | (s,true)=>j l l' s
   | (s,false)=>(s,false)) (ih:∀x∈a,∀y m,EK n x y m (f x y m)):Vr n a b m (if a.length=b.length then j a b m else(m,false)):=by
 have p:(a.map aD).length=a.length:=by simp
 have hb:(b.map aD).length=b.length:=by simp
 by_cases e:a.length=b.length
 ·rw[eu e];generalize hr:j a b m=r;refine af Try.func67 xS rfl fun z _=>?_;have hm:a.length<=9223372036854775807:=by have:=gJ z.1;rwa [p] at this
  refine aT (fun o=>o5 (by rw[p,hb,e]) o) (fun o=>?_);refine bA a.length 17 [] m (fun _=>[]) (fun m=>[(1000,.box 37 [YC n]),(1001,.box 101 [.mpr 1002]),(1002,.map (jt aK m))]) (fun k m=>j (a.drop k) (b.drop k) m=r) hr (aj rfl) trivial
   ⟨.inl ⟨_,rfl,.inl ⟨rfl,rfl⟩⟩,.inl ⟨_,rfl,.inl ⟨rfl,rfl⟩⟩,.inl ⟨_,rfl,.inl ⟨rfl,rfl⟩⟩,trivial⟩ (fun _=>rfl) (fun _=>rfl) ?_
  rintro k m hk c _ _ _;refine ah (fun d=>?_) (fun h=>?_)
  ·have d:k<a.length:=by rw[p] at d;omega
   refine aX d fun x hx t v=>?_;refine aX (l:=b) (k:=k) (by omega) fun y hy _ u=>?_;have c:=c;rw[v,u,hz] at c;refine bW hx ?_;refine bW hy ?_;refine callO [1000,1001,1002] [1000,1001,1002] (ih x t y m) rfl rfl rfl rfl rfl fun _ _=>?_;generalize f x y m=q at c;obtain⟨s,q⟩:=q;cases q
   ·exact bJ [1000,1001,1002] rfl rfl (by rw[<-c];rfl) (by rw[<-c];rfl)
   ·refine Fit.aar (by omega) (by omega) ?_;exact⟨(k+1,s),⟨d,c⟩,⟨aZ,trivial⟩,⟨.inl ⟨_,rfl,.inl ⟨rfl,rfl⟩⟩,.inl ⟨_,rfl,.inl ⟨rfl,rfl⟩⟩,.inl ⟨_,rfl,.inl ⟨rfl,rfl⟩⟩,trivial⟩,bf d⟩
  ·have h:¬k<a.length:=by rw[p] at h;omega
   have c:=c;rw[bU h,w] at c;exact bJ [1000,1001,1002] rfl rfl (by rw[<-c];rfl) (by rw[<-c];rfl)
 ·rw[fo e];refine af Try.func67 xS rfl fun z _=>?_;refine aT (fun o=>?_) (fun o=>o5 (by rw[p,hb] at o;omega) e);exact bJ [1000,1001,1002] rfl rfl rfl rfl
theorem YE (n:Int) (p t:Ty) (m:TM) (r:TM×Bool) (h5:¬p.kind=5) (h1:p.kind=t.kind) (h2:p.id=t.id) (h:Vr n p.args t.args m r):EK n p t m r:=by
 refine af Try.func66 uO rfl fun a _=>?_;refine aT (fun _=>?_) (fun q=>o5 q h5);refine ah (fun _=>?_) (fun q=>o5 h1 q);refine ah (fun _=>?_) (fun q=>o5 h2 q);refine callO [1000,1001,1002] [1000,1001,1002] h rfl rfl rfl rfl rfl fun _ _=>?_;exact bJ [1000,1001,1002] rfl rfl rfl rfl
theorem YF (n:Int) (p t:Ty) (m:TM) (h5:¬p.kind=5) (h1:¬(p.kind=t.kind/\p.id=t.id)):EK n p t m (m,false):=by
 refine af Try.func66 uO rfl fun a _=>?_;refine aT (fun _=>?_) (fun q=>o5 q h5);refine ah (fun h3=>ah (fun h4=>o5 ⟨h3,h4⟩ h1) (fun _=>?_)) (fun _=>?_)
 all_goals exact bJ [1000,1001,1002] rfl rfl rfl rfl
theorem YG (n:Int) (p t:Ty) (m:TM) (h5:p.kind=5) (h1:p.id<0\/n<=p.id):EK n p t m (m,false):=by
 refine af Try.func66 uO rfl fun a _=>?_;refine aT (fun q=>o5 h5 q) (fun _=>?_);refine ah (fun h3=>?_) (fun h3=>ah (fun _=>?_) (fun h4=>o5 h1 (by omega)))
 all_goals exact bJ [1000,1001,1002] rfl rfl rfl rfl
theorem YH (n:Int) (p t x:Ty) (m:TM) (h5:p.kind=5) (h1:¬(p.id<0\/n<=p.id)) (c:bw m p.id=some x):EK n p t m (m,eqB x t):=by
 have a:=t68 x t;rw[qZ,C8] at a;generalize eqB x t=b at a ⊢;refine af Try.func66 uO rfl fun d _=>?_;refine aT (fun q=>o5 h5 q) (fun _=>?_);refine ah (fun h3=>o5 (Or.inl h3) h1) (fun h3=>ah (fun h4=>o5 (Or.inr h4) h1) (fun h4=>?_));refine zF c ?_;refine aF a rfl fun _=>?_;exact bJ [1000,1001,1002] rfl rfl rfl rfl
theorem YI (n:Int) (p t:Ty) (m:TM) (h5:p.kind=5) (h1:¬(p.id<0\/n<=p.id)) (a:bw m p.id=none):EK n p t m (eX m p.id t,true):=by
 refine af Try.func66 uO rfl fun b _=>?_;refine aT (fun q=>o5 h5 q) (fun _=>?_);refine ah (fun h3=>o5 (Or.inl h3) h1) (fun h3=>ah (fun h4=>o5 (Or.inr h4) h1) (fun h4=>?_));refine zG a ?_;refine Jw (x:=t) rfl ?_;exact bJ [1000,1001,1002] rfl rfl rfl rfl
theorem t66 (n:Int):∀(p t:Ty) (m:TM),EK n p t m (j9 n p t m):=fun p=>cL (p:=fun p=>∀(t:Ty) (m:TM),EK n p t m (j9 n p t m)) (fun p b t m=>by
 rw[u4,Jy]
 by_cases h5:p.kind=5
 ·rw[eu h5]
  by_cases h1:p.id<0\/n<=p.id
  ·rw[eu h1];exact YG n p t m h5 h1
  rw[fo h1];cases a:bw m p.id with
  | none=>exact YI n p t m h5 h1 a
  | some x=>exact YH n p t x m h5 h1 a
 ·rw[fo h5]
  by_cases h1:p.kind=t.kind/\p.id=t.id
  ·rw[eu h1];refine YE n p t m _ h5 h1.1 h1.2 ?_;exact YD n p.args t.args m (j9 n) (nG n) (fun l m=>by rw[nG]) (fun x l y c m=>by rw[nG]) b
  ·rw[fo h1];exact YF n p t m h5 h1) p
def bS (s:List Ty) (t:Ty):Option Ty:=if t.id<0 then none else s[t.id.toNat]?
theorem bD {s:List Ty}{t x:Ty}(h:bS s t=some x):0<=t.id/\s[t.id.toNat]?=some x/\t.id.toNat<s.length:=by
 unfold bS at h;split at h
 ·cases h
 ·exact⟨by omega,h,(aa6.1 h).1⟩
theorem MF {s:List Ty}{t:Ty}(h0:0<=t.id) (h1:t.id<s.length):∃x,bS s t=some x/\x∈s:=by
 unfold bS;rw[fo (by omega)];exact⟨s[t.id.toNat]'(by omega),aa4 _,List.getElem_mem _⟩
def aP (s:List Ty):Nat->Ty->Option Ty
 | 0,_=>none
 | n+1,t=>if t.kind=9 then(match bS s t with
   | none=>none
   | some x=>if x.kind=0 then some t else aP s n x) else some t
def xB (f:Ty->Option Bool):List Ty->Option Bool
 | []=>some false
 | x::l=>match f x,xB f l with
  | some a,some b=>some (a||b)
  | _,_=>none
def jT (s:List Ty) (v:Int):Nat->Ty->Option Bool
 | 0,_=>none
 | n+1,t=>match aP s n t with
  | none=>none
  | some a=>if a.kind=9 then some (decide (a.id=v)) else xB (jT s v n) a.args
def jU (f:List Ty->Ty->Ty->Option (Option (List Ty))):List Ty->List Ty->List Ty->Option (Option (List Ty))
 | s,[],_=>some (some s)
 | s,x::l,a=>match a with
  | []=>none
  | y::a=>match f s x y with
   | some (some s')=>jU f s' l a
   | some none=>some none
   | none=>none
def ld:Nat->List Ty->Ty->Ty->Option (Option (List Ty))
 | 0,_,_,_=>none
 | n+1,s,a,b=>match aP s n a,aP s n b with
  | some a,some b =>
   if a.kind=9/\b.kind=9 then(if a.id=b.id then some (some s) else some (some (s.set (max a.id b.id).toNat (.mk 9 (min a.id b.id) []))))
   else if a.kind=9 then(match jT s a.id n b with
    | none=>none
    | some true=>some none
    | some false=>some (some (s.set a.id.toNat b)))
   else if b.kind=9 then ld n s b a
   else if a.kind≠b.kind\/a.id≠b.id\/a.args.length≠b.args.length then some none
   else jU (ld n) s a.args b.args
  | _,_=>none
def Au (n:Int):Int:=IntKind.i64.wrap n
abbrev DM:=List (Int×Int)
abbrev OM:=List (Int×Bool)
def eW (f:Ty->DM->OM->Option (Option (Int×DM×OM))):List Ty->Int->DM->OM->Option (Option (Int×DM×OM))
 | [],k,d,o=>some (some (k,d,o))
 | x::l,k,d,o=>match f x d o with
  | some (some (a,b,o'))=>eW f l (if a>k then a else k) b o'
  | some none=>some none
  | none=>none
def bL (s:List Ty):Nat->Ty->DM->OM->Option (Option (Int×DM×OM))
 | 0,_,_,_=>none
 | n+1,t,d,o =>
  match(if t.kind=9 then bS s t else some (.mk 0 0 [])) with
  | none=>none
  | some x=>if x.kind≠0 then(match bw d t.id with
    | some k=>some (some (k,d,o))
    | none=>match bw o t.id with
     | some true=>some none
     | _=>match bL s n x d (eX o t.id true) with
      | some (some (k,a,o'))=>some (some (k,eX a t.id k,o'))
      | some none=>some none
      | none=>none)
   else match eW (bL s n) t.args 0 d o with
    | some (some (k,a,o'))=>some (some (Au (k+1),a,o'))
    | some none=>some none
    | none=>none
def kx (f:Ty->Option Ty):List Ty->Option (List Ty)
 | []=>some []
 | x::l=>match f x,kx f l with
  | some y,some a=>some (y::a)
  | _,_=>none
def nC (s:List Ty):Nat->Ty->Option Ty
 | 0,_=>none
 | n+1,t=>match(if t.kind=9 then bS s t else some (.mk 0 0 [])) with
  | none=>none
  | some x=>if x.kind≠0 then nC s n x else match kx (nC s n) t.args with
   | some l=>some (.mk t.kind t.id l)
   | none=>none
end Go.Fr.Try
