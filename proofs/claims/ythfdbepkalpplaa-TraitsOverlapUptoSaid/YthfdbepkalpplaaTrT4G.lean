/- Part of the proofs of the statements of this seat. -/
import Derived.Test.YthfdbepkalpplaaUnH1G
import Derived.Test.YthfdbepkalpplaaTrCode
set_option maxRecDepth 10000
set_option linter.unusedVariables false
set_option linter.unusedSimpArgs false
namespace Go.Fr.Try
open Go Go.RowKit Go.Proofs Go.Fr Go.Fr.T Go.Fr.Api
def zT:Ty:=.mk 0 0 []
def iT:Ty:=.mk 1 0 []
def bx (t:Ty):Ty:=.mk 3 0 [t]
def two:List Ty:=[zT,zT]
theorem cI {t:Ty}(h:decide (cnt t<=100)=true):iN t:=GH t (by have:=abt h;omega)
theorem gJ {t:Ty}(h:decide (cn t<=100)=true):cn t<=2 ^ 40:=by have:=abt h;omega
theorem K5:∀x∈two,iN x:=fun x a=>by
 rcases aaT.1 a with rfl | a
 ·exact cI rfl
 ·rw[abD.1 a];exact cI rfl
theorem K6:∃d o,bA two 10=some (some (d,o)):=⟨_,_,rfl⟩
theorem u1:CallsT P 23 [.sl (two.map aG),aR (bx (vr 0)),aR (bx iT)] [] (aT [] (.tup [.sl ([iT,zT].map aG),IC 0])) :=
 DX (by decide) K5 (cI rfl) (cI rfl) (gJ rfl) (gJ rfl) (m:=10) [iT,zT] [iT,zT] [(0,1)] [(0,true)] 2 K6 rfl rfl rfl ⟨_,_,rfl⟩ (by decide) rfl
theorem u2:CallsT P 23 [.sl (two.map aG),aR (vr 0),aR (vr 1)] [] (aT [] (.tup [.sl ([zT,vr 0].map aG),IC 0])) :=
 DX (by decide) K5 (cI rfl) (cI rfl) (gJ rfl) (gJ rfl) (m:=10) [zT,vr 0] [zT,vr 0] [(1,1)] [(1,true)] 1 K6 rfl rfl rfl ⟨_,_,rfl⟩ (by decide) rfl
theorem u3:CallsT P 23 [.sl (two.map aG),aR (bx (vr 0)),aR (.mk 4 0 [vr 0])] [] (aT [] (.tup [.sl [],IC 8])) :=
 K4 (by decide) K5 (cI rfl) (cI rfl) (gJ rfl) (gJ rfl) (m:=10) K6 rfl rfl
theorem a1:CallsT P 22 [.sl ([iT,zT].map aG),aR (bx (vr 0))] [] (aT [] (aR (bx iT))) :=
 apply [iT,zT] 10 (bx (vr 0)) (bx iT) [(0,1)] [(0,true)] rfl (fun x a=>by
  rcases aaT.1 a with rfl | a
  ·exact cI rfl
  ·rw[abD.1 a];exact cI rfl) (cI rfl) rfl
section
variable {L:TL}{ρ:aK}
end
theorem UR.no {n m:Nat}{s:List Ty}{a b:Ty}{r:List Ty}{e:Int}(h:UR n s a b r e) (h1:∃d o,bA s m=some (some (d,o))) (f:mT s a b=true) (c:lD m s a b=some none):e=8:=by
 obtain⟨d,o,h1⟩:=h1;rcases h with⟨s',g,_⟩ | ⟨g,rfl⟩
 ·have:=kD c g.2.2.1;cases this
 ·rcases g with⟨q,_⟩ | ⟨_,⟨q,_⟩ | ⟨_,⟨_,q⟩ | ⟨s',q,_⟩⟩⟩
  ·have:=iC h1 q;cases this
  ·rw[f] at q;cases q
  ·exact q
  ·have:=kD c q;cases this
def zeros (m:Nat):List Ty:=List.replicate m (.mk 0 0 [])
theorem Fg {m:Nat}{t x:Ty}(h:bQ (zeros m) t=some x):x=.mk 0 0 []:=by
 have:=qk h;exact(abO.1 this).2
theorem Fh (m n i:Nat) (hi:i<m):bw (zeros m) (n+1) (vr i) [] []=some (some (1,[],[])):=by
 have a:∃x,bQ (zeros m) (vr i)=some x/\x∈zeros m:=yB (sw (show i<(zeros m).length by rw[zeros,abe];exact hi)) rfl;obtain⟨x,a,_⟩:=a;have b:=Fg a;subst b;rw[AH (x:=.mk 0 0 []) (by rw[fo (show(vr i).kind=9 from rfl)];exact a) rfl];rfl
theorem vI (m n:Nat):∀i,i<=m->dw (zeros m) (n+1) i=some (some (false,[],[]))
 | 0,_=>rfl
 | i+1,hi=>by
  rw[dw,vI m n i (by omega)];simp only;rw[Fh m n i (by omega)];rfl
theorem Fj (m n:Nat):∃d o,bA (zeros m) (n+1)=some (some (d,o)):=by
 have b:(zeros m).length=m:=by rw[zeros,abe]
 refine⟨[],[],?_⟩;unfold bA;rw[fo,b,vI m n m (aa0 _)]
 ·rfl
 ·rw[aaY];intro x a;rw[(abO.1 a).2];rfl
theorem AO {b:Bool}{A B:Prop}(h:b=true->A) (k:b=false->B):yX b A B:=by cases b;exact k rfl;exact h rfl
def dU (n:Int) (len:Nat):Bool:=decide (0<=n)&&decide (n<len)
theorem ig {n:Int}{len:Nat}:dU n len=true↔0<=n/\n<len:=by rw[dU,xo,aaZ,aaZ]
abbrev Ro (f:Nat):Prop:=∀(els:List (List C)) (n:Int),CallsT P f [.sl els,IC n] [] (aT [] (.bool (dU n els.length)))
theorem XG:Ro 84:=fun els n=>by
 refine af Try.func84 NM rfl fun a _=>?_;refine ah (fun h=>?_) (fun h=>?_)
 ·exact aC rfl (vv C.bool (by rw[dU,aaQ (show(0:Int)<=n from h),aaS]))
 ·exact aC rfl (vv C.bool (by rw[dU,aaP (show¬(0:Int)<=n from h),aaV]))
theorem t85:Ro 85:=fun els n=>by
 refine af Try.func85 NN rfl fun a _=>?_;refine ah (fun h=>?_) (fun h=>?_)
 ·exact aC rfl (vv C.bool (by rw[dU,aaQ (show(0:Int)<=n from h),aaS]))
 ·exact aC rfl (vv C.bool (by rw[dU,aaP (show¬(0:Int)<=n from h),aaV]))
theorem t86:Ro 86:=fun els n=>by
 refine af Try.func86 NP rfl fun a _=>?_;refine ah (fun h=>?_) (fun h=>?_)
 ·exact aC rfl (vv C.bool (by rw[dU,aaQ (show(0:Int)<=n from h),aaS]))
 ·exact aC rfl (vv C.bool (by rw[dU,aaP (show¬(0:Int)<=n from h),aaV]))
theorem TD:Ro 103:=fun els n=>by
 refine af Try.func103 Kc rfl fun a _=>?_;refine ah (fun h=>?_) (fun h=>?_)
 ·exact aC rfl (vv C.bool (by rw[dU,aaQ (show(0:Int)<=n from h),aaS]))
 ·exact aC rfl (vv C.bool (by rw[dU,aaP (show¬(0:Int)<=n from h),aaV]))
theorem Wx:Ro 108:=fun els n=>by
 refine af Try.func108 Ki rfl fun a _=>?_;refine ah (fun h=>?_) (fun h=>?_)
 ·exact aC rfl (vv C.bool (by rw[dU,aaQ (show(0:Int)<=n from h),aaS]))
 ·exact aC rfl (vv C.bool (by rw[dU,aaP (show¬(0:Int)<=n from h),aaV]))
theorem Wy:Ro 111:=fun els n=>by
 refine af Try.func111 Kl rfl fun a _=>?_;refine ah (fun h=>?_) (fun h=>?_)
 ·exact aC rfl (vv C.bool (by rw[dU,aaQ (show(0:Int)<=n from h),aaS]))
 ·exact aC rfl (vv C.bool (by rw[dU,aaP (show¬(0:Int)<=n from h),aaV]))
theorem Wz:Ro 112:=fun els n=>by
 refine af Try.func112 Km rfl fun a _=>?_;refine ah (fun h=>?_) (fun h=>?_)
 ·exact aC rfl (vv C.bool (by rw[dU,aaQ (show(0:Int)<=n from h),aaS]))
 ·exact aC rfl (vv C.bool (by rw[dU,aaP (show¬(0:Int)<=n from h),aaV]))
theorem WA (t:Ty):CallsT P 104 [aR t] [] (aT [] (.bool (iI t))):=by
 have e:iI t=(decide (1<=t.kind)&&decide (t.kind<=5)):=rfl;refine af Try.func104 Ke rfl fun a _=>?_;refine ah (fun h=>?_) (fun h=>?_)
 ·exact aC rfl (vv C.bool (by rw[e,aaQ (show(1:Int)<=t.kind from h),aaS]))
 ·exact aC rfl (vv C.bool (by rw[e,aaP (show¬(1:Int)<=t.kind from h),aaV]))
theorem UB (n:Int):CallsT P 71 [IC n] [] (aT [] (aR (.mk 5 n []))):=by
 refine af Try.func71 NE rfl fun a _=>?_;exact aC rfl rfl
abbrev tX (x:Impl):C:=.agg (dF x)
abbrev qZ (p:Prog):C:=.agg (jT p)
theorem AP {l:List Impl}{z:Int}{x:Impl}{K:List C->Prop}(h0:0<=z) (a:l[z.toNat]?=some x) (h:K (dF x)):uE (l.map dF) z 8 K :=
 ⟨_,h0,by rw[aa5,a];rfl,rfl,h⟩
theorem AQ {l:List bH}{z:Int}{x:bH}{K:List C->Prop}(h0:0<=z) (a:l[z.toNat]?=some x) (h:K [IC x.param,IC x.trait]):uE (l.map bP) z 2 K :=
 ⟨_,h0,by rw[aa5,a];rfl,rfl,h⟩
theorem WB (a b:List Ty) (s:∀x∈a,∀y,pq 80 [aR x,aR y] (x=y)):pq 67 [.sl (a.map aG),.sl (b.map aG),.fn 80 [] []] (a=b):=by
 refine af Try.func67 wu rfl fun u _=>?_;have m:(a.map aG).length=a.length:=by simp
 have hb:(b.map aG).length=b.length:=by simp
 have v:a.length<=9223372036854775807:=by have:=iG u.1;rwa [m] at this
 refine aq (fun d=>?_) (fun d=>?_)
 ·have d:¬a.length=b.length:=fun e=>by
   rw[m,hb,e] at d;simp at d
  exact aC rfl (vv C.bool (gO (EW d)))
 have d:a.length=b.length:=by
  rw[m,hb] at d;simp at d;omega
 refine cA a.length 17 [] () (fun _=>[]) (fun _=>[]) (fun k _=>∀j<k,a[j]?=b[j]?) (fun j t=>o5 t (by omega)) (ak rfl) trivial trivial (fun _=>rfl) (fun _=>rfl) ?_;rintro k ⟨⟩ r f _ _ _;refine ah (fun c=>?_) (fun n=>?_)
 ·have c:k<a.length:=by rw[m] at c;omega
  refine fM c fun x q o=>?_;refine fM (l:=b) (k:=k) (by omega) fun y p _=>?_;refine cH q ?_;refine cH p ?_;refine bf (s x o y) rfl fun _=>?_;refine aq (fun h=>?_) (fun h=>?_)
  ·have h:¬x=y:=Kz (by simpa using h);exact aC rfl (vv C.bool (gO (EX q p h)))
  ·have h:x=y:=Aq (by simpa using h);refine Fit.aag (by omega) (by omega) ?_;exact⟨(k+1,()),⟨c,yq f q p h⟩,⟨bU,trivial⟩,trivial,bX c⟩
 ·have n:¬k<a.length:=by rw[m] at n;omega
  have r:k=a.length:=by omega
  exact aC rfl (vv C.bool (mL (tN rfl d.symm (r▸f))))
theorem XH:∀x y:Ty,pq 80 [aR x,aR y] (x=y):=fun x=>dJ (p:=fun x=>∀y,pq 80 [aR x,aR y] (x=y)) (fun x a y=>by
  have b:(x.args.map aG).length=x.args.length:=by simp
  refine af Try.func80 NJ rfl fun c _=>?_;refine ah (fun h0=>?_) (fun h0=>aC rfl (vv C.bool (gO fun e=>h0 (by rw[e]))));refine ah (fun h1=>?_) (fun h1=>aC rfl (vv C.bool (gO fun e=>h1 (by rw[e]))));refine bf (WB x.args y.args a) rfl fun _=>?_;exact aC rfl (vv C.bool (qM ⟨fun h=>Ar h0 h1 h,fun e=>by rw[e]⟩))) x
mutual
def fresh (n from':Int):Ty->Option Ty
 | .mk k i l=>if k<1\/5<k\/(k=5/\(i<0\/n<=i\/0<l.length)) then none else if k=5 then some (.mk 9 (from'+i) []) else match Cm n from' l with
  | some l'=>some (.mk k i l')
  | none=>none
def Cm (n from':Int):List Ty->Option (List Ty)
 | []=>some []
 | t::l=>match fresh n from' t,Cm n from' l with
  | some t',some l'=>some (t'::l')
  | _,_=>none
end
theorem yN (n f:Int):∀l:List Ty,Cm n f l=kV (fresh n f) l
 | []=>rfl
 | t::l=>by
  rw[Cm,yN n f l,kV];rfl
theorem mC (n f:Int) (t:Ty):fresh n f t=if t.kind<1\/5<t.kind\/(t.kind=5/\(t.id<0\/n<=t.id\/0<t.args.length)) then none else if t.kind=5 then some (.mk 9 (f+t.id) []) else match kV (fresh n f) t.args with
  | some a=>some (.mk t.kind t.id a)
  | none=>none:=by
 cases t;rw[fresh,yN];rfl
def LD:Option Ty->Ty×Bool
 | some r=>(r,true)
 | none=>(zT,false)
def mU (n f:Int) (t:Ty):Ty×Bool:=LD (fresh n f t)
abbrev Fl (n f:Int) (t:Ty) (r:Ty×Bool):Prop:=CallsT P 74 [aR t,IC n,IC f] [] (aT [] (.tup [aR r.1,.bool r.2]))
theorem WC (n f:Int) (t:Ty) (h:t.kind<1\/5<t.kind\/(t.kind=5/\(t.id<0\/n<=t.id\/0<t.args.length))):Fl n f t (zT,false):=by
 have d:(t.args.map aG).length=t.args.length:=v5 _;refine af Try.func74 BO rfl fun j _=>?_;refine ah (fun h1=>?_) (fun h1=>ah (fun a=>?_) (fun a=>ah (fun b=>ah (fun e=>?_) (fun e=>ah (fun c=>?_) (fun c=>?_))) (fun b=>?_)))
 ·refine ah (fun _=>aC rfl rfl) (fun q=>o5 h1 q)
 ·refine ah (fun _=>aC rfl rfl) (fun q=>o5 a q)
 ·exact aC rfl rfl
 ·exact aC rfl rfl
 ·refine ah (fun _=>aC rfl rfl) (fun k=>o5 h (by omega))
 ·exact o5 h (by omega)
theorem WD (n f:Int) (t:Ty) (m:0<=f/\f<=100) (o:n<=100) (h:¬(t.kind<1\/5<t.kind\/(t.kind=5/\(t.id<0\/n<=t.id\/0<t.args.length)))) (a:t.kind=5):Fl n f t (.mk 9 (f+t.id) [],true):=by
 have j:(t.args.map aG).length=t.args.length:=v5 _;refine af Try.func74 BO rfl fun l _=>?_;refine ah (fun h1=>o5 (Or.inl h1) h) (fun h1=>ah (fun b=>o5 (Or.inr (Or.inl b)) h) (fun b=>ah (fun c=>ah (fun d=>o5 (Or.inr (Or.inr ⟨a,Or.inl d⟩)) h) (fun d=>ah (fun e=>o5 (Or.inr (Or.inr ⟨a,Or.inr (Or.inl e)⟩)) h) (fun e=>?_))) (fun c=>o5 a c)));refine ah (fun k=>o5 (Or.inr (Or.inr ⟨a,Or.inr (Or.inr (by omega))⟩)) h) (fun k=>?_);refine ah (fun _=>?_) (fun q=>o5 a q);refine Fit.aag (by omega) (by omega) ?_;exact aC rfl rfl
theorem WE (n f:Int) (t:Ty) (g:Ty->Ty×Bool) (hb:t.args.length<=2 ^ 30) (h:¬(t.kind<1\/5<t.kind\/(t.kind=5/\(t.id<0\/n<=t.id\/0<t.args.length)))) (r:¬t.kind=5) (v:∀x∈t.args,Fl n f x (g x)) :
  Fl n f t (if t.args.all (fun x=>(g x).2) then(.mk t.kind t.id (t.args.map fun x=>(g x).1),true) else(zT,false)):=by
 have l:(t.args.map aG).length=t.args.length:=v5 _;refine af Try.func74 BO rfl fun hw _=>?_;refine ah (fun h1=>o5 (Or.inl h1) h) (fun h1=>ah (fun p=>o5 (Or.inr (Or.inl p)) h) (fun p=>ah (fun s=>o5 s r) (fun s=>?_)));refine ah (fun q=>o5 q r) (fun _=>?_);refine cA t.args.length 58 [] ([]:List Ty) (fun _=>[]) (fun s'=>[(6,.box 32 [IC 0,IC 0,.nils]),(8,.box 32 [IC t.kind,IC t.id,.rw 76]),(76,.row 32 3 (s'.map aG))]) (fun j s'=>s'=(t.args.take j).map (fun x=>(g x).1)/\(t.args.drop j).all (fun x=>(g x).2)=t.args.all (fun x=>(g x).2)) ⟨by simp,rfl⟩ (ak rfl) trivial
  ⟨.inl ⟨_,rfl,.inl ⟨rfl,rfl⟩⟩,.inl ⟨_,rfl,.inr ⟨32,_,_,rfl,rfl,_,_,rfl,ak rfl,_,_,rfl,ak rfl,_,_,rfl,rZ rfl rfl,rfl⟩⟩,.inr ⟨rfl,32,3,rfl⟩,trivial⟩ (fun _=>rfl) (fun _=>rfl) ?_
 rintro j s' hj ⟨a,b⟩ _ _ _;have a:s'=(t.args.take j).map (fun x=>(g x).1):=a;have w:(s'.map aG).length=j:=by rw[a,v5,v5,abL];omega
 refine ah (fun c=>?_) (fun m=>?_)
 ·have c:j<t.args.length:=by rw[l] at c;omega
  refine aW c fun x u o k=>?_;refine cH u ?_;refine bf (v x o) rfl fun _=>?_;refine aq (fun d=>?_) (fun d=>?_)
  ·have e:t.args.all (fun x=>(g x).2)=false:=by
    rw[<-b,k,abd,show(g x).2=false by simpa using d,aaV]
   exact aC rfl (by rw[e];rfl)
  ·have d:(g x).2=true:=by simpa using d
   refine rB j rfl w (by decide) (by omega) ?_;refine Fit.aag (by omega) (by omega) ?_;refine⟨(j+1,s'++[(g x).1]),⟨c,?_,?_⟩,⟨bU,trivial⟩,⟨.inl ⟨_,rfl,.inl ⟨rfl,rfl⟩⟩,.inl ⟨_,rfl,.inl ⟨rfl,rfl⟩⟩,.inl ⟨_,rfl,.inl ⟨DE HX,rfl⟩⟩,trivial⟩,bX c⟩
   ·show s'++[(g x).1]=(t.args.take (j+1)).map _;rw[jo u,a,abA];rfl
   ·have:=b;rw[k,abd,d,aaS] at this;exact this
 ·have m:¬j<t.args.length:=by rw[l] at m;omega
  have e:t.args.all (fun x=>(g x).2)=true:=by rw[<-b,List.drop_of_length_le (by omega),List.all_nil]
  have y:C.agg [IC t.kind,IC t.id,.sl (s'.map aG)]=aR (.mk t.kind t.id (t.args.map fun x=>(g x).1)):=by
   rw[a,abF (by omega)];rfl
  refine HE [76] [] ⟨_,[],rfl,rfl,rfl,rfl,?_⟩;rw[e];exact vv (fun z=>C.tup [z,.bool true]) y
theorem K7 {f:Ty->Option Ty}:∀l:List Ty,kV f l=if l.all (fun x=>(LD (f x)).2) then some (l.map fun x=>(LD (f x)).1) else none
 | []=>rfl
 | x::l=>by
  rw[kV,K7 l,abd,aaW];cases f x with
  | none=>rfl
  | some r =>
   rw[show(LD (some r)).2=true from rfl,show(LD (some r)).1=r from rfl,aaS]
   by_cases a:(l.all fun x=>(LD (f x)).2)=true
   ·rw[fo a,fo a]
   ·rw[fL a,fL a]
theorem XI (n f:Int) (j:0<=f/\f<=100) (k:n<=100):∀t:Ty,iN t->Fl n f t (mU n f t):=dJ fun t d hb=>by
 have hb:=(fZ t).1 hb
 by_cases h:t.kind<1\/5<t.kind\/(t.kind=5/\(t.id<0\/n<=t.id\/0<t.args.length))
 ·have:=WC n f t h;rw[mU,mC,fo h];exact this
 by_cases b:t.kind=5
 ·have:=WD n f t j k h b;rw[mU,mC,fL h,fo b];exact this
 ·have:=WE n f t (mU n f) hb.1 h b fun x c=>d x c (hb.2 x c);have e:fresh n f t=if t.args.all (fun x=>(mU n f x).2) then some (.mk t.kind t.id (t.args.map fun x=>(mU n f x).1)) else none:=by
   rw[mC,fL h,fL b,K7]
   by_cases a:(t.args.all fun x=>(LD (fresh n f x)).2)=true
   ·rw[fo a];exact(fo a).symm
   ·rw[fL a];exact(fL a).symm
  rw[mU,e]
  by_cases a:(t.args.all fun x=>(mU n f x).2)=true
  ·rw[fo a] at this ⊢;exact this
  ·rw[fL a] at this ⊢;exact this
def Cn (s:List Ty) (a b:Ty):Prop:=∃n s',KU n s a b s'
theorem UR.ok {n:Nat}{s:List Ty}{a b:Ty}{r:List Ty}{e:Int}(t:UR n s a b r e):e=0↔Cn s a b:=by
 constructor
 ·rintro rfl;rcases t with⟨s',g,_⟩ | ⟨g,_⟩
  ·exact⟨n,s',g⟩
  ·have:=g.three;omega
 ·rintro⟨m,s',g⟩;rcases t with⟨_,_,_,h⟩ | ⟨q,_⟩
  ·exact h
  ·obtain⟨⟨d,o,h1⟩,y,u,d1,o1,k,d2,o2,v,w,hk⟩:=g;exfalso;rcases q with⟨q,_⟩ | ⟨_,⟨q,_⟩ | ⟨_,⟨q,_⟩ | ⟨aa,q,_,f⟩⟩⟩
   ·have:=iC h1 q;cases this
   ·rw[y] at q;cases q
   ·have:=kD u q;cases this
   ·have p:=kD u q;injection p with p
    subst p;rcases f with f | ⟨d',o',f,j⟩
    ·have:=iC v f;cases this
    ·have c:=iC v f;injection c with c
     injection c with c e3
     subst c e3;rcases j with j | ⟨k',z,x,j,q4⟩
     ·have:=tW w j;cases this
     ·have l:=tW w j;injection l with l
      injection l with l
      omega
def GI (a b:Impl):Prop:=a.trait=b.trait/\0<=a.params/\0<=b.params/\a.params<=4/\b.params<=4/\∃x y,fresh a.params 0 a.type=some x/\fresh b.params a.params b.type=some y/\Cn (zeros (a.params+b.params).toNat) x y
theorem wB {n f:Int}:∀t r:Ty,fresh n f t=some r->iN t->iN r/\cn r=cn t:=dJ (p:=fun t=>∀r,fresh n f t=some r->iN t->iN r/\cn r=cn t) fun t e r h hb=>by
 rw[mC] at h;split at h
 ·cases h
 ·rename_i m;split at h
  ·rename_i o;injection h with h
   subst h;have k:t.args=[]:=abE (by omega);exact⟨(fZ _).2 ⟨aa9 _,fun x h=>by cases h⟩,by rw[cK t,k];rfl⟩
  ·cases d:kV (fresh n f) t.args with
   | none=>rw[d] at h;cases h
   | some l =>
    rw[d] at h;injection h with h
    subst h;obtain⟨h1,j⟩:=jq d;have hb:=(fZ t).1 hb;have key:∀x∈t.args,iN ((fresh n f x).getD x)/\cn ((fresh n f x).getD x)=cn x:=fun x a=>e x a _ (h1 x a) (hb.2 x a);refine⟨(fZ _).2 ⟨by show l.length<=_;rw[j,v5];exact hb.1,fun y b=>?_⟩,?_⟩
    ·have b:y∈l:=b;rw[j] at b;obtain⟨x,a,rfl⟩:=abq.1 b;exact(key x a).1
    ·rw[cK,cK t];show ct l+1=_;have:∀c:List Ty,(∀x∈c,cn ((fresh n f x).getD x)=cn x)->ct (c.map fun x=>(fresh n f x).getD x)=ct c:=by
      intro c
      induction c with
      | nil=>exact fun _=>rfl
      | cons x c e=>intro d;rw[aaW,ct,ct,d x (by simp),e fun y b=>d y (by simp[b])]
     rw[j,this t.args fun x a=>(key x a).2]
abbrev Fm (f:Nat) (a b:Impl):Prop:=CallsT P f [tX a,tX b] [] (aT [] (.bool (rY (GI a b))))
theorem TF (a b:Impl) (h:¬(a.trait=b.trait/\0<=a.params/\0<=b.params/\a.params<=4/\b.params<=4)):Fm 32 a b:=by
 have j:¬GI a b:=fun q=>h ⟨q.1,q.2.1,q.2.2.1,q.2.2.2.1,q.2.2.2.2.1⟩;have e:=gO j;refine af Try.func32 Ge rfl fun c _=>?_;refine aS (fun _=>?_) (fun h1=>?_)
 ·exact aC rfl (vv C.bool e)
 refine⟨Q7 (by exact c.1.2.2.1) (by exact c.2.1.2.2.1),?_⟩;refine ah (fun _=>?_) (fun d=>?_)
 ·exact aC rfl (vv C.bool e)
 refine⟨E4 (by exact c.1.2.2.1) (by exact c.2.1.2.2.1),?_⟩;refine ah (fun _=>?_) (fun f=>?_)
 ·exact aC rfl (vv C.bool e)
 have d:¬(if b.params<a.params then b.params else a.params)<0:=d;have f:¬(if b.params>a.params then b.params else a.params)>4:=f;exact o5 ⟨h1,by split at d<;>split at f<;>omega⟩ h
section
variable {L:TL}{ρ:aK}
theorem OA (l:Nat) {t sz:Nat}{els:List (List C)}{n:Nat}{s:List Ty}{a b:Ty}{args f:List C}{K:TL->aK->C->Prop}{d:Option Nat}(h:CallsT P 23 f [] (RN n s a b)) (q:C2 P 23) (w:L.get l=some (.row t sz els)) (m:(args.map fun c=>(c.frz l els).aaj.ren (bh [] 1000))=f)
  (k:∀r e,UR n s a b r e->Wf (.tup [.sl (r.map aG),IC e])->K ((L.aad (C.kill l)).set l (.row t sz [])) (fun j=>(ρ j).kill l) (C.tup [.sl (r.map aG),IC e])):uF P 23 args L ρ d K:=by
 subst m;exact .row _ l t sz els q w h fun v Mo ⟨u,r,e,o,x⟩ p=>by subst u x;exact⟨rfl,k r e o p⟩
end
theorem TG:C2 P 23:=⟨Try.f23,Try.func23,by kernel_rfl,by kernel_rfl⟩
theorem PY (a b:Impl) (h:a.trait=b.trait/\0<=a.params/\0<=b.params/\a.params<=4/\b.params<=4) (x y:Ty×Bool) (h1:Fl a.params 0 a.type x) (k:Fl b.params a.params b.type y) (m:Nat) (u:(m:Int)=a.params+b.params) (v:Bool)
  (t:x.2=false->v=false) (l:y.2=false->v=false) (n:Nat) (c:x.2=true->y.2=true->CallsT P 23 [.sl (List.replicate m [IC 0,IC 0,.sl []]),aR x.1,aR y.1] [] (RN n (zeros m) x.1 y.1)/\∀r e,UR n (zeros m) x.1 y.1 r e->decide (e=0)=v):CallsT P 32 [tX a,tX b] [] (aT [] (.bool v)):=by
 obtain⟨x,s⟩:=x;obtain⟨y,o⟩:=y;generalize j:UR=U at c;refine af Try.func32 Ge rfl fun d _=>?_;refine aS (fun q=>o5 h.1 q) (fun _=>?_);refine⟨Q7 (by exact d.1.2.2.1) (by exact d.2.1.2.2.1),?_⟩;refine ah (fun q=>?_) (fun _=>?_)
 ·have q:(if b.params<a.params then b.params else a.params)<0:=q;exact o5 q (by split<;>omega)
 refine⟨E4 (by exact d.1.2.2.1) (by exact d.2.1.2.2.1),?_⟩;refine ah (fun q=>?_) (fun _=>?_)
 ·have q:(if b.params>a.params then b.params else a.params)>4:=q;exact o5 q (by split<;>omega)
 refine bf h1 rfl fun _=>?_;refine bf k rfl fun _=>?_;refine aq (fun q=>?_) (fun q=>?_)
 ·exact aC rfl (vv C.bool (t (by simpa using q)).symm)
 refine aq (fun f=>?_) (fun f=>?_)
 ·exact aC rfl (vv C.bool (l (by simpa using f)).symm)
 have c:=c (by simpa using q) (by simpa using f);refine Az (m:=(m:Int)) (by rw[IntKind.wrap_i64];omega) ?_;refine mP.mk (by omega) (abg _) (by omega) (by simp only[maxLen];omega) ?_;subst j;refine OA 62 c.1 TG rfl rfl fun r e p _=>?_;exact aC rfl (vv C.bool (c.2 r e p))
theorem t32 (a b:Impl) (m:iN a.type) (hb:iN b.type) (ag:cn a.type<=2 ^ 40) (am:cn b.type<=2 ^ 40):Fm 32 a b:=by
 by_cases h:a.trait=b.trait/\0<=a.params/\0<=b.params/\a.params<=4/\b.params<=4
 ·have h1:=XI a.params 0 (by omega) (by omega) a.type m;have u:=XI b.params a.params (by omega) (by omega) b.type hb;have v:∀{o:Option Ty},(LD o).2=true->o=some (LD o).1:=fun{o} h=>by cases o with | none=>cases h | some r=>rfl
  have t:∀{o:Option Ty}{r:Ty},o=some r->(LD o).2=true:=fun{o} {r} h=>by rw[h];rfl
  by_cases c:(mU a.params 0 a.type).2=true/\(mU b.params a.params b.type).2=true
  ·have ex:=v c.1;have k:=v c.2;obtain⟨j,w⟩:=wB a.type _ ex m;obtain⟨l,ab⟩:=wB b.type _ k hb;have hl:(zeros (a.params+b.params).toNat).length=(a.params+b.params).toNat:=by rw[zeros,abe]
   obtain⟨n,p,_⟩:=Ff (s:=zeros (a.params+b.params).toNat) (by rw[hl];omega) (fun x c=>by rw[(abO.1 c).2];exact(fZ _).2 ⟨aa9 _,fun x h=>by cases h⟩) j l (by omega) (by omega);have z:(zeros (a.params+b.params).toNat).map aG=List.replicate (a.params+b.params).toNat [IC 0,IC 0,.sl []]:=by rw[zeros,abW];rfl
   rw[z] at p;refine PY a b h _ _ h1 u (a.params+b.params).toNat (by omega) _ (fun q=>by rw[c.1] at q;cases q) (fun q=>by rw[c.2] at q;cases q) n fun _ _=>⟨p,fun r e hr=>Ob (hr.ok.trans ?_)⟩;constructor
   ·exact fun q=>⟨h.1,h.2.1,h.2.2.1,h.2.2.2.1,h.2.2.2.2,_,_,ex,k,q⟩
   ·rintro⟨_,_,_,_,_,x,y,d,f,q⟩;rw[ex] at d;rw[k] at f;injection d with d
    injection f with f
    subst d f;exact q
  ·have hv:¬GI a b:=fun⟨_,_,_,_,_,x,y,d,f,_⟩=>c ⟨t d,t f⟩;have e:=gO hv;refine PY a b h _ _ h1 u (a.params+b.params).toNat (by omega) _ (fun _=>e.symm) (fun _=>e.symm) 0 fun q1 q2=>o5 ⟨q1,q2⟩ c
 ·exact TF a b h
mutual
def qm (q:Int->Bool):Ty->Bool
 | .mk k i l=>if k=9 then q i else GJ q l
def GJ (q:Int->Bool):List Ty->Bool
 | []=>true
 | t::l=>qm q t&&GJ q l
end
theorem AR (q:Int->Bool):∀l:List Ty,GJ q l=l.all (qm q)
 | []=>rfl
 | t::l=>by rw[GJ,AR q l];rfl
theorem iD (q:Int->Bool) (t:Ty):qm q t=if t.kind=9 then q t.id else t.args.all (qm q):=by
 cases t;rw[qm,AR];rfl
theorem tY {q q':Int->Bool}{n:Int}(h:∀w,0<=w->w<n->q w=true->q' w=true):∀t:Ty,ins n t=true->qm q t=true->qm q' t=true:=dJ fun t j f c=>by
 rw[iD] at c ⊢
 by_cases e:t.kind=9
 ·rw[fo e] at c ⊢;obtain⟨a,b,_⟩:=oN f e;exact h _ a b c
 ·rw[fL e,aaY] at c ⊢;exact fun x d=>j x d (eP f x d) (c x d)
def kn (s:List Ty):Nat->Int->Bool
 | 0,_=>false
 | j+1,v=>match s[v.toNat]? with
  | none=>true
  | some x=>decide (x.kind=0)||qm (kn s j) x
theorem yO {s:List Ty}(c:Eg s):∀(j:Nat) (v:Int),kn s j v=true->kn s (j+1) v=true
 | 0,v,h=>by cases h
 | j+1,v,h=>by
  rw[kn] at h ⊢;cases b:s[v.toNat]? with
  | none=>rfl
  | some x =>
   rw[b] at h;simp only at h ⊢
   by_cases a:x.kind=0
   ·rw[aaQ a];rfl
   ·rw[aaP a,Bool.false_or] at h ⊢;exact tY (fun w _ _=>yO c j w) x ((c x (aaX b)).resolve_left a) h
theorem OB {s:List Ty}(p:Eg s) {j:Nat}{t:Ty}(h:jP s t):ins s.length t=true->qm (kn s j) t=false->∃i:Nat,i<s.length/\kn s j i=false/\kn s (j+1) i=true:=by
 induction h with
 | @step t x b c l _ f =>
  intro k a;obtain⟨q,d,m⟩:=bG c
  by_cases n:qm (kn s j) x=true
  ·rw[iD,fo b] at a;have e:((t.id.toNat:Nat):Int)=t.id:=by omega
   refine⟨t.id.toNat,m,by rw[e];exact a,?_⟩;rw[kn,e,d];simp only;rw[n,Bool.or_true]
  ·exact f (p.elem c l) (by simpa using n)
 | @stop t x b c l _ _ =>
  intro k a;obtain⟨q,d,m⟩:=bG c;rw[iD,fo b] at a;have e:((t.id.toNat:Nat):Int)=t.id:=by omega
  refine⟨t.id.toNat,m,by rw[e];exact a,?_⟩;rw[kn,e,d];simp only;rw[aaQ l,Bool.true_or]
 | @arg t b _ f =>
  intro k a;rw[iD,fL b,List.all_eq_false] at a;obtain⟨y,o,a⟩:=a;exact f y o (eP k y o) (by simpa using a)
def q9 (q:Nat->Bool):Nat->Nat
 | 0=>0
 | n+1=>(if q n=true then 1 else 0)+q9 q n
theorem GK (q:Nat->Bool):∀n,q9 q n<=n
 | 0=>aa0 _
 | n+1=>by have:=GK q n;rw[q9];split<;>omega
theorem AU {q q':Nat->Bool}(h:∀i,q i=true->q' i=true):∀n,q9 q n<=q9 q' n
 | 0=>aa0 _
 | n+1=>by
  have:=AU h n;rw[q9,q9]
  by_cases a:q n=true
  ·rw[fo a,fo (h n a)];omega
  ·rw[fL a];split<;>omega
theorem GL {q q':Nat->Bool}(h:∀i,q i=true->q' i=true) {i:Nat}(h1:q i=false) (b:q' i=true):∀n,i<n->q9 q n<q9 q' n
 | 0,hi=>o5 hi (aby _)
 | n+1,hi=>by
  rw[q9,q9]
  by_cases e:i=n
  ·subst e;have:=AU h i;rw[fL (by rw[h1];exact aa8),fo b];omega
  ·have:=GL h h1 b n (by omega)
   by_cases a:q n=true
   ·rw[fo a,fo (h n a)];omega
   ·rw[fL a];split<;>omega
theorem AV {q:Nat->Bool}:∀{n},n<=q9 q n->∀i<n,q i=true
 | 0,_,i,hi=>o5 hi (aby _)
 | n+1,h,i,hi=>by
  rw[q9] at h;have:=GK q n
  by_cases a:q n=true
  ·rw[fo a] at h
   by_cases e:i=n
   ·rw[e];exact a
   ·exact AV (n:=n) (q:=q) (by omega) i (by omega)
  ·rw[fL a] at h;omega
theorem Good.kn {s:List Ty}(g:Good s):∀i:Nat,i<s.length->Try.kn s s.length i=true:=by
 have h:∀j,j<=s.length->j<=q9 (fun i=>Try.kn s j i) s.length:=by
  intro j
  induction j with
  | zero=>exact fun _=>aa9 _
  | succ j e =>
   intro k;have e:=e (by omega)
   by_cases a:∀i:Nat,i<s.length->Try.kn s j i=true
   ·have:∀n,n<=s.length->n<=q9 (fun i=>Try.kn s (j+1) i) n:=by
     intro n
     induction n with
     | zero=>exact fun _=>aa9 _
     | succ n d =>
      intro o;have:=d (by omega);rw[q9,fo (yO g.ins j n (a n (by omega)))];omega
    exact abz k (this s.length (aa0 _))
   ·have:∃i:Nat,i<s.length/\Try.kn s j i=false:=by
     refine Classical.byContradiction fun c=>a fun i hi=>?_;cases b:Try.kn s j i with
     | true=>rfl
     | false=>exact o5 ⟨i,hi,b⟩ c
    obtain⟨i,hi,b⟩:=this;obtain⟨f,h1,l,m⟩:=OB g.ins (j:=j) (g.fin i hi) (sw hi) (by rw[iD,fo (show(vr i).kind=9 from rfl)];exact b);have:=GL (q:=fun i=>Try.kn s j i) (q':=fun i=>Try.kn s (j+1) i) (fun i=>yO g.ins j i) (i:=f) l m s.length h1;omega
 exact AV (h s.length (aa0 _))
theorem K8 {p:Nat->Prop}:∀n,p n->∃m,m<=n/\p m/\∀k<m,¬p k
 | 0,h=>⟨0,aa0 _,h,fun k a=>o5 a (aby _)⟩
 | n+1,h=>by
  by_cases d:∃k,k<=n/\p k
  ·obtain⟨k,a,h⟩:=d;have l:∀k,k<=n->p k->∃m,m<=k/\p m/\∀j<m,¬p j:=by
    intro k
    induction k using Nat.strongRecOn with
    | _ k f =>
     intro a h
     by_cases e:∃j,j<k/\p j
     ·obtain⟨j,c,b⟩:=e;obtain⟨m,m1,m2,m3⟩:=f j c (by omega) b;exact⟨m,by omega,m2,m3⟩
     ·exact⟨k,aa0 _,h,fun j c b=>e ⟨j,c,b⟩⟩
   obtain⟨m,m1,m2,m3⟩:=l k a h;exact⟨m,by omega,m2,m3⟩
  ·exact⟨n+1,aa0 _,h,fun k a b=>d ⟨k,by omega,b⟩⟩
structure Rk (s:List Ty) (ρ:Int->Nat):Prop where
 lt:∀i:Nat,i<s.length->ρ i<s.length
 dn:∀(i:Nat) (x:Ty),s[i]?=some x->¬x.kind=0->qm (fun w=>decide (ρ w<ρ i)) x=true
theorem Good.aaH {s:List Ty}(g:Good s):∃ρ,Rk s ρ:=by
 have h:∀v:Int,∃m,(0<=v->v<s.length->m<s.length/\Try.kn s (m+1) v=true/\∀k<m,Try.kn s (k+1) v=false):=by
  intro v
  by_cases o:0<=v/\v<s.length
  ·have h1:=g.kn v.toNat (by omega);rw[show((v.toNat:Nat):Int)=v by omega] at h1;obtain⟨m,m1,m2,m3⟩:=K8 (p:=fun m=>Try.kn s (m+1) v=true) (s.length-1) (by rw[show s.length-1+1=s.length by omega];exact h1);exact⟨m,fun _ _=>⟨by omega,m2,fun k d=>by simpa using m3 k d⟩⟩
  ·exact⟨0,fun a b=>o5 ⟨a,b⟩ o⟩
 refine⟨fun v=>(h v).choose,⟨fun i hi=>((h i).choose_spec (by omega) (by omega)).1,fun i x l d=>?_⟩⟩;have hi:i<s.length:=(aaR.1 l).1;obtain⟨a,b,c⟩:=(h i).choose_spec (by omega) (by omega);have f:=(g.ins x (aaX l)).resolve_left d;show qm (fun w=>decide ((h w).choose<(h i).choose)) x=true;generalize q:(h (i:Int)).choose=m at a b c ⊢;rw[Try.kn,show((i:Nat):Int).toNat=i by omega,l] at b;simp only at b;rw[aaP d,Bool.false_or] at b;refine tY (fun w h0 h1 e=>?_) x f b;obtain⟨a',r,n⟩:=(h w).choose_spec h0 h1;cases m with
 | zero=>cases e
 | succ m =>
  rw[aaZ];have:=fun(k:Nat) (d:k<(h w).choose)=>n k d
  by_cases j:m<(h w).choose
  ·rw[n m j] at e;cases e
  ·omega
theorem Rq {u:List Ty}{B:Nat}(e:∀x∈u,cn x<=B):∀t:Ty,cn (gs u t)<=cn t+B:=dJ fun t c=>by
 by_cases b:t.kind=9
 ·rw[mB b];cases a:u[t.id.toNat]? with
  | none=>show cn (.mk 0 0 [])<=_;rw[show cn (.mk 0 0 [])=1 from rfl];have:=cK t;omega
  | some x=>have:=e x (aaX a);show cn x<=_;omega
 ·rw[je b,cK,cK t];have:ct (t.args.map (gs u))<=ct t.args+B:=tO fun y d=>by
   obtain⟨x,a,rfl⟩:=abq.1 d;have:=c x a;have:=jI a;omega
  show ct (t.args.map (gs u))+1<=_;omega
def PZ (u:List Ty) (ex:Prop) (d:DM):Prop:=∀j k,bM d j=some k->1<=k/\k<=cn (gs u (.mk 9 j []))/\(ex->k=cn (gs u (.mk 9 j [])))
def K9 (d:DM) (o:OM) (j:Int):Prop:=bM o j=some true/\bM d j=none
theorem OC {n:Nat}(h:n<=2 ^ 50):yZ ((n:Int)+1)=((n+1:Nat):Int):=by
 unfold yZ;rw[IntKind.wrap_i64];omega
theorem tZ {u s:List Ty}{ρ:Int->Nat}{ex:Prop}(hS:Sat u s) (hs:Eg s) (hR:Rk s ρ) (hu:∀x∈u,cn x<=2 ^ 30) (an:ex->∀(t:Ty) (x:Ty),t.kind=9->bQ s t=some x->x.kind=0->cn (gs u t)=1) :
  ∀(n:Nat) (t:Ty) (d:DM) (o:OM) r,ins s.length t=true->cn t<=2 ^ 30->(∀x∈s,cn x<=2 ^ 30)->PZ u ex d->(∀j,K9 d o j->qm (fun w=>decide (ρ w<ρ j)) t=true)->bw s n t d o=some r ->
   ∃k z o',r=some (k,z,o')/\1<=k/\k<=cn (gs u t)/\(ex->k=cn (gs u t))/\PZ u ex z/\∀j,K9 z o' j->K9 d o j
 | 0,t,d,o,r,_,_,_,_,_,h=>by cases h
 | n+1,t,d,o,r,ht,cm,al,hd,ho,h=>by
  have hL:∀(l:List Ty) (k:Int) (d:DM) (o:OM) r,(∀x∈l,ins s.length x=true/\cn x<=2 ^ 30/\∀j,K9 d o j->qm (fun w=>decide (ρ w<ρ j)) x=true)->PZ u ex d->dX (bw s n) l k d o=some r ->
    ∃k' z o',r=some (k',z,o')/\(∀m:Nat,k<=m->k'<=(max m (ct (l.map (gs u))):Nat))/\k<=k'/\(ex->∀m:Nat,k=m->k'=(max m (ct (l.map (gs u))):Nat))/\PZ u ex z/\∀j,K9 z o' j->K9 d o j:=by
   intro l
   induction l with
   | nil =>
    intro k d o r _ hd h;rw[dX] at h;injection h with h
    refine⟨k,d,o,h.symm,fun m hm=>?_,abg _,fun _ m hm=>?_,hd,fun j h=>h⟩
    ·rw[abv,ct];omega
    ·rw[abv,ct];omega
   | cons x l ih =>
    intro k d o r hl hd h;rw[dX] at h;obtain⟨bj,bk,bo⟩:=hl x (by simp);cases hx:bw s n x d o with
    | none=>rw[hx] at h;cases h
    | some r1 =>
     rw[hx] at h;obtain⟨k1,d1,o1,rfl,c1,c2,c3,c4,c5⟩:=tZ hS hs hR hu an n x d o r1 bj bk al hd bo hx;simp only at h;obtain⟨k2,d2,o2,rfl,e1,e2,e3,e4,e5⟩:=ih _ d1 o1 r (fun y hy=>⟨(hl y (by simp[hy])).1,(hl y (by simp[hy])).2.1,fun j c=>(hl y (by simp[hy])).2.2 j (c5 j c)⟩) c4 h;refine⟨k2,d2,o2,rfl,fun m hm=>?_,?_,fun hx m hm=>?_,e4,fun j c=>c5 j (e5 j c)⟩
     ·have:=e1 (max m (cn (gs u x))) (by split<;>omega);rw[aaW,ct];omega
     ·have:k<=if k1>k then k1 else k:=by split<;>omega
      omega
     ·have:=e3 hx (max m (cn (gs u x))) (by have:=c3 hx;split<;>omega);rw[aaW,ct];omega
  rw[bw] at h;cases v:(if t.kind=9 then bQ s t else some (.mk 0 0 [])) with
  | none=>simp only[v] at h;cases h
  | some x =>
   simp only[v] at h
   by_cases hk:x.kind=0
   ·rw[fL (fun p=>p hk)] at h;cases hl:dX (bw s n) t.args 0 d o with
    | none=>simp only[hl] at h;cases h
    | some r1 =>
     simp only[hl] at h
     by_cases f:t.kind=9
     ·have ha:=(oN ht f).2.2;rw[ha,dX] at hl;injection hl with hl
      subst hl;simp only at h;injection h with h
      rw[fo f] at v;have hg:1<=cn (gs u t):=by rw[cK];omega
      refine⟨_,d,o,h.symm,?_,?_,fun hx=>?_,hd,fun j h=>h⟩
      ·rw[show yZ (0+1)=1 from rfl];omega
      ·rw[show yZ (0+1)=1 from rfl];omega
      ·rw[show yZ (0+1)=1 from rfl,an hx t x f v hk];rfl
     ·obtain⟨k1,d1,o1,rfl,c1,c2,c3,c4,c5⟩:=hL t.args 0 d o r1 (fun y hy=>⟨eP ht y hy,by have:=jI hy;have:=cK t;omega,fun j c=>by
       have:=ho j c;rw[iD,fL f,aaY] at this;exact this y hy⟩) hd hl
      simp only at h;injection h with h
      have hg:=Rq hu t;have c1:=c1 0 (by omega);have hq:cn (gs u t)=ct (t.args.map (gs u))+1:=by rw[je f,cK];rfl
      have bl:k1=(k1.toNat:Int):=by omega
      have hw:yZ (k1+1)=k1+1:=by rw[bl,OC (by omega)];omega
      refine⟨_,d1,o1,h.symm,by omega,by omega,fun hx=>?_,c4,c5⟩;have:=c3 hx 0 rfl;omega
   ·rw[fo hk] at h;have f:t.kind=9:=by
     by_cases f:t.kind=9
     ·exact f
     ·rw[fL f] at v;injection v with v
      exact o5 (by rw[<-v];rfl) hk
    rw[fo f] at v;obtain⟨e1,e2,e3⟩:=bG v;have bt:gs u x=gs u t:=hS.elem f v hk;have bb:gs u (.mk 9 t.id [])=gs u t:=lG rfl f rfl;cases hm:bM d t.id with
    | some k =>
     rw[hm] at h;simp only at h;injection h with h
     have:=hd _ _ hm;rw[bb] at this;exact⟨k,d,o,h.symm,this.1,this.2.1,this.2.2,hd,fun j h=>h⟩
    | none =>
     rw[hm] at h;simp only at h;have bi:¬bM o t.id=some true:=fun q=>by
      have:=ho t.id ⟨q,hm⟩;rw[iD,fo f,aaZ] at this;omega
     have ao:=hR.dn t.id.toNat x e2 hk;rw[show((t.id.toNat:Nat):Int)=t.id by omega] at ao;have key:∀r1,bw s n x d (eD o t.id true)=some r1->∃k z o',r1=some (k,z,o')/\1<=k/\k<=cn (gs u t)/\(ex->k=cn (gs u t))/\PZ u ex (eD z t.id k)/\∀j,K9 (eD z t.id k) o' j->K9 d o j:=by
      intro r1 a;obtain⟨k1,d1,o1,rfl,c1,c2,c3,c4,c5⟩:=tZ hS hs hR hu an n x d (eD o t.id true) r1 (hs.elem v hk) (al x (qk v)) al hd (fun j c=>by
       obtain⟨q1,q2⟩:=c;rw[kP] at q1
       by_cases e:j=t.id
       ·rw[e];exact ao
       ·rw[fL e] at q1;have:=ho j ⟨q1,q2⟩;rw[iD,fo f,aaZ] at this;exact tY (n:=s.length) (fun w _ _ hw=>by rw[aaZ] at hw ⊢;omega) x (hs.elem v hk) ao) a
      rw[bt] at c2 c3;refine⟨k1,d1,o1,rfl,c1,c2,c3,fun j k c=>?_,fun j c=>?_⟩
      ·rw[kP] at c
       by_cases e:j=t.id
       ·rw[fo e] at c;injection c with c
        rw[e,bb,<-c];exact⟨c1,c2,c3⟩
       ·rw[fL e] at c;exact c4 j k c
      ·obtain⟨q1,q2⟩:=c;rw[kP] at q2
       by_cases e:j=t.id
       ·rw[fo e] at q2;cases q2
       ·rw[fL e] at q2;obtain⟨q3,q4⟩:=c5 j ⟨q1,q2⟩;rw[kP,fL e] at q3;exact⟨q3,q4⟩
     cases av:bM o t.id with
     | none =>
      rw[av] at h;simp only at h;cases a:bw s n x d (eD o t.id true) with
      | none=>rw[a] at h;cases h
      | some r1 =>
       rw[a] at h;obtain⟨k,z,o',rfl,q⟩:=key r1 a;simp only at h;injection h with h
       exact⟨_,_,_,h.symm,q⟩
     | some b =>
      rw[av] at h;cases b with
      | true=>exact o5 av bi
      | false =>
       simp only at h;cases a:bw s n x d (eD o t.id true) with
       | none=>rw[a] at h;cases h
       | some r1 =>
        rw[a] at h;obtain⟨k,z,o',rfl,q⟩:=key r1 a;simp only at h;injection h with h
        exact⟨_,_,_,h.symm,q⟩
theorem t9 {u s:List Ty}{ρ:Int->Nat}{ex:Prop}(hS:Sat u s) (v:Eg s) (w:Rk s ρ) (p:∀x∈u,cn x<=2 ^ 30) (f:ex->∀(t:Ty) (x:Ty),t.kind=9->bQ s t=some x->x.kind=0->cn (gs u t)=1) (c:∀x∈s,cn x<=2 ^ 30) (n:Nat) :
  ∀(i:Nat) r,i<=s.length->dw s n i=some r->∃b d o,r=some (b,d,o)/\((∀j:Nat,j<i->cn (gs u (vr j))<=8)->b=false)/\(ex->b=false->∀j:Nat,j<i->cn (gs u (vr j))<=8)/\PZ u ex d/\∀j,¬K9 d o j
 | 0,r,_,h=>by
  rw[dw] at h;injection h with h
  exact⟨false,[],[],h.symm,fun _=>rfl,fun _ _ j a=>o5 a (aby _),fun j k e=>(by cases e),fun j q=>by have:=q.1;cases this⟩
 | i+1,r,hi,h=>by
  rw[dw] at h;cases m:dw s n i with
  | none=>rw[m] at h;cases h
  | some r1 =>
   rw[m] at h;obtain⟨b,d,o,rfl,c1,c2,c3,c4⟩:=t9 hS v w p f c n i r1 (by omega) m;simp only at h;cases l:bw s n (vr i) d o with
   | none=>rw[l] at h;cases h
   | some r2 =>
    rw[l] at h;obtain⟨k,d',o',rfl,e1,e2,e3,z,e5⟩:=tZ hS v w p f n (vr i) d o r2 (sw (by omega)) (by rw[show cn (vr i)=1 from rfl];omega) c c3 (fun j a=>o5 a (c4 j)) l;simp only at h;injection h with h
    refine⟨_,d',o',h.symm,fun q=>?_,fun y q j a=>?_,z,fun j a=>c4 j (e5 j a)⟩
    ·have:=q i (abS i);rw[c1 fun j a=>q j (by omega),aaP (by omega)];rfl
    ·rw[Bool.or_eq_false_iff,ab1] at q
     by_cases e:j=i
     ·subst e;have:=e3 y;omega
     ·exact c2 y q.1 j (by omega)
theorem DY {s:List Ty}(h0:∀x∈s,x.kind=0->x=.mk 0 0 []) (c:Eg s):s.all (eF s.length)=true:=by
 rw[aaY];intro x b;rcases c x b with a | a
 ·rw[h0 x b a];rfl
 ·rw[yG (by have:=nR a;omega)];exact a
theorem Fp {s:List Ty}(h:s.all (eF s.length)=true):∀x∈s,x.kind=0->x=.mk 0 0 []:=fun x b a=>by
 have h:=(aaY.1 h) x b;unfold eF at h;rw[fo a,xo,aaZ,aaZ] at h;exact Ar a h.1 (abE h.2)
theorem Co {p:Ty->Prop}(hp:∀t,p t->∀x∈t.args,p x) (hv:∀i,p (.mk 9 i [])):∀(n:Nat) (s:List Ty) (a b:Ty) (s':List Ty),(∀x∈s,p x)->p a->p b->lD n s a b=some (some s')->∀x∈s',p x:=by
 intro n
 induction n with
 | zero=>intro s a b s' _ _ _ h;cases h
 | succ n ih =>
  intro s a b s' c ha hb h;have k:∀{t r:Ty},aO s n t=some r->p t->p r:=fun hf ht=>qQ (p:=p) (fun t x _ _ he _=>c x (qk he)) hf ht;have d:∀{i:Nat}{b:Ty},p b->∀x∈s.set i b,p x:=fun hb x j=>by
   rcases ab3 j with j | rfl
   ·exact c x j
   ·exact hb
  cases q:aO s n a with
  | none=>rw[lD,q] at h;cases h
  | some a' =>
  cases fb:aO s n b with
  | none=>rw[lD,q,fb] at h;cases h
  | some u =>
  rw[mA q fb] at h;have m:=k q ha;have f:=k fb hb;split at h
  ·split at h
   ·injection h with h;injection h with h;exact h▸c
   ·injection h with h;injection h with h;rw[<-h]
    exact d (hv _)
  ·split at h
   ·cases ho:kQ s a'.id n u with
    | none=>rw[ho] at h;cases h
    | some o =>
     rw[ho] at h;cases o with
     | true=>cases h
     | false=>injection h with h;injection h with h;rw[<-h];exact d f
   ·split at h
    ·exact ih s u a' s' c f m h
    ·split at h
     ·cases h
     ·have hL:∀(l e:List Ty) (s:List Ty),(∀x∈l,p x)->(∀x∈e,p x)->(∀x∈s,p x)->j9 (lD n) s l e=some (some s')->∀x∈s',p x:=by
       intro l
       induction l with
       | nil=>intro e s _ _ c h;rw[j9] at h;injection h with h;injection h with h;exact h▸c
       | cons x l w =>
        intro e s h1 h2 c h;cases e with
        | nil=>cases h
        | cons y e =>
         rw[j9] at h;cases j:lD n s x y with
         | none=>rw[j] at h;cases h
         | some r =>
          rw[j] at h;cases r with
          | none=>cases h
          | some s1=>exact w e s1 (fun z v=>h1 z (by simp[v])) (fun z v=>h2 z (by simp[v])) (ih s x y s1 c (h1 x (by simp)) (h2 y (by simp)) j) h
      exact hL a'.args u.args s (hp a' m) (hp u f) c h
theorem Lb {n:Nat}{s:List Ty}{a b:Ty}{s':List Ty}(e:∀x∈s,x.kind=0->x=.mk 0 0 []) (hi:Eg s) (f:ins s.length a=true) (hb:ins s.length b=true) (h:lD n s a b=some (some s')):∀x∈s',x.kind=0->x=.mk 0 0 []:=by
 have:∀x∈s',x=.mk 0 0 []\/(x.kind=9/\x.args=[])\/(∃m,ins m x=true):=by
  refine Co (p:=fun x=>x=.mk 0 0 []\/(x.kind=9/\x.args=[])\/(∃m,ins m x=true)) ?_ (fun i=>.inr (.inl ⟨rfl,rfl⟩)) n s a b s' (fun x c=>?_) (.inr (.inr ⟨_,f⟩)) (.inr (.inr ⟨_,hb⟩)) h
  ·rintro t (rfl | ⟨_,h⟩ | ⟨m,h⟩) x c
   ·cases c
   ·rw[h] at c;cases c
   ·exact .inr (.inr ⟨m,eP h x c⟩)
  ·rcases hi x c with d | d
   ·exact .inl (e x c d)
   ·exact .inr (.inr ⟨_,d⟩)
 intro x c d;rcases this x c with h | ⟨h,_⟩ | ⟨m,h⟩
 ·exact h
 ·omega
 ·have:=nR h;omega
theorem Fq (s:List Ty):mr s<s.length+1:=by
 induction s with
 | nil=>exact Nat.zero_lt_one
 | cons x s a=>rw[mr,aa7];split<;>omega
theorem Cp {n:Nat}{s:List Ty}{a b:Ty}{s':List Ty}(g:Good s) (d:ins s.length a=true) (hb:ins s.length b=true) (h:lD n s a b=some (some s')):Eh s s':=by
 obtain⟨m,r,h1,c⟩:=yC _ s g (Fq s) a b d hb;have e:=kD h h1;exact c s' e.symm
theorem Io {s u:List Ty}{a b:Ty}{m:Nat}{d0:DM}{o0:OM}(hf:bA s m=some (some (d0,o0))) (z:mT s a b=true) (ae:∀x∈s,cn x<=2 ^ 30) (hS:Sat u s) (ag:gs u a=gs u b) (hv:∀x∈u,cn x<=8) (hd:cn (gs u a)<=8):Cn s a b:=by
 have g:=oO hf;obtain⟨i1,i2,p1,p2⟩:=yF z;obtain⟨n,F,_,_⟩:=PO s a b;have e:∃d o,bA s n=some (some (d,o)):=by
  obtain⟨r,c⟩:=F.form;exact⟨d0,o0,by rw[c,iC c hf]⟩
 obtain⟨r,c⟩:=F.eq e z;obtain⟨s',rfl,aa⟩:=hS.eqs ag c;have w:=Cp g i1 i2 c;obtain⟨ρ,hR⟩:=w.good.aaH;have v:∀x∈s',cn x<=2 ^ 30:=Co (p:=fun x=>cn x<=2 ^ 30) (fun t h x hx=>by have:=jI hx;have:=cK t;omega) (fun i=>by rw[show cn (.mk 9 i [])=1 from rfl];omega) n s a b s' ae (by omega) (by omega) c;have hu:∀x∈u,cn x<=2 ^ 30:=fun x hx=>by have:=hv x hx;omega
 have hz:s.all (eF s.length)=true:=by
  unfold bA at hf;split at hf
  ·assumption
  ·cases hf
 obtain⟨r2,l⟩:=F.form' e z s' c;have al:∀j:Nat,j<s'.length->cn (gs u (vr j))<=8:=fun j hj=>by
  rw[mB (show(vr j).kind=9 from rfl)];cases hx:u[((vr j).id).toNat]? with
  | none=>show cn (.mk 0 0 [])<=8;decide
  | some x=>exact hv x (aaX hx)
 have f:∃d o,bA s' n=some (some (d,o))/\PZ u False d/\∀j,¬K9 d o j:=by
  unfold bA at l ⊢;rw[fo (DY (Lb (Fp hz) g.ins i1 i2 c) w.good.ins)] at l ⊢;cases hl:dw s' n s'.length with
  | none=>rw[hl] at l;cases l
  | some r1 =>
   obtain⟨b1,d,o,rfl,c1,_,c3,c4⟩:=t9 (ex:=False) aa w.good.ins hR hu (fun q=>q.elim) v n s'.length r1 (aa0 _) hl;have:=c1 al;subst this;exact⟨d,o,rfl,c3,c4⟩
 obtain⟨d,o,f,ad,am⟩:=f;obtain⟨r3,y⟩:=F.deep e z s' c d o f;obtain⟨k,d',o',rfl,e1,e2,_⟩:=tZ (ex:=False) aa w.good.ins hR hu (fun q=>q.elim) n a d o r3 (by rw[w.len];exact i1) (by omega) v ad (fun j hj=>o5 hj (am j)) y;exact⟨n,s',e,z,c,d,o,k,d',o',f,y,by omega⟩
theorem Sat.back {u s:List Ty}{v:Int}{b j:Ty}(h:Sat u (s.set v.toNat b)) (h0:0<=v) (c:s[v.toNat]?=some j) (a:j.kind=0) (hb:¬b.kind=0):Sat u s/\gs u (.mk 9 v [])=gs u b:=by
 have f:=h.len;rw[abu] at f;refine⟨⟨f,fun i x hi d=>?_⟩,?_⟩
 ·by_cases e:v.toNat=i
  ·rw[<-e,c] at hi;injection hi with hi
   exact o5 (hi▸a) d
  ·exact h.eq i x (by rw[abN e];exact hi) d
 ·have:=h.eq v.toNat b (abR (aaR.1 c).1) hb;rw[mB rfl];show(u[v.toNat]?).getD _=_;rw[this];rfl
theorem u6 {u:List Ty}:∀(n:Nat) (s:List Ty) (a b:Ty) (s':List Ty),Good s->ins s.length a=true->ins s.length b=true->lD n s a b=some (some s')->Sat u s'->Sat u s/\gs u a=gs u b
 | 0,s,a,b,s',_,_,_,h,_=>by cases h
 | n+1,s,a,b,s',g,ha,hb,h,hS=>by
  cases v:aO s n a with
  | none=>rw[lD,v] at h;cases h
  | some a' =>
  cases fb:aO s n b with
  | none=>rw[lD,v,fb] at h;cases h
  | some f =>
  rw[mA v fb] at h;have ab:=g.ins.front v ha;have t:=g.ins.front fb hb;have fin:Sat u s/\gs u a'=gs u f->Sat u s/\gs u a=gs u b:=fun⟨d,e⟩=>⟨d,by rw[<-d.front v,<-d.front fb,e]⟩;refine fin ?_
  by_cases m:a'.kind=9
  ·obtain⟨xa,aE,ad⟩:=fD v m;obtain⟨w,aa,bj⟩:=bG aE;have e1:gs u (.mk 9 a'.id [])=gs u a':=lG rfl m rfl
   by_cases c:f.kind=9
   ·obtain⟨xb,aw,ar⟩:=fD fb c;obtain⟨ag,av,bd⟩:=bG aw;have e2:gs u (.mk 9 f.id [])=gs u f:=lG rfl c rfl;rw[fo ⟨m,c⟩] at h
    by_cases hi:a'.id=f.id
    ·rw[fo hi] at h;injection h with h;injection h with h
     exact⟨h▸hS,lG m c hi⟩
    ·rw[fL hi] at h;injection h with h;injection h with h
     subst h;rcases Int.le_total a'.id f.id with k | k
     ·rw[Int.max_eq_right k,Int.min_eq_left k] at hS;obtain⟨d,e⟩:=hS.back ag av ar (by show¬(9:Int)=0;omega);exact⟨d,by rw[<-e1,<-e2,e]⟩
     ·rw[Int.max_eq_left k,Int.min_eq_right k] at hS;obtain⟨d,e⟩:=hS.back w aa ad (by show¬(9:Int)=0;omega);exact⟨d,by rw[<-e1,<-e2,e]⟩
   ·rw[fL (fun q=>c q.2),fo m] at h;cases ho:kQ s a'.id n f with
    | none=>rw[ho] at h;cases h
    | some o =>
     rw[ho] at h;cases o with
     | true=>cases h
     | false =>
      injection h with h;injection h with h
      subst h;obtain⟨d,e⟩:=hS.back w aa ad (by have:=nR t;omega);exact⟨d,by rw[<-e1,e]⟩
  ·rw[fL (fun p=>m p.1),fL m] at h
   by_cases c:f.kind=9
   ·rw[fo c] at h;obtain⟨d,e⟩:=u6 n s f a' s' g t ab h hS;exact⟨d,e.symm⟩
   ·rw[fL c] at h;split at h
    ·cases h
    ·rename_i hc;have hL:∀(l j:List Ty) (s:List Ty),Good s->l.length=j.length->(∀x∈l,ins s.length x=true)->(∀x∈j,ins s.length x=true)->j9 (lD n) s l j=some (some s')->Sat u s/\l.map (gs u)=j.map (gs u):=by
      intro l
      induction l with
      | nil =>
       intro j s g hl _ _ h;rw[j9] at h;injection h with h;injection h with h
       cases j with
       | nil=>exact⟨h▸hS,rfl⟩
       | cons y j=>cases hl
      | cons x l am =>
       intro j s g hl h1 h2 h;cases j with
       | nil=>cases h
       | cons y j =>
        rw[j9] at h;cases hx:lD n s x y with
        | none=>rw[hx] at h;cases h
        | some r =>
         rw[hx] at h;cases r with
         | none=>cases h
         | some s1 =>
          have nx:=Cp g (h1 x (by simp)) (h2 y (by simp)) hx;obtain⟨d,e⟩:=am j s1 nx.good (by simpa using hl) (fun z hz=>by rw[nx.len];exact h1 z (by simp[hz])) (fun z hz=>by rw[nx.len];exact h2 z (by simp[hz])) h;obtain⟨q3,q4⟩:=u6 n s x y s1 g (h1 x (by simp)) (h2 y (by simp)) hx d;exact⟨q3,by rw[aaW,aaW,e,q4]⟩
     obtain⟨d,e⟩:=hL a'.args f.args s g (by omega) (eP ab) (eP t) h;refine⟨d,?_⟩;rw[je m,je c,e,show a'.kind=f.kind by omega,show a'.id=f.id by omega]
theorem Rs (n:Nat):∀t:Ty,ins n t=true->cn (gs (List.replicate n iT) t)=cn t:=dJ fun t d f=>by
 by_cases e:t.kind=9
 ·obtain⟨a,b,c⟩:=oN f e;rw[mB e,cK t,c];rw[abV,fo (by omega)];rfl
 ·rw[je e,cK,cK t];have:∀l:List Ty,(∀x∈l,cn (gs (List.replicate n iT) x)=cn x)->ct (l.map (gs (List.replicate n iT)))=ct l:=by
   intro l
   induction l with
   | nil=>exact fun _=>rfl
   | cons x l d=>intro h;rw[aaW,ct,ct,h x (by simp),d fun y k=>h y (by simp[k])]
  show ct (t.args.map _)+1=_;rw[this t.args fun x j=>d x j (eP f x j)]
theorem Good.inst {s:List Ty}(g:Good s):∃u,Sat u s/\(∀(t x:Ty),t.kind=9->bQ s t=some x->x.kind=0->cn (gs u t)=1):=by
 have a:∀i:Nat,∃r,i<s.length->Ex s (vr i) r:=fun i=>by
  by_cases hi:i<s.length
  ·obtain⟨n,r,h⟩:=(g.fin i hi).ap;exact⟨r,fun _=>⟨n,h⟩⟩
  ·exact⟨zT,fun h=>o5 h hi⟩
 let G:=List.replicate s.length iT
 let u:=(List.range s.length).map fun i=>gs G (a i).choose
 have w:u.length=s.length:=by simp[u]
 have c:∀i:Nat,i<s.length->u[i]?=some (gs G (a i).choose):=fun i hi=>by simp[u,hi]
 have k:∀t:Ty,Try.ins s.length t=true->∀r,Ex s t r->gs u t=gs G r:=dJ fun t ih ht r l=>by
  by_cases d:t.kind=9
  ·obtain⟨i,hi,e,e2⟩:=yA ht d;rw[mB d,e2,show((i:Nat):Int).toNat=i by omega,c i hi];show gs G (a i).choose=_;rw[((a i).choose_spec hi).one (e▸l)]
  ·obtain⟨h1,h2,h3,h4⟩:=l.args d;rw[je d,je (by rw[h1];exact d),h1,h2];congr 1;refine abT fun j=>?_;rw[aa5,aa5];cases b:t.args[j]? with
   | none =>
    have:r.args[j]?=none:=by rw[abx] at b ⊢;omega
    rw[this];rfl
   | some x =>
    obtain⟨y,hy,p⟩:=h4 j x b;rw[hy];exact vv some (ih x (aaX b) (eP ht x (aaX b)) y p)
 refine⟨u,⟨w,fun i x b o=>?_⟩,fun t x d m o=>?_⟩
 ·have hi:i<s.length:=(aaR.1 b).1;obtain⟨n,f⟩:=(a i).choose_spec hi;have v:Ex s x (a i).choose:=by
   cases n with
   | zero=>cases f
   | succ n =>
    have m:bQ s (vr i)=some x:=by
     unfold bQ;rw[fL (by show¬((i:Int)<0);omega)];show s[((i:Int)).toNat]?=some x;rw[show((i:Int)).toNat=i by omega];exact b
    rw[oK,fo (show(vr i).kind=9 from rfl),m] at f;simp only at f;rw[fo o] at f;exact⟨n,f⟩
  rw[c i hi,k x ((g.ins x (aaX b)).resolve_left o) _ v]
 ·obtain⟨e1,e2,e3⟩:=bG m;have hg:gs u t=gs u (vr t.id.toNat):=lG d rfl (by show t.id=((t.id.toNat:Nat):Int);omega);have z:bQ s (vr t.id.toNat)=some x:=(Gt (by show((t.id.toNat:Nat):Int)=t.id;omega)).trans m;have l:Ex s (vr t.id.toNat) (vr t.id.toNat):=⟨1,by rw[oK,fo (show(vr t.id.toNat).kind=9 from rfl),z];simp only;rw[fL (fun q=>q o)];rfl⟩;rw[hg,k _ (sw e3) _ l];exact Rs s.length _ (sw e3)
theorem Lc {u s:List Ty}{ρ:Int->Nat}(hS:Sat u s) (g:Good s) (v:Rk s ρ) {D:Nat}(hD:∀x∈s,cn x<=D) (l:∀(t x:Ty),t.kind=9->bQ s t=some x->x.kind=0->cn (gs u t)=1):∀(k:Nat) (t:Ty),ins s.length t=true->qm (fun w=>decide (ρ w<k)) t=true->cn (gs u t)<=cn t+k*D
 | k,t,e,d=>by
  induction k generalizing t with
  | zero =>
   revert e d
   refine dJ (p:=fun t=>ins s.length t=true->qm (fun w=>decide (ρ w<0)) t=true->cn (gs u t)<=cn t+0*D) (fun t j e d=>?_) t
   by_cases c:t.kind=9
   ·rw[iD,fo c,aaZ] at d;omega
   ·rw[iD,fL c,aaY] at d;rw[je c,cK,cK t];have:ct (t.args.map (gs u))<=ct t.args+0*D:=tO fun y m=>by
     obtain⟨x,b,rfl⟩:=abq.1 m;have:=j x b (eP e x b) (d x b);have:=jI b;omega
    show ct (t.args.map (gs u))+1<=_;omega
  | succ k o =>
   revert e d
   refine dJ (p:=fun t=>ins s.length t=true->qm (fun w=>decide (ρ w<k+1)) t=true->cn (gs u t)<=cn t+(k+1)*D) (fun t j e d=>?_) t
   by_cases c:t.kind=9
   ·rw[iD,fo c,aaZ] at d;obtain⟨x,f,b⟩:=yB e c;obtain⟨z,q,e3⟩:=bG f;have h1:=cK t
    by_cases a:x.kind=0
    ·rw[l t x c f a];omega
    ·rw[<-hS.elem c f a];have h:=v.dn t.id.toNat x q a;rw[show((t.id.toNat:Nat):Int)=t.id by omega] at h;have:=o x (g.ins.elem f a) (tY (n:=s.length) (fun w _ _ r=>by rw[aaZ] at r ⊢;omega) x (g.ins.elem f a) h);have:=hD x b;rw[Nat.succ_mul];omega
   ·rw[iD,fL c,aaY] at d;rw[je c,cK,cK t];have:ct (t.args.map (gs u))<=ct t.args+(k+1)*D:=tO fun y m=>by
     obtain⟨x,b,rfl⟩:=abq.1 m;have:=j x b (eP e x b) (d x b);have:=jI b;omega
    show ct (t.args.map (gs u))+1<=_;omega
theorem Ip {s:List Ty}{a b:Ty}(m:s.length<=1000) (ag:∀x∈s,cn x<=8) (h:Cn s a b):∃u,u.length=s.length/\gs u a=gs u b/\(∀x∈u,cn x<=8)/\cn (gs u a)<=8:=by
 obtain⟨n,s',⟨d0,o0,hf⟩,hp,he,d,o,k,d',o',r,hd,hk⟩:=h;have g:=oO hf;have v:=oO r;obtain⟨i1,i2,p1,p2⟩:=yF hp;have nx:=Cp g i1 i2 he;obtain⟨ρ,y⟩:=v.aaH;obtain⟨u,hS,l⟩:=v.inst;have q:∀x∈s',cn x<=8:=Co (p:=fun x=>cn x<=8) (fun t h x f=>by have:=jI f;have:=cK t;omega) (fun i=>by rw[show cn (.mk 9 i [])=1 from rfl];omega) n s a b s' ag p1 p2 he;have e:∀x∈s',cn x<=2 ^ 30:=fun x f=>by have:=q x f;omega
 obtain⟨_,an⟩:=u6 n s a b s' g i1 i2 he hS;have ad:u.length=s.length:=by rw[hS.len,nx.len]
 have aa:∀(i:Nat) (x:Ty),u[i]?=some x->i<s'.length/\gs u (vr i)=x:=fun i x f=>by
  refine⟨by rw[<-hS.len];exact(aaR.1 f).1,?_⟩;rw[mB (show(vr i).kind=9 from rfl),show((vr i).id).toNat=i from by show((i:Nat):Int).toNat=i;omega,f];rfl
 have hu:∀x∈u,cn x<=2 ^ 30:=fun x f=>by
  obtain⟨i,hi⟩:=List.getElem?_of_mem f;obtain⟨h1,w⟩:=aa i x hi;have:=Lc hS v y q l s'.length (vr i) (sw h1) (by rw[iD,fo (show(vr i).kind=9 from rfl),aaZ];exact y.lt i h1);rw[w,show cn (vr i)=1 from rfl,nx.len] at this;omega
 have hq:∀j:Nat,j<s'.length->cn (gs u (vr j))<=8:=by
  have c:=r;unfold bA at c;split at c
  ·cases m:dw s' n s'.length with
   | none=>rw[m] at c;cases c
   | some r1 =>
    obtain⟨b1,d1,o1,rfl,_,c2,_⟩:=t9 (ex:=True) hS v.ins y hu (fun _=>l) e n s'.length r1 (aa0 _) m;rw[m] at c;cases b1 with
    | true=>cases c
    | false=>exact c2 trivial rfl
  ·cases c
 have z:PZ u True d/\∀j,¬K9 d o j:=by
  have c:=r;unfold bA at c;split at c
  ·cases m:dw s' n s'.length with
   | none=>rw[m] at c;cases c
   | some r1 =>
    obtain⟨b1,d1,o1,rfl,_,_,c3,c4⟩:=t9 (ex:=True) hS v.ins y hu (fun _=>l) e n s'.length r1 (aa0 _) m;rw[m] at c;cases b1 with
    | true=>cases c
    | false =>
     injection c with c;injection c with c;injection c with h1 w
     subst h1 w;exact⟨c3,c4⟩
  ·cases c
 obtain⟨k1,d1,o1,e1,_,_,e3,_⟩:=tZ (ex:=True) hS v.ins y hu (fun _=>l) n a d o _ (by rw[nx.len];exact i1) (by omega) e z.1 (fun j hj=>o5 hj (z.2 j)) hd;injection e1 with e1
 injection e1 with e1 _
 refine⟨u,ad,an,fun x f=>?_,?_⟩
 ·obtain⟨i,hi⟩:=List.getElem?_of_mem f;obtain⟨h1,w⟩:=aa i x hi;rw[<-w];exact hq i h1
 ·have:=e3 trivial;omega
def bC (b:Bool):List C:=[.bool b]
abbrev LO (l:List Bool):List TO:=[.box 123 [.rw 1001],.row 4 1 (l.map bC)]
theorem WG (l:List Bool) (n:Int) (h0:0<=n) (h1:n<l.length):CallsT P 106 [IC n,.own 1000 0] (LO l) (aT (LO (l.set n.toNat true)) (.tup [])):=by
 have b:(l.map bC)[n.toNat]?=some [.bool l[n.toNat]]:=by rw[aa5,aaN (by omega)];rfl
 have a:(l.map bC).set n.toNat [.bool true]=(l.set n.toNat true).map bC:=by rw[List.map_set];rfl
 generalize l.set n.toNat true=l' at a ⊢;refine af Try.func106 Kg rfl fun c _=>?_;refine Bc.mk h0 (by rw[v5];exact h1) ?_;refine⟨rfl,Aw b rfl ?_⟩;exact bq [1000,1001] rfl rfl (vv (fun q=>[TO.box 123 [.rw 1001],.row 4 1 q]) a) rfl
mutual
def mark:Ty->List Bool->List Bool
 | .mk k i l,o=>nS l (if k=5 then o.set i.toNat true else o)
def nS:List Ty->List Bool->List Bool
 | [],o=>o
 | t::l,o=>nS l (mark t o)
end
mutual
def yP (n:Int):Ty->Bool
 | .mk k i l=>(if k=5 then decide (0<=i)&&decide (i<n) else true)&&Cq n l
def Cq (n:Int):List Ty->Bool
 | []=>true
 | t::l=>yP n t&&Cq n l
end
theorem yQ (n:Int):∀l:List Ty,Cq n l=l.all (yP n)
 | []=>rfl
 | t::l=>by rw[Cq,yQ n l,abd]
theorem DZ (n:Int) (t:Ty):yP n t=((if t.kind=5 then decide (0<=t.id)&&decide (t.id<n) else true)&&t.args.all (yP n)):=by
 cases t;rw[yP,yQ];rfl
mutual
theorem qo:∀(t:Ty) (o:List Bool),(mark t o).length=o.length
 | .mk k i l,o=>by
  rw[mark,AW];split
  ·rw[abu]
  ·rfl
theorem AW:∀(l:List Ty) (o:List Bool),(nS l o).length=o.length
 | [],o=>by rw[nS]
 | t::l,o=>by rw[nS,AW,qo]
end
theorem mark_eq (t:Ty) (o:List Bool):mark t o=nS t.args (if t.kind=5 then o.set t.id.toNat true else o):=by cases t;rw[mark];rfl
abbrev D3 (t:Ty) (o o':List Bool):Prop:=CallsT P 105 [aR t,.fn 106 [] [.own 1000 0]] (LO o) (aT (LO o') (.tup []))
theorem TH (t:Ty) (n:Nat) (mk:Ty->List Bool->List Bool) (tu:List Ty->List Bool->List Bool) (h:∀o,tu [] o=o) (d:∀x l o,tu (x::l) o=tu l (mk x o)) (m:∀x o,(mk x o).length=o.length)
  (w:∀x∈t.args,∀o,o.length=n->D3 x o (mk x o)) (o b:List Bool) (v:b.length=n) (y:t.kind=5->CallsT P 106 [IC t.id,.own 1000 0] (LO o) (aT (LO b) (.tup []))) (hb:¬t.kind=5->o=b):D3 t o (tu t.args b):=by
 have j:(t.args.map aG).length=t.args.length:=v5 _;refine af Try.func105 Kf rfl fun hw _=>?_;have hl:t.args.length<=9223372036854775807:=fN hw.1.2.2.1;refine ah (fun p=>callO [1000,1001] [1000,1001] (y p) rfl rfl rfl rfl rfl fun _ _=>cA t.args.length 16 [] b (fun _=>[]) (fun q=>[(1000,.box 123 [.rw 1001]),(1001,.row 4 1 (q.map bC))]) (fun k q=>tu (t.args.drop k) q=tu t.args b/\q.length=n) ⟨rfl,v⟩ (ak rfl) trivial
   ⟨.inl ⟨_,rfl,.inl ⟨rfl,rfl⟩⟩,.inl ⟨_,rfl,.inl ⟨rfl,rfl⟩⟩,trivial⟩ (fun _=>rfl) (fun _=>rfl) ?_) (fun p=>cA t.args.length 16 [] b (fun _=>[]) (fun q=>[(1000,.box 123 [.rw 1001]),(1001,.row 4 1 (q.map bC))]) (fun k q=>tu (t.args.drop k) q=tu t.args b/\q.length=n) ⟨rfl,v⟩ (ak rfl) trivial
   ⟨.inl ⟨_,rfl,.inl ⟨rfl,rfl⟩⟩,.inl ⟨_,rfl,.inl ⟨vv (fun z=>TO.row 4 1 (z.map bC)) (hb p),rfl⟩⟩,trivial⟩ (fun _=>rfl) (fun _=>rfl) ?_)
 all_goals
  rintro k q hk ⟨c,u⟩ _ _ _;refine ah (fun a=>?_) (fun f=>?_)
  ·have a:k<t.args.length:=by rw[j] at a;omega
   refine aW a fun x hx r s=>?_;refine cH hx ?_;refine callO [1000,1001] [1000,1001] (w x r q u) rfl rfl rfl rfl rfl fun _ _=>?_;refine Fit.aag (by omega) (by omega) ?_;refine⟨(k+1,mk x q),⟨a,?_,by rw[m];exact u⟩,⟨bU,trivial⟩,⟨.inl ⟨_,rfl,.inl ⟨rfl,rfl⟩⟩,.inl ⟨_,rfl,.inl ⟨rfl,rfl⟩⟩,trivial⟩,bX a⟩;have:=c;rw[s,d] at this;exact this
  ·have f:¬k<t.args.length:=by rw[j] at f;omega
   have e:q=tu t.args b:=by
    have:=c;rw[bS f,h] at this;exact this
   exact bq [1000,1001] rfl rfl (vv (fun z=>LO z) e) rfl
theorem WH (n:Nat):∀t:Ty,yP n t=true->∀o,o.length=n->D3 t o (mark t o):=dJ fun t e a o b=>by
 rw[DZ,xo,aaY] at a;rw[mark_eq];refine TH t n mark nS (fun o=>by rw[nS]) (fun x l o=>by rw[nS]) qo (fun x d o b=>e x d (a.2 x d) o b) o _ ?_ (fun c=>?_) (fun c=>?_)
 ·split
  ·rw[abu];exact b
  ·exact b
 ·rw[fo c] at a ⊢;have a:=a.1;rw[xo,aaZ,aaZ] at a;exact WG o t.id a.1 (by rw[b];exact a.2)
 ·rw[fL c]
section
variable {α:Type}
def bL (q:α->Bool):List α->Int->Int
 | [],_=>-1
 | x::l,k=>if q x then k else bL q l (k+1)
theorem nT {q:α->Bool}{l:List α}{k:Nat}{x:α}{r:Int}(a:l.drop k=x::l.drop (k+1)) (hi:bL q (l.drop k) k=r) (b:q x=true):(k:Int)=r:=by
 rw[a,bL,fo b] at hi;exact hi
theorem qp {q:α->Bool}{l:List α}{k:Nat}{x:α}{r:Int}(a:l.drop k=x::l.drop (k+1)) (hi:bL q (l.drop k) k=r) (b:q x=false):bL q (l.drop (k+1)) ((k+1:Nat):Int)=r:=by
 rw[a,bL,fL (by rw[b];exact aa8)] at hi;exact hi
theorem nU {q:α->Bool}{l:List α}{k:Nat}{r:Int}(h:¬k<l.length) (hi:bL q (l.drop k) k=r):(-1:Int)=r:=by
 rw[bS h,bL] at hi;exact hi
theorem yR (q:α->Bool):∀(l:List α) (k:Int),0<=k->decide (0<=bL q l k)=l.any q
 | [],k,_=>rfl
 | x::l,k,h=>by
  rw[bL,abI];cases a:q x
  ·rw[fL aa8,Bool.false_or];exact yR q l (k+1) (by omega)
  ·rw[fo rfl,Bool.true_or];exact aaQ h
theorem u7 (q:α->Bool) (l:List α):decide (bL q l 0>=0)=l.any q:=yR q l 0 (abg _)
end
theorem OD (o:List Bool) (p:Prog) (l:List bH) (q:bH->Bool) (h:∀x∈l,CallsT P 107 [.agg (bP x),.pt [.sl (o.map bC)] 0,.pt (jT p) 0] [] (aT [] (.bool (q x)))) :
  CallsT P 81 [.sl (l.map bP),.fn 107 [] [.pt [.sl (o.map bC)] 0,.pt (jT p) 0]] [] (aT [] (IC (bL q l 0))):=by
 have c:(l.map bP).length=l.length:=v5 _;refine af Try.func81 F5 rfl fun n _=>?_;have m:l.length<=9223372036854775807:=by have:=iG n.1;rwa [c] at this
 refine cA l.length 8 [] () (fun _=>[]) (fun _=>[]) (fun k _=>bL q (l.drop k) k=bL q l 0) rfl (ak rfl) trivial trivial (fun _=>rfl) (fun _=>rfl) ?_;rintro k _ s a _ _ _;refine ah (fun b=>?_) (fun d=>?_)
 ·have b:k<l.length:=by rw[c] at b;omega
  refine aW b fun x r j e=>?_;refine AQ (by omega) (show l[((k:Int)).toNat]?=some x from r) ?_;refine bf (h x j) rfl fun _=>?_;refine aq (fun f=>?_) (fun f=>?_)
  ·exact aC rfl (vv IC (nT e a f))
  ·refine Fit.aag (by omega) (by omega) ?_;exact⟨(k+1,()),⟨b,qp e a f⟩,⟨bU,trivial⟩,trivial,bX b⟩
 ·have d:¬k<l.length:=by rw[c] at d;omega
  exact aC rfl (vv IC (nU d a))
theorem Ld (o:List Bool) (p:Prog) (l:List bH) (q:bH->Bool) (h:∀x∈l,CallsT P 107 [.agg (bP x),.pt [.sl (o.map bC)] 0,.pt (jT p) 0] [] (aT [] (.bool (q x)))) :
  CallsT P 110 [.sl (l.map bP),.fn 107 [] [.pt [.sl (o.map bC)] 0,.pt (jT p) 0]] [] (aT [] (.bool (l.any q))):=by
 have h1:=OD o p l q h;have e:=u7 q l;generalize bL q l 0=n at h1 e;refine af Try.func110 Kk rfl fun a _=>?_;refine bf h1 rfl fun _=>?_;exact aC rfl (vv C.bool e)
theorem OE (g:Int) (t:Ty) (l:List bH) (q:bH->Bool) (h:∀x∈l,CallsT P 82 [.agg (bP x),.pt [IC g,IC t.kind,IC t.id,.sl (t.args.map aG)] 0] [] (aT [] (.bool (q x)))) :
  CallsT P 81 [.sl (l.map bP),.fn 82 [] [.pt [IC g,IC t.kind,IC t.id,.sl (t.args.map aG)] 0]] [] (aT [] (IC (bL q l 0))):=by
 have c:(l.map bP).length=l.length:=v5 _;refine af Try.func81 F5 rfl fun n _=>?_;have m:l.length<=9223372036854775807:=by have:=iG n.1;rwa [c] at this
 refine cA l.length 8 [] () (fun _=>[]) (fun _=>[]) (fun k _=>bL q (l.drop k) k=bL q l 0) rfl (ak rfl) trivial trivial (fun _=>rfl) (fun _=>rfl) ?_;rintro k _ p a _ _ _;refine ah (fun b=>?_) (fun d=>?_)
 ·have b:k<l.length:=by rw[c] at b;omega
  refine aW b fun x o j e=>?_;refine AQ (by omega) (show l[((k:Int)).toNat]?=some x from o) ?_;refine bf (h x j) rfl fun _=>?_;refine aq (fun f=>?_) (fun f=>?_)
  ·exact aC rfl (vv IC (nT e a f))
  ·refine Fit.aag (by omega) (by omega) ?_;exact⟨(k+1,()),⟨b,qp e a f⟩,⟨bU,trivial⟩,trivial,bX b⟩
 ·have d:¬k<l.length:=by rw[c] at d;omega
  exact aC rfl (vv IC (nU d a))
theorem OG (y:Impl) (l:List Impl) (q:Impl->Bool) (h:∀x∈l,CallsT P 91 [.agg (dF x),.pt [IC y.trait,IC y.module,IC y.params,.sl (y.bounds.map bP),IC y.type.kind,IC y.type.id,.sl (y.type.args.map aG),IC y.func] 0] [] (aT [] (.bool (q x)))) :
  CallsT P 90 [.sl (l.map dF),.fn 91 [] [.pt [IC y.trait,IC y.module,IC y.params,.sl (y.bounds.map bP),IC y.type.kind,IC y.type.id,.sl (y.type.args.map aG),IC y.func] 0]] [] (aT [] (IC (bL q l 0))):=by
 have d:(l.map dF).length=l.length:=v5 _;refine af Try.func90 NR rfl fun n _=>?_;have m:l.length<=9223372036854775807:=by have:=iG n.1;rwa [d] at this
 refine cA l.length 8 [] () (fun _=>[]) (fun _=>[]) (fun k _=>bL q (l.drop k) k=bL q l 0) rfl (ak rfl) trivial trivial (fun _=>rfl) (fun _=>rfl) ?_;rintro k _ p b _ _ _;refine ah (fun a=>?_) (fun c=>?_)
 ·have a:k<l.length:=by rw[d] at a;omega
  refine aW a fun x o f e=>?_;refine AP (by omega) (show l[((k:Int)).toNat]?=some x from o) ?_;refine bf (h x f) rfl fun _=>?_;refine aq (fun j=>?_) (fun j=>?_)
  ·exact aC rfl (vv IC (nT e b j))
  ·refine Fit.aag (by omega) (by omega) ?_;exact⟨(k+1,()),⟨a,qp e b j⟩,⟨bU,trivial⟩,trivial,bX a⟩
 ·have c:¬k<l.length:=by rw[d] at c;omega
  exact aC rfl (vv IC (nU c b))
end Go.Fr.Try
