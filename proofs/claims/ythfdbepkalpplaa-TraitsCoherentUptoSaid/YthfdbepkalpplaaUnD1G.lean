/- Part of the proofs of the statements of this seat. -/
import Derived.Test.YthfdbepkalpplaaUnV1G
set_option maxRecDepth 10000
set_option linter.unusedVariables false
set_option linter.unusedSimpArgs false
namespace Go.Fr.Try
open Go Go.RowKit Go.Proofs Go.Fr Go.Fr.T Go.Fr.Api
abbrev SU (s:List Ty) (D O:List (C×C)):List TO:=[.box 93 [.rw 1001,.mpr 1002,.mpr 1003],.row 32 3 (s.map aI),.map D,.map O]
abbrev SF (s:List Ty) (D O:List (C×C)):List TO:=[.box 93 [.sl (s.map aI),.mpr 1001,.mpr 1002],.map D,.map O]
abbrev SO (k:Nat) (D O:List (C×C)):List TO:=[.box 93 [.opq k,.mpr 1001,.mpr 1002],.map D,.map O]
abbrev pL (s:List Ty):List TO:=[.box 93 [.rw 1001,.any,.any],.row 32 3 (s.map aI)]
abbrev uQ (s:List Ty):List TO:=[.box 93 [.sl (s.map aI),.any,.any]]
theorem CO (n:Int) (t:Ty):ins n t=if t.kind<1\/9<t.kind then false else if t.kind=9 then decide (0<=t.id)&&decide (t.id<n)&&decide (t.args.length=0) else !t.args.any fun x=>!ins n x:=by
 rw[vE];congr 1;congr 1;rw[List.all_eq_not_any_not]
theorem Sk (s:List Ty) (D O:List (C×C)) (l:List Ty) (q:Ty->Bool) (h:∀x∈l,CallsT P 94 [aV x,.own 1000 0] [.box 89 [.own 1001 0],.box 93 [.rw 1002,.mpr 1003,.mpr 1004],.row 32 3 (s.map aI),.map D,.map O] (aU [.box 89 [.own 1001 0],.box 93 [.rw 1002,.mpr 1003,.mpr 1004],.row 32 3 (s.map aI),.map D,.map O] (.bool (q x)))) :
  CallsT P 92 [.sl (l.map aI),.fn 94 [] [.own 1000 0]] [.box 89 [.own 1001 0],.box 93 [.rw 1002,.mpr 1003,.mpr 1004],.row 32 3 (s.map aI),.map D,.map O] (aU [.box 89 [.own 1001 0],.box 93 [.rw 1002,.mpr 1003,.mpr 1004],.row 32 3 (s.map aI),.map D,.map O] (IC (fidx q l 0))):=by
 have d:(l.map aI).length=l.length:=vz _;refine af Try.func92 ud rfl fun n _=>?_;have m:l.length<=9223372036854775807:=f7 n.1;refine bX l.length 8 [] () (fun _=>[]) (fun _=>[(1000,.box 89 [.own 1001 0]),(1001,.box 93 [.rw 1002,.mpr 1003,.mpr 1004]),(1002,.row 32 3 (s.map aI)),(1003,.map D),(1004,.map O)]) (fun k _=>fidx q (l.drop k) k=fidx q l 0) rfl (ai rfl) trivial ⟨.inl ⟨_,rfl,.inl ⟨rfl,rfl⟩⟩,.inl ⟨_,rfl,.inl ⟨rfl,rfl⟩⟩,.inl ⟨_,rfl,.inl ⟨rfl,rfl⟩⟩,.inl ⟨_,rfl,.inl ⟨rfl,rfl⟩⟩,.inl ⟨_,rfl,.inl ⟨rfl,rfl⟩⟩,trivial⟩ (fun _=>rfl) (fun _=>rfl) ?_;rintro k _ p a _ _ _;refine ah (fun b=>?_) (fun c=>?_)
 ·have b:k<l.length:=by rw[d] at b;omega
  refine aX b fun x o f e=>?_;refine cL o ?_;refine callO [1000,1001,1002,1003,1004] [1000,1001,1002,1003,1004] (h x f) rfl rfl rfl rfl rfl fun _ _=>?_;refine aq (fun j=>?_) (fun j=>?_)
  ·exact bF [1000,1001,1002,1003,1004] rfl rfl rfl (vv IC (qE e a j))
  ·refine Fit.aaf (by omega) (by omega) ?_;exact⟨(k+1,()),⟨b,uo e a j⟩,⟨bM,trivial⟩,⟨.inl ⟨_,rfl,.inl ⟨rfl,rfl⟩⟩,.inl ⟨_,rfl,.inl ⟨rfl,rfl⟩⟩,.inl ⟨_,rfl,.inl ⟨rfl,rfl⟩⟩,.inl ⟨_,rfl,.inl ⟨rfl,rfl⟩⟩,.inl ⟨_,rfl,.inl ⟨rfl,rfl⟩⟩,trivial⟩,bN b⟩
 ·have c:¬k<l.length:=by rw[d] at c;omega
  exact bF [1000,1001,1002,1003,1004] rfl rfl rfl (vv IC (qF c a))
theorem Sm (s:List Ty) (D O:List (C×C)) (l:List Ty) (q:Ty->Bool) (h:∀x∈l,CallsT P 94 [aV x,.own 1000 0] [.box 89 [.own 1001 0],.box 93 [.rw 1002,.mpr 1003,.mpr 1004],.row 32 3 (s.map aI),.map D,.map O] (aU [.box 89 [.own 1001 0],.box 93 [.rw 1002,.mpr 1003,.mpr 1004],.row 32 3 (s.map aI),.map D,.map O] (.bool (q x)))) :
  CallsT P 49 [.sl (l.map aI),.fn 94 [] [.own 1000 0]] [.box 89 [.own 1001 0],.box 93 [.rw 1002,.mpr 1003,.mpr 1004],.row 32 3 (s.map aI),.map D,.map O] (aU [.box 89 [.own 1001 0],.box 93 [.rw 1002,.mpr 1003,.mpr 1004],.row 32 3 (s.map aI),.map D,.map O] (.bool (l.any q))):=by
 have a:=Sk s D O l q h;have e:=qG q l;generalize fidx q l 0=n at a e;refine af Try.func49 t9 rfl fun b _=>?_;refine callO [1000,1001,1002,1003,1004] [1000,1001,1002,1003,1004] a rfl rfl rfl rfl rfl fun _ _=>?_;exact bF [1000,1001,1002,1003,1004] rfl rfl rfl (vv C.bool e)
theorem Uh (s:List Ty) (D O:List (C×C)) (x:Ty) (b:Bool) (h:CallsT P 59 [.own 1000 0,aV x] (SU s D O) (aU (SU s D O) (.bool b))) :
  CallsT P 94 [aV x,.own 1000 0] [.box 89 [.own 1001 0],.box 93 [.rw 1002,.mpr 1003,.mpr 1004],.row 32 3 (s.map aI),.map D,.map O] (aU [.box 89 [.own 1001 0],.box 93 [.rw 1002,.mpr 1003,.mpr 1004],.row 32 3 (s.map aI),.map D,.map O] (.bool (!b))):=by
 refine af Try.func94 CC rfl fun a _=>?_;refine callO [1001,1002,1003,1004] [1001,1002,1003,1004] h rfl rfl rfl rfl rfl fun _ _=>?_;exact bF [1000,1001,1002,1003,1004] rfl rfl rfl rfl
theorem QX (s:List Ty) (D O:List (C×C)):∀t:Ty,CallsT P 59 [.own 1000 0,aV t] (SU s D O) (aU (SU s D O) (.bool (ins s.length t))):=dc fun t k=>by
 have h49:=Sm s D O t.args (fun x=>!ins s.length x) fun x j=>Uh s D O x _ (k x j);rw[CO];generalize(t.args.any fun x=>!ins s.length x)=b at h49 ⊢;have c:(s.map aI).length=s.length:=vz _;have f:(t.args.map aI).length=t.args.length:=vz _;refine af Try.func59 Cz rfl fun l _=>?_;refine ah (fun h1=>?_) (fun h1=>?_)
 ·exact bF [1000,1001,1002,1003] rfl rfl rfl (vv C.bool (by rw[eu (Or.inl h1)]))
 refine ah (fun h=>?_) (fun h=>?_)
 ·exact bF [1000,1001,1002,1003] rfl rfl rfl (vv C.bool (by rw[eu (Or.inr h)]))
 have h12:¬(t.kind<1\/9<t.kind):=fun q=>q.elim (fun q=>h1 q) (fun q=>h q);refine ah (fun a=>?_) (fun a=>?_)
 ·refine ah (fun e=>?_) (fun e=>?_)
  ·skip
   refine ah (fun d=>?_) (fun d=>?_)
   ·exact bF [1000,1001,1002,1003] rfl rfl rfl (vv C.bool (by rw[fo h12,eu a,aaN (show(0:Int)<=t.id from e),aaN (show t.id<(s.length:Int) from by rw[c] at d;exact d),aaS,aaS];exact decide_eq_decide.2 (by rw[f];omega)))
   ·exact bF [1000,1001,1002,1003] rfl rfl rfl (vv C.bool (by rw[fo h12,eu a,aaP (show¬t.id<(s.length:Int) from by rw[c] at d;exact d),abh,aaV]))
  ·exact bF [1000,1001,1002,1003] rfl rfl rfl (vv C.bool (by rw[fo h12,eu a,aaP (show¬(0:Int)<=t.id from e),aaV,aaV]))
 refine callO [2,1000,1001,1002,1003] [2,1000,1001,1002,1003] h49 rfl rfl rfl rfl rfl fun _ _=>?_;exact bF [1000,1001,1002,1003] rfl rfl rfl (vv C.bool (by rw[fo h12,fo a]))
theorem Sn (s:List Ty) (D O:List (C×C)) (l:List Ty) (q:Ty->Bool) (h:∀x∈l,CallsT P 94 [aV x,.own 1000 0] [.box 89 [.own 1001 0],.box 93 [.sl (s.map aI),.mpr 1002,.mpr 1003],.map D,.map O] (aU [.box 89 [.own 1001 0],.box 93 [.sl (s.map aI),.mpr 1002,.mpr 1003],.map D,.map O] (.bool (q x)))) :
  CallsT P 92 [.sl (l.map aI),.fn 94 [] [.own 1000 0]] [.box 89 [.own 1001 0],.box 93 [.sl (s.map aI),.mpr 1002,.mpr 1003],.map D,.map O] (aU [.box 89 [.own 1001 0],.box 93 [.sl (s.map aI),.mpr 1002,.mpr 1003],.map D,.map O] (IC (fidx q l 0))):=by
 have d:(l.map aI).length=l.length:=vz _;refine af Try.func92 ud rfl fun n _=>?_;have m:l.length<=9223372036854775807:=f7 n.1;refine bX l.length 8 [] () (fun _=>[]) (fun _=>[(1000,.box 89 [.own 1001 0]),(1001,.box 93 [.sl (s.map aI),.mpr 1002,.mpr 1003]),(1002,.map D),(1003,.map O)]) (fun k _=>fidx q (l.drop k) k=fidx q l 0) rfl (ai rfl) trivial ⟨.inl ⟨_,rfl,.inl ⟨rfl,rfl⟩⟩,.inl ⟨_,rfl,.inl ⟨rfl,rfl⟩⟩,.inl ⟨_,rfl,.inl ⟨rfl,rfl⟩⟩,.inl ⟨_,rfl,.inl ⟨rfl,rfl⟩⟩,trivial⟩ (fun _=>rfl) (fun _=>rfl) ?_;rintro k _ p a _ _ _;refine ah (fun b=>?_) (fun c=>?_)
 ·have b:k<l.length:=by rw[d] at b;omega
  refine aX b fun x o f e=>?_;refine cL o ?_;refine callO [1000,1001,1002,1003] [1000,1001,1002,1003] (h x f) rfl rfl rfl rfl rfl fun _ _=>?_;refine aq (fun j=>?_) (fun j=>?_)
  ·exact bF [1000,1001,1002,1003] rfl rfl rfl (vv IC (qE e a j))
  ·refine Fit.aaf (by omega) (by omega) ?_;exact⟨(k+1,()),⟨b,uo e a j⟩,⟨bM,trivial⟩,⟨.inl ⟨_,rfl,.inl ⟨rfl,rfl⟩⟩,.inl ⟨_,rfl,.inl ⟨rfl,rfl⟩⟩,.inl ⟨_,rfl,.inl ⟨rfl,rfl⟩⟩,.inl ⟨_,rfl,.inl ⟨rfl,rfl⟩⟩,trivial⟩,bN b⟩
 ·have c:¬k<l.length:=by rw[d] at c;omega
  exact bF [1000,1001,1002,1003] rfl rfl rfl (vv IC (qF c a))
theorem Sq (s:List Ty) (D O:List (C×C)) (l:List Ty) (q:Ty->Bool) (h:∀x∈l,CallsT P 94 [aV x,.own 1000 0] [.box 89 [.own 1001 0],.box 93 [.sl (s.map aI),.mpr 1002,.mpr 1003],.map D,.map O] (aU [.box 89 [.own 1001 0],.box 93 [.sl (s.map aI),.mpr 1002,.mpr 1003],.map D,.map O] (.bool (q x)))) :
  CallsT P 49 [.sl (l.map aI),.fn 94 [] [.own 1000 0]] [.box 89 [.own 1001 0],.box 93 [.sl (s.map aI),.mpr 1002,.mpr 1003],.map D,.map O] (aU [.box 89 [.own 1001 0],.box 93 [.sl (s.map aI),.mpr 1002,.mpr 1003],.map D,.map O] (.bool (l.any q))):=by
 have a:=Sn s D O l q h;have e:=qG q l;generalize fidx q l 0=n at a e;refine af Try.func49 t9 rfl fun b _=>?_;refine callO [1000,1001,1002,1003] [1000,1001,1002,1003] a rfl rfl rfl rfl rfl fun _ _=>?_;exact bF [1000,1001,1002,1003] rfl rfl rfl (vv C.bool e)
theorem Ui (s:List Ty) (D O:List (C×C)) (x:Ty) (b:Bool) (h:CallsT P 59 [.own 1000 0,aV x] (SF s D O) (aU (SF s D O) (.bool b))) :
  CallsT P 94 [aV x,.own 1000 0] [.box 89 [.own 1001 0],.box 93 [.sl (s.map aI),.mpr 1002,.mpr 1003],.map D,.map O] (aU [.box 89 [.own 1001 0],.box 93 [.sl (s.map aI),.mpr 1002,.mpr 1003],.map D,.map O] (.bool (!b))):=by
 refine af Try.func94 CC rfl fun a _=>?_;refine callO [1001,1002,1003] [1001,1002,1003] h rfl rfl rfl rfl rfl fun _ _=>?_;exact bF [1000,1001,1002,1003] rfl rfl rfl rfl
theorem LI (s:List Ty) (D O:List (C×C)):∀t:Ty,CallsT P 59 [.own 1000 0,aV t] (SF s D O) (aU (SF s D O) (.bool (ins s.length t))):=dc fun t k=>by
 have h49:=Sq s D O t.args (fun x=>!ins s.length x) fun x j=>Ui s D O x _ (k x j);rw[CO];generalize(t.args.any fun x=>!ins s.length x)=b at h49 ⊢;have c:(s.map aI).length=s.length:=vz _;have f:(t.args.map aI).length=t.args.length:=vz _;refine af Try.func59 Cz rfl fun l _=>?_;refine ah (fun h1=>?_) (fun h1=>?_)
 ·exact bF [1000,1001,1002] rfl rfl rfl (vv C.bool (by rw[eu (Or.inl h1)]))
 refine ah (fun h=>?_) (fun h=>?_)
 ·exact bF [1000,1001,1002] rfl rfl rfl (vv C.bool (by rw[eu (Or.inr h)]))
 have h12:¬(t.kind<1\/9<t.kind):=fun q=>q.elim (fun q=>h1 q) (fun q=>h q);refine ah (fun a=>?_) (fun a=>?_)
 ·refine ah (fun e=>?_) (fun e=>?_)
  ·skip
   refine ah (fun d=>?_) (fun d=>?_)
   ·exact bF [1000,1001,1002] rfl rfl rfl (vv C.bool (by rw[fo h12,eu a,aaN (show(0:Int)<=t.id from e),aaN (show t.id<(s.length:Int) from by rw[c] at d;exact d),aaS,aaS];exact decide_eq_decide.2 (by rw[f];omega)))
   ·exact bF [1000,1001,1002] rfl rfl rfl (vv C.bool (by rw[fo h12,eu a,aaP (show¬t.id<(s.length:Int) from by rw[c] at d;exact d),abh,aaV]))
  ·exact bF [1000,1001,1002] rfl rfl rfl (vv C.bool (by rw[fo h12,eu a,aaP (show¬(0:Int)<=t.id from e),aaV,aaV]))
 refine callO [2,1000,1001,1002] [2,1000,1001,1002] h49 rfl rfl rfl rfl rfl fun _ _=>?_;exact bF [1000,1001,1002] rfl rfl rfl (vv C.bool (by rw[fo h12,fo a]))
theorem Sr (k n:Nat) (D O:List (C×C)) (l:List Ty) (q:Ty->Bool) (h:∀x∈l,CallsT P 94 [aV x,.own 1000 0] [.box 89 [.own 1001 0],.box 93 [.opq k,.mpr 1002,.mpr 1003],.map D,.map O] (aU [.box 89 [.own 1001 0],.box 93 [.opq k,.mpr 1002,.mpr 1003],.map D,.map O] (.bool (q x)))) :
  CallsT P 92 [.sl (l.map aI),.fn 94 [] [.own 1000 0]] [.box 89 [.own 1001 0],.box 93 [.opq k,.mpr 1002,.mpr 1003],.map D,.map O] (aU [.box 89 [.own 1001 0],.box 93 [.opq k,.mpr 1002,.mpr 1003],.map D,.map O] (IC (fidx q l 0))):=by
 have d:(l.map aI).length=l.length:=vz _;refine af Try.func92 ud rfl fun o _=>?_;have m:l.length<=9223372036854775807:=f7 o.1;refine bX l.length 8 [] () (fun _=>[]) (fun _=>[(1000,.box 89 [.own 1001 0]),(1001,.box 93 [.opq k,.mpr 1002,.mpr 1003]),(1002,.map D),(1003,.map O)]) (fun k _=>fidx q (l.drop k) k=fidx q l 0) rfl (ai rfl) trivial ⟨.inl ⟨_,rfl,.inl ⟨rfl,rfl⟩⟩,.inl ⟨_,rfl,.inl ⟨rfl,rfl⟩⟩,.inl ⟨_,rfl,.inl ⟨rfl,rfl⟩⟩,.inl ⟨_,rfl,.inl ⟨rfl,rfl⟩⟩,trivial⟩ (fun _=>rfl) (fun _=>rfl) ?_;rintro k _ r a _ _ _;refine ah (fun b=>?_) (fun c=>?_)
 ·have b:k<l.length:=by rw[d] at b;omega
  refine aX b fun x p f e=>?_;refine cL p ?_;refine callO [1000,1001,1002,1003] [1000,1001,1002,1003] (h x f) rfl rfl rfl rfl rfl fun _ _=>?_;refine aq (fun j=>?_) (fun j=>?_)
  ·exact bF [1000,1001,1002,1003] rfl rfl rfl (vv IC (qE e a j))
  ·refine Fit.aaf (by omega) (by omega) ?_;exact⟨(k+1,()),⟨b,uo e a j⟩,⟨bM,trivial⟩,⟨.inl ⟨_,rfl,.inl ⟨rfl,rfl⟩⟩,.inl ⟨_,rfl,.inl ⟨rfl,rfl⟩⟩,.inl ⟨_,rfl,.inl ⟨rfl,rfl⟩⟩,.inl ⟨_,rfl,.inl ⟨rfl,rfl⟩⟩,trivial⟩,bN b⟩
 ·have c:¬k<l.length:=by rw[d] at c;omega
  exact bF [1000,1001,1002,1003] rfl rfl rfl (vv IC (qF c a))
theorem Ss (k n:Nat) (D O:List (C×C)) (l:List Ty) (q:Ty->Bool) (h:∀x∈l,CallsT P 94 [aV x,.own 1000 0] [.box 89 [.own 1001 0],.box 93 [.opq k,.mpr 1002,.mpr 1003],.map D,.map O] (aU [.box 89 [.own 1001 0],.box 93 [.opq k,.mpr 1002,.mpr 1003],.map D,.map O] (.bool (q x)))) :
  CallsT P 49 [.sl (l.map aI),.fn 94 [] [.own 1000 0]] [.box 89 [.own 1001 0],.box 93 [.opq k,.mpr 1002,.mpr 1003],.map D,.map O] (aU [.box 89 [.own 1001 0],.box 93 [.opq k,.mpr 1002,.mpr 1003],.map D,.map O] (.bool (l.any q))):=by
 have a:=Sr k n D O l q h;have e:=qG q l;generalize fidx q l 0=n at a e;refine af Try.func49 t9 rfl fun b _=>?_;refine callO [1000,1001,1002,1003] [1000,1001,1002,1003] a rfl rfl rfl rfl rfl fun _ _=>?_;exact bF [1000,1001,1002,1003] rfl rfl rfl (vv C.bool e)
theorem Uj (k n:Nat) (D O:List (C×C)) (x:Ty) (b:Bool) (h:CallsT P 59 [.own 1000 0,aV x] (SO k D O) (aU (SO k D O) (.bool b))) :
  CallsT P 94 [aV x,.own 1000 0] [.box 89 [.own 1001 0],.box 93 [.opq k,.mpr 1002,.mpr 1003],.map D,.map O] (aU [.box 89 [.own 1001 0],.box 93 [.opq k,.mpr 1002,.mpr 1003],.map D,.map O] (.bool (!b))):=by
 refine af Try.func94 CC rfl fun a _=>?_;refine callO [1001,1002,1003] [1001,1002,1003] h rfl rfl rfl rfl rfl fun _ _=>?_;exact bF [1000,1001,1002,1003] rfl rfl rfl rfl
theorem Uk (k n:Nat) (D O:List (C×C)) (h:rX k=some n) (o:n<=9223372036854775807):∀t:Ty,CallsT P 59 [.own 1000 0,aV t] (SO k D O) (aU (SO k D O) (.bool (ins n t))):=dc fun t m=>by
 have h49:=Ss k n D O t.args (fun x=>!ins n x) fun x l=>Uj k n D O x _ (m x l);rw[CO];generalize(t.args.any fun x=>!ins n x)=b at h49 ⊢;have j:n=n:=rfl;have d:(t.args.map aI).length=t.args.length:=vz _;refine af Try.func59 Cz rfl fun p _=>?_;refine ah (fun h1=>?_) (fun h1=>?_)
 ·exact bF [1000,1001,1002] rfl rfl rfl (vv C.bool (by rw[eu (Or.inl h1)]))
 refine ah (fun e=>?_) (fun e=>?_)
 ·exact bF [1000,1001,1002] rfl rfl rfl (vv C.bool (by rw[eu (Or.inr e)]))
 have h12:¬(t.kind<1\/9<t.kind):=fun q=>q.elim (fun q=>h1 q) (fun q=>e q);refine ah (fun a=>?_) (fun a=>?_)
 ·refine ah (fun c=>?_) (fun c=>?_)
  ·skip
   refine Kj.mk ⟨n,h,o,?_⟩;refine ah (fun f=>?_) (fun f=>?_)
   ·exact bF [1000,1001,1002] rfl rfl rfl (vv C.bool (by rw[fo h12,eu a,aaN (show(0:Int)<=t.id from c),aaN (show t.id<(n:Int) from f),aaS,aaS];exact decide_eq_decide.2 (by rw[d];omega)))
   ·exact bF [1000,1001,1002] rfl rfl rfl (vv C.bool (by rw[fo h12,eu a,aaP (show¬t.id<(n:Int) from f),abh,aaV]))
  ·exact bF [1000,1001,1002] rfl rfl rfl (vv C.bool (by rw[fo h12,eu a,aaP (show¬(0:Int)<=t.id from c),aaV,aaV]))
 refine callO [2,1000,1001,1002] [2,1000,1001,1002] h49 rfl rfl rfl rfl rfl fun _ _=>?_;exact bF [1000,1001,1002] rfl rfl rfl (vv C.bool (by rw[fo h12,fo a]))
theorem LJ {s:List Ty}{i:Nat}{x:Ty}{K:List C->Prop}(a:s[i]?=some x) (h:K [IC x.kind]):Fm (s.map aI) i 0 1 K :=
 ⟨[IC x.kind,IC x.id,.sl (x.args.map aI)],by rw[aa4,a,abo,iJ],rfl,h⟩
theorem Px {s:List Ty}{i:Nat}{x:Ty}{K:List C->Prop}(a:s[i]?=some x) (h:K [IC x.kind,IC x.id,.sl (x.args.map aI)]):Fm (s.map aI) i 0 3 K :=
 ⟨[IC x.kind,IC x.id,.sl (x.args.map aI)],by rw[aa4,a,abo,iJ],rfl,h⟩
theorem yZ {s:List Ty}{z:Int}{x:Ty}{K:List C->Prop}(h0:0<=z) (a:s[z.toNat]?=some x) (h:K [IC x.kind,IC x.id,.sl (x.args.map aI)]):uY (s.map aI) z 3 K :=
 ⟨_,h0,by rw[aa4,a,abo,iJ],rfl,h⟩
theorem CP {s:List Ty}{z:Int}{x:Ty}(h0:0<=z) (a:s[z.toNat]?=some x):z<((s.map aI).length:Int):=by
 have:=(aaR.1 a).1;rw[vz];omega
theorem sO {s:List Ty}{n:Nat}{c r:Ty}(h:aQ s n c=some r):∃m,n=m+1/\((c.kind≠9/\r=c)\/(c.kind=9/\∃x,0<=c.id/\s[c.id.toNat]?=some x/\((x.kind=0/\r=c)\/(x.kind≠0/\aQ s m x=some r)))):=by
 cases n with
 | zero=>cases h
 | succ m =>
  refine⟨m,rfl,?_⟩;rw[aQ] at h
  by_cases a:c.kind=9
  ·rw[eu a] at h;refine .inr ⟨a,?_⟩;cases he:bW s c with
   | none=>rw[he] at h;cases h
   | some x =>
    rw[he] at h;obtain⟨d,b,_⟩:=bP he;refine⟨x,d,b,?_⟩
    by_cases h0:x.kind=0
    ·refine .inl ⟨h0,?_⟩;simp only[h0,eu] at h;injection h with h;exact h.symm
    ·refine .inr ⟨h0,?_⟩;simp only[h0,abQ] at h;exact h
  ·rw[fo a] at h;injection h with h
   exact .inl ⟨a,h.symm⟩
theorem Ho (s:List Ty) (n:Nat) (t r:Ty) (h:aQ s n t=some r):CallsT P 96 [.own 1000 0,aV t] (pL s) (aU (pL s) (aV r)):=by
 refine af Try.func96 GY rfl fun o _=>?_;refine AU.mk ⟨Nat×Ty,(n,t),fun x=>aQ s x.1 x.2=some r,[],fun _=>[],fun x=>[(3,.box 32 [IC x.2.kind,IC x.2.id,.sl (x.2.args.map aI)]),(4,.box 32 [IC 0,IC 0,.nils]),(1000,.box 93 [.rw 1001,.any,.any]),(1001,.row 32 3 (s.map aI))],fun x=>x.1,h,trivial,
  ⟨.inl ⟨_,rfl,.inl ⟨rfl,rfl⟩⟩,.inl ⟨_,rfl,.inl ⟨rfl,rfl⟩⟩,.inl ⟨_,rfl,.inl ⟨rfl,rfl⟩⟩,.inl ⟨_,rfl,.inl ⟨rfl,rfl⟩⟩,trivial⟩,fun _=>rfl,fun _=>rfl,?_⟩
 rintro⟨n,c⟩ a _ _;refine ul (sO a) fun m l=>?_;refine ah (fun k=>?_) (fun k=>?_)
 ·refine ul (l.2.resolve_left fun q=>q.1 k).2 fun x d=>?_;have h0:=d.1;have f:=d.2.1;refine BS.mk (by simpa using h0) (CP h0 f) ?_;refine LJ f ?_;refine aR (fun j=>?_) (fun j=>?_)
  ·have b:=d.2.2.resolve_left fun q=>j q.1;refine BS.mk (by simpa using h0) (CP h0 f) ?_;refine Px f ?_;exact⟨(m,x),b.2,trivial,⟨.inl ⟨_,rfl,.inl ⟨rfl,rfl⟩⟩,.inl ⟨_,rfl,.inl ⟨rfl,rfl⟩⟩,.inl ⟨_,rfl,.inl ⟨rfl,rfl⟩⟩,.inl ⟨_,rfl,.inl ⟨rfl,rfl⟩⟩,trivial⟩,by have e:n=m+1:=l.1;show m<n;omega⟩
  ·have b:=d.2.2.resolve_right fun q=>q.1 j;exact bF [1000,1001] rfl rfl rfl (by rw[b.2];rfl)
 ·have b:=l.2.resolve_right fun q=>k q.1;exact bF [1000,1001] rfl rfl rfl (by rw[b.2];rfl)
theorem Ul (s:List Ty) (n:Nat) (t r:Ty) (h:aQ s n t=some r):CallsT P 96 [.own 1000 0,aV t] (uQ s) (aU (uQ s) (aV r)):=by
 refine af Try.func96 GY rfl fun o _=>?_;refine AU.mk ⟨Nat×Ty,(n,t),fun x=>aQ s x.1 x.2=some r,[],fun _=>[],fun x=>[(3,.box 32 [IC x.2.kind,IC x.2.id,.sl (x.2.args.map aI)]),(4,.box 32 [IC 0,IC 0,.nils]),(1000,.box 93 [.sl (s.map aI),.any,.any])],fun x=>x.1,h,trivial,
  ⟨.inl ⟨_,rfl,.inl ⟨rfl,rfl⟩⟩,.inl ⟨_,rfl,.inl ⟨rfl,rfl⟩⟩,.inl ⟨_,rfl,.inl ⟨rfl,rfl⟩⟩,trivial⟩,fun _=>rfl,fun _=>rfl,?_⟩
 rintro⟨n,c⟩ a _ _;refine ul (sO a) fun m k=>?_;refine ah (fun j=>?_) (fun j=>?_)
 ·refine ul (k.2.resolve_left fun q=>q.1 j).2 fun x d=>?_;have h0:=d.1;have l:=d.2.1;refine yZ h0 l ?_;refine aR (fun f=>?_) (fun f=>?_)
  ·have b:=d.2.2.resolve_left fun q=>f q.1;refine yZ h0 l ?_;exact⟨(m,x),b.2,trivial,⟨.inl ⟨_,rfl,.inl ⟨rfl,rfl⟩⟩,.inl ⟨_,rfl,.inl ⟨rfl,rfl⟩⟩,.inl ⟨_,rfl,.inl ⟨rfl,rfl⟩⟩,trivial⟩,by have e:n=m+1:=k.1;show m<n;omega⟩
  ·have b:=d.2.2.resolve_right fun q=>q.1 f;exact bF [1000] rfl rfl rfl (by rw[b.2];rfl)
 ·have b:=k.2.resolve_right fun q=>j q.1;exact bF [1000] rfl rfl rfl (by rw[b.2];rfl)
theorem Um (s:List Ty) (v:Int) (l:List Ty) (q:Ty->Bool) (h:∀x∈l,CallsT P 113 [aV x,.own 1000 0,.pt [IC v] 0] [.box 89 [.own 1001 0],.box 93 [.rw 1002,.any,.any],.row 32 3 (s.map aI)] (aU [.box 89 [.own 1001 0],.box 93 [.rw 1002,.any,.any],.row 32 3 (s.map aI)] (.bool (q x)))) :
  CallsT P 92 [.sl (l.map aI),.fn 113 [] [.own 1000 0,.pt [IC v] 0]] [.box 89 [.own 1001 0],.box 93 [.rw 1002,.any,.any],.row 32 3 (s.map aI)] (aU [.box 89 [.own 1001 0],.box 93 [.rw 1002,.any,.any],.row 32 3 (s.map aI)] (IC (fidx q l 0))):=by
 have d:(l.map aI).length=l.length:=vz _;refine af Try.func92 ud rfl fun n _=>?_;have m:l.length<=9223372036854775807:=f7 n.1;refine bX l.length 8 [] () (fun _=>[]) (fun _=>[(1000,.box 89 [.own 1001 0]),(1001,.box 93 [.rw 1002,.any,.any]),(1002,.row 32 3 (s.map aI))]) (fun k _=>fidx q (l.drop k) k=fidx q l 0) rfl (ai rfl) trivial ⟨.inl ⟨_,rfl,.inl ⟨rfl,rfl⟩⟩,.inl ⟨_,rfl,.inl ⟨rfl,rfl⟩⟩,.inl ⟨_,rfl,.inl ⟨rfl,rfl⟩⟩,trivial⟩ (fun _=>rfl) (fun _=>rfl) ?_;rintro k _ p a _ _ _;refine ah (fun b=>?_) (fun c=>?_)
 ·have b:k<l.length:=by rw[d] at b;omega
  refine aX b fun x o f e=>?_;refine cL o ?_;refine callO [1000,1001,1002] [1000,1001,1002] (h x f) rfl rfl rfl rfl rfl fun _ _=>?_;refine aq (fun j=>?_) (fun j=>?_)
  ·exact bF [1000,1001,1002] rfl rfl rfl (vv IC (qE e a j))
  ·refine Fit.aaf (by omega) (by omega) ?_;exact⟨(k+1,()),⟨b,uo e a j⟩,⟨bM,trivial⟩,⟨.inl ⟨_,rfl,.inl ⟨rfl,rfl⟩⟩,.inl ⟨_,rfl,.inl ⟨rfl,rfl⟩⟩,.inl ⟨_,rfl,.inl ⟨rfl,rfl⟩⟩,trivial⟩,bN b⟩
 ·have c:¬k<l.length:=by rw[d] at c;omega
  exact bF [1000,1001,1002] rfl rfl rfl (vv IC (qF c a))
theorem Un (s:List Ty) (v:Int) (l:List Ty) (q:Ty->Bool) (h:∀x∈l,CallsT P 113 [aV x,.own 1000 0,.pt [IC v] 0] [.box 89 [.own 1001 0],.box 93 [.rw 1002,.any,.any],.row 32 3 (s.map aI)] (aU [.box 89 [.own 1001 0],.box 93 [.rw 1002,.any,.any],.row 32 3 (s.map aI)] (.bool (q x)))) :
  CallsT P 49 [.sl (l.map aI),.fn 113 [] [.own 1000 0,.pt [IC v] 0]] [.box 89 [.own 1001 0],.box 93 [.rw 1002,.any,.any],.row 32 3 (s.map aI)] (aU [.box 89 [.own 1001 0],.box 93 [.rw 1002,.any,.any],.row 32 3 (s.map aI)] (.bool (l.any q))):=by
 have a:=Um s v l q h;have e:=qG q l;generalize fidx q l 0=n at a e;refine af Try.func49 t9 rfl fun b _=>?_;refine callO [1000,1001,1002] [1000,1001,1002] a rfl rfl rfl rfl rfl fun _ _=>?_;exact bF [1000,1001,1002] rfl rfl rfl (vv C.bool e)
theorem rD {f:Ty->Option Bool}:∀{l:List Ty}{b:Bool},wF f l=some b->(∀x∈l,f x=some ((f x).getD false))/\l.any (fun x=>(f x).getD false)=b
 | [],b,h=>by
  rw[wF] at h;injection h with h
  exact⟨by simp,by rw[<-h];rfl⟩
 | x::l,b,h=>by
  rw[wF] at h;cases c:f x with
  | none=>rw[c] at h;cases h
  | some a =>
   rw[c] at h;cases e:wF f l with
   | none=>rw[e] at h;cases h
   | some j =>
    rw[e] at h;injection h with h
    obtain⟨i1,i2⟩:=rD e;refine⟨fun y d=>?_,?_⟩
    ·rcases aaT.1 d with rfl | d
     ·rw[c];rfl
     ·exact i1 y d
    ·rw[abE,i2,c];exact h
theorem W5 (s:List Ty) (v:Int) (x:Ty) (b:Bool) (h:CallsT P 97 [.own 1000 0,IC v,aV x] (pL s) (aU (pL s) (.bool b))) :
  CallsT P 113 [aV x,.own 1000 0,.pt [IC v] 0] [.box 89 [.own 1001 0],.box 93 [.rw 1002,.any,.any],.row 32 3 (s.map aI)] (aU [.box 89 [.own 1001 0],.box 93 [.rw 1002,.any,.any],.row 32 3 (s.map aI)] (.bool b)):=by
 refine af Try.func113 Ll rfl fun a _=>?_;refine callO [1001,1002] [1001,1002] h rfl rfl rfl rfl rfl fun _ _=>?_;exact bF [1000,1001,1002] rfl rfl rfl rfl
theorem W6 (s:List Ty) (v:Int) (t r:Ty) (h:CallsT P 96 [.own 1000 0,aV t] (pL s) (aU (pL s) (aV r))) (a:r.kind=9) :
  CallsT P 97 [.own 1000 0,IC v,aV t] (pL s) (aU (pL s) (.bool (decide (r.id=v)))):=by
 refine af Try.func97 GZ rfl fun b _=>?_;refine callO [1000,1001] [1000,1001] h rfl rfl rfl rfl rfl fun _ _=>?_;refine ah (fun _=>?_) (fun q=>fL a q);exact bF [1000,1001] rfl rfl rfl rfl
theorem W7 (s:List Ty) (v:Int) (t r:Ty) (b:Bool) (h:CallsT P 96 [.own 1000 0,aV t] (pL s) (aU (pL s) (aV r))) (a:¬r.kind=9)
  (h49:CallsT P 49 [.sl (r.args.map aI),.fn 113 [] [.own 1000 0,.pt [IC v] 0]] [.box 89 [.own 1001 0],.box 93 [.rw 1002,.any,.any],.row 32 3 (s.map aI)] (aU [.box 89 [.own 1001 0],.box 93 [.rw 1002,.any,.any],.row 32 3 (s.map aI)] (.bool b))) :
  CallsT P 97 [.own 1000 0,IC v,aV t] (pL s) (aU (pL s) (.bool b)):=by
 refine af Try.func97 GZ rfl fun c _=>?_;refine callO [1000,1001] [1000,1001] h rfl rfl rfl rfl rfl fun _ _=>?_;refine ah (fun q=>fL q a) (fun _=>?_);refine callO [3,1000,1001] [3,1000,1001] h49 rfl rfl rfl rfl rfl fun _ _=>?_;exact bF [1000,1001] rfl rfl rfl rfl
theorem YN (s:List Ty) (v:Int):∀(n:Nat) (t:Ty) (b:Bool),lm s v n t=some b->CallsT P 97 [.own 1000 0,IC v,aV t] (pL s) (aU (pL s) (.bool b))
 | 0,t,b,h=>by cases h
 | n+1,t,b,h=>by
  rw[lm] at h;cases hf:aQ s n t with
  | none=>rw[hf] at h;cases h
  | some r =>
   simp only[hf] at h
   by_cases a:r.kind=9
   ·rw[eu a] at h;injection h with h
    rw[<-h];exact W6 s v t r (Ho s n t r hf) a
   ·rw[fo a] at h;obtain⟨h1,d⟩:=rD h;have h49:=Un s v r.args (fun x=>(lm s v n x).getD false) fun x c=>W5 s v x _ (YN s v n x _ (h1 x c));rw[d] at h49;exact W7 s v t r b (Ho s n t r hf) a h49
section
variable {P:Program}{L:TL}{ρ:aM}
theorem pU {R:List TO->C->Prop}(ko:List Nat) {Lin Mo Lo:List TO}{v x:C}(b:L.sub ko=some Mo) (a:(T.aS ko&&aK Lin (List.range' 1000 Lin.length) ko)=true) (c:Mo.map (TO.aad (C.ren (bB ko 1000)))=Lo) (e:v.aat.ren (bB ko 1000)=x) (h:R Lo x):gD Lin L v R:=by
 simp only[v5] at a;exact⟨[],ko,L,v,v,Mo,rfl,.inl ⟨rfl,rfl⟩,b,a.1,a.2,fun _=>by rw[c,e];exact h⟩
theorem oH.imp {P:Program}{f:FuncId}{args:Array Value}{F:aA}{Lin:List Own}{R R':aA->List Own->Value->Prop}{Pp Pp':Value->Prop}(h:oH P f args F Lin R Pp)
  (o:∀F G L v,F.le G->R' F L v->R' G L v) (j:∀F L v,R F L v->R' F L v) (m:∀v,Pp v->Pp' v):oH P f args F Lin R' Pp' :=
 ⟨h.ent,o,fun w d=>(h.run w d).mono fun e w' k=>by
  rcases k with⟨v,F',Lo,h1,c,b,a⟩ | ⟨v,q,F',Lo,h1,l,c,b,a,p,n⟩
  ·exact .inl ⟨v,F',Lo,h1,c,b,j _ _ _ a⟩
  ·exact .inr ⟨v,q,F',Lo,h1,l,c,b,a,p,m v n⟩⟩
theorem CallsTX.imp {P:Program}{f:Nat}{args:List C}{Lin:List TO}{R R':List TO->C->Prop}{Pp Pp':Value->Prop}(h:CallsTX P f args Lin R Pp)
  (d:∀Mo c,R Mo c->R' Mo c) (l:∀v,Pp v->Pp' v):CallsTX P f args Lin R' Pp' :=
 ⟨fun F Li j h1 n b=>oH.imp (h.out F Li j h1 n b) gP.aao (fun F L v ⟨Mo,c,e,k,a,m,o⟩=>⟨Mo,c,e,k,a,m,d _ _ o⟩) l⟩
theorem i9 (ks:List Nat) {PS:nU}{Pp:Value->Prop}{d:List Nat}{f:Nat}{args a:List C}{K:TL->aM->C->Prop}{x:C}{Lin Lin' Lo:List TO}(h:CallsTX P f a Lin' (aU Lo x) Pp) (p:L.sub ks=some Lin)
  (e:(T.aS ks&&qu ks d&&aK Lin ks ks&&jJ L ks PS.hb)=true) (t:(args.map fun c=>c.aaj.ren (bB ks 1000))=a) (l:Lin.map (TO.aad (C.ren (bB ks 1000)))=Lin') (u:ks.length=Lo.length) (s:∀v,Pp v->PS.ps v)
  (k:Wf x->(∀o∈Lo,o.Wf)->K (((L.aae ks).kills (rowsOf L ks)).puts ks (Lo.map (TO.aad (C.ren (aJ ks))))) (dF (rowsOf L ks) ρ) (x.ren (aJ ks)).slt):oV P PS d f args L ρ K:=by
 subst t l;simp only[v5] at e;obtain⟨⟨⟨j,m⟩,c3⟩,c4⟩:=e;exact⟨ks,Lin,_,_,p,j,m,c3,c4,h,s,fun v Mo ⟨q,n⟩ r b=>by subst q n;exact⟨u,k r b⟩⟩
end
theorem Bp {els:List (List C)}{j off n:Nat}{a:List C}{K:List C->Prop}(h:els[j]?=some a) (b:fq ((a.drop off).take n) n=true) (k:K a):Fm els j off n fun _=>∀es,els[j]?=some es->K es :=
 ⟨a,h,b,fun es he=>by rw[h] at he;injection he with he;rw[<-he];exact k⟩
theorem LK {s:List Ty}{j:Nat}{t:Ty}:(s.map aI).set j [IC t.kind,IC t.id,.sl (t.args.map aI)]=(s.set j t).map aI:=by
 rw[List.map_set,iJ]
theorem Hp {s:List Ty}{i:Nat}{x:Ty}(a:s[i]?=some x):(s.map aI)[i]?=some [IC x.kind,IC x.id,.sl (x.args.map aI)]:=by rw[aa4,a,abo,iJ]
def cH (e:Int):Value:=.iface 98 (.agg #[.int .i64 e])
abbrev uw (s:List Ty) (t r:Ty):Prop:=CallsT P 96 [.own 1000 0,aV t] (pL s) (aU (pL s) (aV r))
abbrev sP (s:List Ty) (a b:Ty) (R:List TO->C->Prop) (Pp:Value->Prop):Prop:=CallsTX P 63 [.own 1000 0,aV a,aV b] (pL s) R Pp
theorem LL (s:List Ty) (a b a' c:Ty) (f:uw s a a') (hb:uw s b c) (h1:a'.kind=9) (e:c.kind=9) (d:a'.id=c.id):sP s a b (aU (pL s) (.tup [])) (fun _=>False):=by
 refine bf Try.func63 pq rfl fun j _=>?_;refine i9 [1000,1001] f.toX rfl rfl rfl rfl rfl (fun _ h=>h) fun _ _=>?_;refine i9 [1000,1001] hb.toX rfl rfl rfl rfl rfl (fun _ h=>h) fun _ _=>?_;refine ah (fun _=>?_) (fun q=>fL h1 q);refine ah (fun _=>?_) (fun q=>fL e q);refine aR (fun q=>fL d q) (fun _=>?_);exact bF [1000,1001] rfl rfl rfl rfl
def RE (r:Option (List Ty)):List TO->C->Prop:=fun Mo v=>∃s',r=some s'/\Mo=pL s'/\v=.tup []
def PE (r:Option (List Ty)):Value->Prop:=fun v=>r=none/\v=cH 8
section
variable {L:TL}{ρ:aM}
theorem QY (ks:List Nat) {PS:nU}{args a:List C}{K:TL->aM->C->Prop}{s:List Ty}{r:Option (List Ty)}{Lin:List TO}(h:CallsTX P 63 a (pL s) (RE r) (PE r)) (l:L.sub ks=some Lin)
  (d:(T.aS ks&&T.jI L ks ks&&aK Lin ks ks&&jJ L ks PS.hb)=true) (o:(args.map fun c=>c.aaj.ren (bB ks 1000))=a) (f:Lin.map (TO.aad (C.ren (bB ks 1000)))=pL s) (p:ks.length=2) (n:∀v,PE r v->PS.ps v)
  (k:∀s',r=some s'->K (((L.aae ks).kills (rowsOf L ks)).puts ks ((pL s').map (TO.aad (C.ren (aJ ks))))) (dF (rowsOf L ks) ρ) (.tup [])):lq P PS 63 args L ρ K:=by
 subst o;simp only[v5] at d;obtain⟨⟨⟨b,j⟩,c3⟩,c4⟩:=d;refine⟨[],ks,ks,L,Lin,_,_,.inl rfl,l,b,b,j,c3,c4,by rw[f];exact h,n,?_⟩;rintro v Mo ⟨s',m,rfl,rfl⟩ q e;exact⟨p,k s' m⟩
theorem Sv (ks:List Nat) {PS:nU}{b:List Nat}{args a:List C}{K:TL->aM->C->Prop}{s:List Ty}{r:Option (List Ty)}{Lin:List TO}(h:CallsTX P 63 a (pL s) (RE r) (PE r)) (m:L.sub ks=some Lin)
  (d:(T.aS ks&&qu ks b&&aK Lin ks ks&&jJ L ks PS.hb)=true) (p:(args.map fun c=>c.aaj.ren (bB ks 1000))=a) (j:Lin.map (TO.aad (C.ren (bB ks 1000)))=pL s) (q:ks.length=2) (o:∀v,PE r v->PS.ps v)
  (k:∀s',r=some s'->K (((L.aae ks).kills (rowsOf L ks)).puts ks ((pL s').map (TO.aad (C.ren (aJ ks))))) (dF (rowsOf L ks) ρ) (.tup [])):oV P PS b 63 args L ρ K:=by
 subst p;simp only[v5] at d;obtain⟨⟨⟨e,l⟩,c3⟩,c4⟩:=d;refine⟨ks,Lin,_,_,m,e,l,c3,c4,by rw[j];exact h,o,?_⟩;rintro v Mo ⟨s',n,rfl,rfl⟩ t f;exact⟨q,k s' n⟩
end
theorem FR {a b:Int}(h:Wf (IC a)) (k:Wf (IC b)):Wf (IC (if b>a then b else a)):=by split<;>assumption
theorem Sw {a b:Int}(h:Wf (IC a)) (k:Wf (IC b)):Wf (IC (if b<a then b else a)):=by split<;>assumption
theorem mmV (h:True) (a b:Int):(if b>a then b else a)=max a b:=by split<;>omega
theorem mmN (h:True) (a b:Int):(if b<a then b else a)=min a b:=by split<;>omega
theorem Bq (s:List Ty) (a b a' d x:Ty) (u:uw s a a') (hb:uw s b d) (h1:a'.kind=9) (r:d.kind=9) (p:¬a'.id=d.id) (h0:0<=max a'.id d.id) (o:s[(max a'.id d.id).toNat]?=some x) :
  sP s a b (aU (pL (s.set (max a'.id d.id).toNat (.mk 9 (min a'.id d.id) []))) (.tup [])) (fun _=>False):=by
 have n:=mmV trivial a'.id d.id;have m:=mmN trivial a'.id d.id;have c:=LK (s:=s) (j:=(max a'.id d.id).toNat) (t:=.mk 9 (min a'.id d.id) []);have f:=Hp o;have e:=CP h0 o;generalize s.set (max a'.id d.id).toNat (.mk 9 (min a'.id d.id) [])=s' at c ⊢;rw[<-n] at c f h0 e;rw[<-m] at c;refine bf Try.func63 pq rfl fun v _=>?_;refine i9 [1000,1001] u.toX rfl rfl rfl rfl rfl (fun _ h=>h) fun l _=>?_;refine i9 [1000,1001] hb.toX rfl rfl rfl rfl rfl (fun _ h=>h) fun k _=>?_;refine ah (fun _=>?_) (fun q=>fL h1 q);refine ah (fun _=>?_) (fun q=>fL r q);refine aR (fun _=>?_) (fun q=>fL q p);refine⟨?_,⟨?_,?_⟩⟩
 ·exact FR l.2.1 k.2.1
 ·exact Sw l.2.1 k.2.1
 refine BS.mk h0 e ?_;refine⟨rfl,Bp f rfl ?_⟩;exact bF [1000,1001] rfl rfl (vv (fun q=>[TO.box 93 [.rw 1001,.any,.any],.row 32 3 q]) c) rfl
theorem Py (s:List Ty) (a b a' c:Ty) (e:uw s a a') (hb:uw s b c) (h1:a'.kind=9) (d:¬c.kind=9) (f:CallsT P 97 [.own 1000 0,IC a'.id,aV c] (pL s) (aU (pL s) (.bool true))) :
  sP s a b (fun _ _=>False) (PE none):=by
 refine bf Try.func63 pq rfl fun j _=>?_;refine i9 (Pp:=fun _=>False) [1000,1001] e.toX rfl rfl rfl rfl rfl (fun _ h=>False.elim h) fun _ _=>?_;refine i9 (Pp:=fun _=>False) [1000,1001] hb.toX rfl rfl rfl rfl rfl (fun _ h=>False.elim h) fun _ _=>?_;refine ah (fun _=>?_) (fun q=>fL h1 q);refine ah (fun q=>fL q d) (fun _=>?_);refine ah (fun _=>?_) (fun q=>fL h1 q);refine callO [1000,1001] [1000,1001] f rfl rfl rfl rfl rfl fun _ _=>?_;exact pO rfl ⟨rfl,rfl⟩
theorem LN (s:List Ty) (a b a' d x:Ty) (n:uw s a a') (hb:uw s b d) (h1:a'.kind=9) (m:¬d.kind=9) (l:CallsT P 97 [.own 1000 0,IC a'.id,aV d] (pL s) (aU (pL s) (.bool false)))
  (h0:0<=a'.id) (k:s[a'.id.toNat]?=some x):sP s a b (aU (pL (s.set a'.id.toNat d)) (.tup [])) (fun _=>False):=by
 have c:=LK (s:=s) (j:=a'.id.toNat) (t:=d);have f:=Hp k;have e:=CP h0 k;generalize s.set a'.id.toNat d=s' at c ⊢;refine bf Try.func63 pq rfl fun o _=>?_;refine i9 [1000,1001] n.toX rfl rfl rfl rfl rfl (fun _ h=>h) fun _ _=>?_;refine i9 [1000,1001] hb.toX rfl rfl rfl rfl rfl (fun _ h=>h) fun _ _=>?_;refine ah (fun _=>?_) (fun q=>fL h1 q);refine ah (fun q=>fL q m) (fun _=>?_);refine ah (fun _=>?_) (fun q=>fL h1 q);refine callO [1000,1001] [1000,1001] l rfl rfl rfl rfl rfl fun _ _=>?_;refine BS.mk h0 e ?_;refine⟨rfl,Bp f rfl ?_⟩;exact bF [1000,1001] rfl rfl (vv (fun q=>[TO.box 93 [.rw 1001,.any,.any],.row 32 3 q]) c) rfl
theorem LP (s:List Ty) (a b a' c:Ty) (r:Option (List Ty)) (f:uw s a a') (hb:uw s b c) (h1:¬a'.kind=9) (d:c.kind=9) (j:sP s c a' (RE r) (PE r)):sP s a b (RE r) (PE r):=by
 refine bf Try.func63 pq rfl fun k _=>?_;refine i9 (Pp:=fun _=>False) [1000,1001] f.toX rfl rfl rfl rfl rfl (fun _ h=>False.elim h) fun _ _=>?_;refine i9 (Pp:=fun _=>False) [1000,1001] hb.toX rfl rfl rfl rfl rfl (fun _ h=>False.elim h) fun _ _=>?_;refine ah (fun q=>fL q h1) (fun _=>?_);refine ah (fun q=>fL q h1) (fun _=>?_);refine ah (fun _=>?_) (fun q=>fL d q);refine QY [1000,1001] j rfl rfl rfl rfl rfl (fun _ h=>h) fun s' e=>?_;exact pU [1000,1001] rfl rfl rfl rfl ⟨s',e,rfl,rfl⟩
theorem LQ (s:List Ty) (a b a' c:Ty) (m:uw s a a') (hb:uw s b c) (h1:¬a'.kind=9) (l:¬c.kind=9) (k:a'.kind≠c.kind\/a'.id≠c.id\/a'.args.length≠c.args.length):sP s a b (fun _ _=>False) (PE none):=by
 have e:(a'.args.map aI).length=a'.args.length:=vz _;have d:(c.args.map aI).length=c.args.length:=vz _;refine bf Try.func63 pq rfl fun o _=>?_;refine i9 (Pp:=fun _=>False) [1000,1001] m.toX rfl rfl rfl rfl rfl (fun _ h=>False.elim h) fun _ _=>?_;refine i9 (Pp:=fun _=>False) [1000,1001] hb.toX rfl rfl rfl rfl rfl (fun _ h=>False.elim h) fun _ _=>?_;refine ah (fun q=>fL q h1) (fun _=>?_);refine ah (fun q=>fL q h1) (fun _=>?_);refine ah (fun q=>fL q l) (fun _=>?_);refine aR (fun j=>?_) (fun j=>?_)
 ·exact pO rfl ⟨rfl,rfl⟩
 refine aR (fun n=>?_) (fun n=>?_)
 ·exact pO rfl ⟨rfl,rfl⟩
 refine aR (fun f=>?_) (fun f=>fL k (by rw[e,d] at f;omega));exact pO rfl ⟨rfl,rfl⟩
theorem I6 {f:List Ty->Ty->Ty->Option (Option (List Ty))}{s:List Ty}{x y:Ty}{l b:List Ty}{r:Option (List Ty)}(h:kH f s (x::l) (y::b)=some r):∃a,f s x y=some a/\(a=none->r=none)/\∀s',a=some s'->kH f s' l b=some r:=by
 rw[kH] at h;cases hf:f s x y with
 | none=>simp only[hf] at h;cases h
 | some a =>
  refine⟨a,rfl,?_,?_⟩
  ·rintro rfl;simp only[hf] at h;injection h with h;exact h.symm
  ·rintro s' rfl;simp only[hf] at h;exact h
theorem LR (s:List Ty) (a b a' d:Ty) (ha:uw s a a') (hb:uw s b d) (h1:¬a'.kind=9) (h2:¬d.kind=9) (z:¬(a'.kind≠d.kind\/a'.id≠d.id\/a'.args.length≠d.args.length))
  (f:List Ty->Ty->Ty->Option (Option (List Ty))) (ih:∀s x y r,f s x y=some r->sP s x y (RE r) (PE r)) (r:Option (List Ty)) (hr:kH f s a'.args d.args=some r):sP s a b (RE r) (PE r):=by
 have m:(a'.args.map aI).length=a'.args.length:=vz _;have o:(d.args.map aI).length=d.args.length:=vz _;have ad:a'.args.length=d.args.length:=by omega
 refine bf Try.func63 pq rfl fun hw _=>?_;refine i9 (Pp:=fun _=>False) [1000,1001] ha.toX rfl rfl rfl rfl rfl (fun _ h=>False.elim h) fun u _=>?_;refine i9 (Pp:=fun _=>False) [1000,1001] hb.toX rfl rfl rfl rfl rfl (fun _ h=>False.elim h) fun aw _=>?_;have aa:a'.args.length<=9223372036854775807:=f7 u.2.2.1;refine ah (fun q=>fL q h1) (fun _=>?_);refine ah (fun q=>fL q h1) (fun _=>?_);refine ah (fun q=>fL q h2) (fun _=>?_);refine aR (fun w=>fL (Or.inl w) z) (fun w=>?_);refine aR (fun h5=>fL (Or.inr (Or.inl h5)) z) (fun h5=>?_);refine aR (fun h6=>fL (by rw[m,o];omega) h6) (fun h6=>?_);refine bX a'.args.length 39 [] s (fun _=>[]) (fun s=>[(4,.box 32 [IC a'.kind,IC a'.id,.sl (a'.args.map aI)]),(5,.box 32 [IC d.kind,IC d.id,.sl (d.args.map aI)]),(1000,.box 93 [.rw 1001,.any,.any]),(1001,.row 32 3 (s.map aI))]) (fun k s=>kH f s (a'.args.drop k) (d.args.drop k)=some r) hr (ai rfl) trivial
  ⟨.inl ⟨_,rfl,.inl ⟨rfl,rfl⟩⟩,.inl ⟨_,rfl,.inl ⟨rfl,rfl⟩⟩,.inl ⟨_,rfl,.inl ⟨rfl,rfl⟩⟩,.inl ⟨_,rfl,.inl ⟨rfl,rfl⟩⟩,trivial⟩ (fun _=>rfl) (fun _=>rfl) ?_
 rintro k s hk c _ _ _;refine ah (fun j=>?_) (fun n=>?_)
 ·have j:k<a'.args.length:=by rw[m] at j;omega
  refine aX j fun x hx ae t=>?_;refine aX (l:=d.args) (k:=k) (by omega) fun y hy _ p=>?_;have c:=c;rw[t,p] at c;refine ul (I6 c) fun r1 h1=>?_;refine cL hx ?_;refine cL hy ?_;refine Sv [1000,1001] (ih s x y r1 h1.1) rfl rfl rfl rfl rfl (fun v q=>⟨h1.2.1 q.1,q.2⟩) fun s' e=>?_;refine Fit.aaf (by omega) (by omega) ?_;exact⟨(k+1,s'),⟨j,h1.2.2 s' e⟩,⟨bM,trivial⟩,⟨.inl ⟨_,rfl,.inl ⟨rfl,rfl⟩⟩,.inl ⟨_,rfl,.inl ⟨rfl,rfl⟩⟩,.inl ⟨_,rfl,.inl ⟨rfl,rfl⟩⟩,.inl ⟨_,rfl,.inl ⟨rfl,rfl⟩⟩,trivial⟩,bN j⟩
 ·have n:¬k<a'.args.length:=by rw[m] at n;omega
  have c:=c;rw[bQ n,kH] at c;exact pU [1000,1001] rfl rfl rfl rfl ⟨s,(abr c).symm,rfl,rfl⟩
theorem rE {s:List Ty}:∀{n:Nat}{t r:Ty},aQ s n t=some r->r.kind=9->∃x,0<=r.id/\s[r.id.toNat]?=some x/\x.kind=0
 | 0,t,r,h,_=>by cases h
 | n+1,t,r,h,a=>by
  obtain⟨m,e,h⟩:=sO h;injection e with e
  subst e;rcases h with⟨h1,rfl⟩ | ⟨h1,x,f,d,j⟩
  ·exact fL a h1
  ·rcases j with⟨b,rfl⟩ | ⟨b,c⟩
   ·exact⟨x,f,d,b⟩
   ·exact rE c a
theorem LS {s:List Ty}{a b:Ty}{s':List Ty}(h:sP s a b (aU (pL s') (.tup [])) (fun _=>False)):sP s a b (RE (some s')) (PE (some s')) :=
 CallsTX.imp h (fun Mo v ⟨d,c⟩=>⟨s',rfl,d,c⟩) fun v q=>q.elim
theorem QZ {s:List Ty}{a b:Ty}(h:sP s a b (fun _ _=>False) (PE none)):sP s a b (RE none) (PE none) :=
 CallsTX.imp h (fun Mo v q=>q.elim) fun v q=>q
theorem W8:∀(n:Nat) (s:List Ty) (a b:Ty) (r:Option (List Ty)),lQ n s a b=some r->sP s a b (RE r) (PE r)
 | 0,s,a,b,r,h=>by cases h
 | n+1,s,a,b,r,h=>by
  rw[lQ] at h;cases l:aQ s n a with
  | none=>simp only[l] at h;cases h
  | some a' =>
   cases hb:aQ s n b with
   | none=>simp only[l,hb] at h;cases h
   | some c =>
    simp only[l,hb] at h;have j:=Ho s n a a' l;have k:=Ho s n b c hb
    by_cases h1:a'.kind=9
    ·by_cases d:c.kind=9
     ·rw[eu ⟨h1,d⟩] at h
      by_cases f:a'.id=c.id
      ·rw[eu f] at h;injection h with h
       subst h;exact LS (LL s a b a' c j k h1 d f)
      ·rw[fo f] at h;injection h with h
       subst h;obtain⟨x,m,u,_⟩:=rE l h1;obtain⟨y,z,w,_⟩:=rE hb d;refine LS ?_;rcases Int.le_total a'.id c.id with t | t
       ·have e:max a'.id c.id=c.id:=by omega
        exact Bq s a b a' c y j k h1 d f (by omega) (by rw[e];exact w)
       ·have e:max a'.id c.id=a'.id:=by omega
        exact Bq s a b a' c x j k h1 d f (by omega) (by rw[e];exact u)
     ·rw[fo (fun q=>d q.2),eu h1] at h;obtain⟨x,m,u,_⟩:=rE l h1;cases p:lm s a'.id n c with
      | none=>simp only[p] at h;cases h
      | some o =>
       have v:=YN s a'.id n c o p;cases o
       ·simp only[p] at h;injection h with h
        subst h;exact LS (LN s a b a' c x j k h1 d v m u)
       ·simp only[p] at h;injection h with h
        subst h;exact QZ (Py s a b a' c j k h1 d v)
    ·rw[fo (fun q=>h1 q.1),fo h1] at h
     by_cases d:c.kind=9
     ·rw[eu d] at h;exact LP s a b a' c r j k h1 d (W8 n s c a' r h)
     ·rw[fo d] at h
      by_cases f:a'.kind≠c.kind\/a'.id≠c.id\/a'.args.length≠c.args.length
      ·rw[eu f] at h;injection h with h
       subst h;exact QZ (LQ s a b a' c j k h1 d f)
      ·rw[fo f] at h;exact LR s a b a' c j k h1 d f (lQ n) (fun s x y r q=>W8 n s x y r q) r h
theorem sz3 (l:List Ty):∀es∈l.map aI,es.length=3:=by
 intro es h;obtain⟨t,_,rfl⟩:=abq.1 h;rw[iJ];rfl
theorem t61 (l:List Ty) (e:l.length<=2 ^ 30):CallsT P 61 [.sl (l.map aI)] [] (aU [.row 32 3 (l.map aI)] (.rw 1000)):=by
 cases l with
 | nil =>
  refine af Try.func61 GV rfl fun f _=>?_;intro b hb;refine aq (fun h=>?_) (fun h=>?_)
  ·exact V8 5 32 3 rfl rfl
  ·refine wz.mk (fun es he=>by cases he) (show 0+0<=maxLen from aa8 _) (show(0+0)*40<=_ from aa8 _) ?_;exact bF [5] rfl rfl rfl rfl
 | cons x l =>
  have c:(x::l).map aI≠[]:=by simp
  have a:=sz3 (x::l);have d:((x::l).map aI).length<=2 ^ 30:=by rw[vz];exact e
  generalize(x::l).map aI=els at c a d ⊢;refine af Try.func61 GV rfl fun f _=>?_;intro b hb;refine aq (fun h=>fL (hb c) (fun q=>by rw[show b=true from h] at q;cases q)) (fun h=>?_);refine wz.mk a ?_ ?_ ?_
  ·show 0+els.length<=maxLen;simp only[maxLen];omega
  ·show(0+els.length)*40<=_;omega
  ·exact bF [5] rfl rfl rfl rfl
theorem Br {k:IntKind}{n m:Int}{K:Int->Prop}(h:k.wrap n=m) (a:K m):Fit k n K:=⟨by rw[h];exact a⟩
theorem Q0 {i:Int}{o:OM}{Y:C->Prop}{N:Prop}(h:br o i=none\/br o i=some false) (k1:Y (.bool false)) (a:N):xZ false (jl C.bool o) (IC i) Y N:=by
 rcases h with h | h
 ·exact yY h a
 ·exact yX h k1
def PD (r:Option (Int×DM×OM)):Value->Prop:=fun v=>r=none/\v=cH 1
theorem pB {f:Ty->DM->OM->Option (Option (Int×DM×OM))}{x:Ty}{l:List Ty}{k:Int}{d:DM}{o:OM}{r:Option (Int×DM×OM)}(h:eH f (x::l) k d o=some r) :
  ∃a,f x d o=some a/\(a=none->r=none)/\∀b c o',a=some (b,c,o')->eH f l (if b>k then b else k) c o'=some r:=by
 rw[eH] at h;cases hf:f x d o with
 | none=>simp only[hf] at h;cases h
 | some a =>
  refine⟨a,rfl,?_,?_⟩
  ·rintro rfl;simp only[hf] at h;injection h with h;exact h.symm
  ·rintro b c o' rfl;simp only[hf] at h;exact h
theorem Bs {s:List Ty}{n:Nat}{t:Ty}{d:DM}{o:OM}{r:Option (Int×DM×OM)}(h:bI s (n+1) t d o=some r) :
  ∃x,(if t.kind=9 then bW s t else some (.mk 0 0 []))=some x /\
   (¬x.kind=0->(∃k,br d t.id=some k/\r=some (k,d,o))\/(br d t.id=none/\br o t.id=some true/\r=none) \/
    (br d t.id=none/\(br o t.id=none\/br o t.id=some false)/\∃a,bI s n x d (eI o t.id true)=some a/\(a=none->r=none)/\∀k c o',a=some (k,c,o')->r=some (k,eI c t.id k,o'))) /\
   (x.kind=0->∃a,eH (bI s n) t.args 0 d o=some a/\(a=none->r=none)/\∀k c o',a=some (k,c,o')->r=some (zR (k+1),c,o')):=by
 rw[bI] at h;split at h
 ·cases h
 rename_i x he;refine⟨x,he,fun j=>?_,fun j=>?_⟩
 ·rw[eu j] at h;split at h
  ·rename_i k f;injection h with h
   exact .inl ⟨k,f,h.symm⟩
  ·rename_i f;split at h
   ·rename_i l;injection h with h
    exact .inr (.inl ⟨f,l,h.symm⟩)
   ·rename_i l;have m:br o t.id=none\/br o t.id=some false:=by
     cases e:br o t.id with
     | none=>exact .inl rfl
     | some b=>cases b with
      | true=>exact fL e l
      | false=>exact .inr rfl
    refine .inr (.inr ⟨f,m,?_⟩);cases h1:bI s n x d (eI o t.id true) with
    | none=>simp only[h1] at h;cases h
    | some a =>
     refine⟨a,rfl,?_,?_⟩
     ·rintro rfl;simp only[h1] at h;injection h with h;exact h.symm
     ·rintro k c o' rfl;simp only[h1] at h;injection h with h;exact h.symm
 ·rw[fo (fun q=>q j)] at h;cases h1:eH (bI s n) t.args 0 d o with
  | none=>simp only[h1] at h;cases h
  | some a =>
   refine⟨a,rfl,?_,?_⟩
   ·rintro rfl;simp only[h1] at h;injection h with h;exact h.symm
   ·rintro k c o' rfl;simp only[h1] at h;injection h with h;exact h.symm
abbrev Jw (s:List Ty) (d:DM) (o:OM):List TO:=SU s (jl IC d) (jl C.bool o)
def LV (s:List Ty) (r:Option (Int×DM×OM)):List TO->C->Prop:=fun Mo v=>∃k d o,r=some (k,d,o)/\Mo=Jw s d o/\v=IC k
abbrev Pz (s:List Ty) (t:Ty) (d:DM) (o:OM) (R:List TO->C->Prop) (Pp:Value->Prop):Prop:=CallsTX P 64 [.own 1000 0,aV t] (Jw s d o) R Pp
section
variable {L:TL}{ρ:aM}
theorem CQ (ks:List Nat) {PS:nU}{args a:List C}{K:TL->aM->C->Prop}{s:List Ty}{d:DM}{o:OM}{r:Option (Int×DM×OM)}{Lin:List TO}(h:CallsTX P 64 a (Jw s d o) (LV s r) (PD r)) (p:L.sub ks=some Lin)
  (j:(T.aS ks&&T.jI L ks ks&&aK Lin ks ks&&jJ L ks PS.hb)=true) (w:(args.map fun c=>c.aaj.ren (bB ks 1000))=a) (m:Lin.map (TO.aad (C.ren (bB ks 1000)))=Jw s d o) (x:ks.length=4) (u:∀v,PD r v->PS.ps v)
  (k:∀b e o',r=some (b,e,o')->Wf (IC b)->K (((L.aae ks).kills (rowsOf L ks)).puts ks ((Jw s e o').map (TO.aad (C.ren (aJ ks))))) (dF (rowsOf L ks) ρ) (IC b)):lq P PS 64 args L ρ K:=by
 subst w;simp only[v5] at j;obtain⟨⟨⟨f,n⟩,c3⟩,c4⟩:=j;refine⟨[],ks,ks,L,Lin,_,_,.inl rfl,p,f,f,n,c3,c4,by rw[m];exact h,u,?_⟩;rintro v Mo ⟨b,e,o',q,rfl,rfl⟩ t l;exact⟨x,k b e o' q t⟩
theorem PA (ks:List Nat) {PS:nU}{f:List Nat}{args a:List C}{K:TL->aM->C->Prop}{s:List Ty}{d:DM}{o:OM}{r:Option (Int×DM×OM)}{Lin:List TO}(h:CallsTX P 64 a (Jw s d o) (LV s r) (PD r)) (q:L.sub ks=some Lin)
  (j:(T.aS ks&&qu ks f&&aK Lin ks ks&&jJ L ks PS.hb)=true) (x:(args.map fun c=>c.aaj.ren (bB ks 1000))=a) (n:Lin.map (TO.aad (C.ren (bB ks 1000)))=Jw s d o) (y:ks.length=4) (w:∀v,PD r v->PS.ps v)
  (k:∀b e o',r=some (b,e,o')->Wf (IC b)->K (((L.aae ks).kills (rowsOf L ks)).puts ks ((Jw s e o').map (TO.aad (C.ren (aJ ks))))) (dF (rowsOf L ks) ρ) (IC b)):oV P PS f 64 args L ρ K:=by
 subst x;simp only[v5] at j;obtain⟨⟨⟨l,p⟩,c3⟩,c4⟩:=j;refine⟨ks,Lin,_,_,q,l,p,c3,c4,by rw[n];exact h,w,?_⟩;rintro v Mo ⟨b,e,o',t,rfl,rfl⟩ u m;exact⟨y,k b e o' t u⟩
end
theorem I7 (s:List Ty) (t x:Ty) (d:DM) (o:OM) (k:Int) (e:t.kind=9) (h0:0<=t.id) (a:s[t.id.toNat]?=some x) (c:¬x.kind=0) (b:br d t.id=some k):Pz s t d o (LV s (some (k,d,o))) (PD (some (k,d,o))):=by
 refine bf Try.func64 mZ rfl fun f _=>?_;refine ah (fun _=>?_) (fun q=>fL e q);refine BS.mk h0 (CP h0 a) ?_;refine LJ a ?_;refine aR (fun _=>?_) (fun q=>fL q c);refine yX b ?_;exact pU [1000,1001,1002,1003] rfl rfl rfl rfl ⟨k,d,o,rfl,rfl,rfl⟩
theorem I8 (s:List Ty) (t x:Ty) (d:DM) (o:OM) (e:t.kind=9) (h0:0<=t.id) (a:s[t.id.toNat]?=some x) (c:¬x.kind=0) (b:br d t.id=none) (f:br o t.id=some true):Pz s t d o (LV s none) (PD none):=by
 refine bf Try.func64 mZ rfl fun h _=>?_;refine ah (fun _=>?_) (fun q=>fL e q);refine BS.mk h0 (CP h0 a) ?_;refine LJ a ?_;refine aR (fun _=>?_) (fun q=>fL q c);refine yY b ?_;refine yX f ?_;exact pO rfl ⟨rfl,rfl⟩
theorem LW (s:List Ty) (t x:Ty) (d:DM) (o:OM) (n:t.kind=9) (h0:0<=t.id) (b:s[t.id.toNat]?=some x) (m:¬x.kind=0) (l:br d t.id=none) (p:br o t.id=none\/br o t.id=some false)
  (r c:Option (Int×DM×OM)) (h:Pz s x d (eI o t.id true) (LV s c) (PD c)) (j:c=none->r=none) (u:∀k a o',c=some (k,a,o')->r=some (k,eI a t.id k,o')):Pz s t d o (LV s r) (PD r):=by
 refine bf Try.func64 mZ rfl fun w _=>?_;refine ah (fun _=>?_) (fun q=>fL n q);refine BS.mk h0 (CP h0 b) ?_;refine LJ b ?_;refine aR (fun _=>?_) (fun q=>fL q m);refine yY l ?_;refine Q0 p ?_ ?_
 all_goals
  refine I4 (f:=C.bool) (x:=true) rfl ?_;refine BS.mk h0 (CP h0 b) ?_;refine Px b ?_;refine PA [1000,1001,1002,1003] h rfl rfl rfl rfl rfl (fun v q=>⟨j q.1,q.2⟩) fun k a o' e _=>?_;refine I4 (f:=IC) (x:=k) rfl ?_;exact pU [1000,1001,1002,1003] rfl rfl rfl rfl ⟨k,_,_,u k a o' e,rfl,rfl⟩
theorem I9 (s:List Ty) (t:Ty) (d:DM) (o:OM) (h9:t.kind=9->∃x,0<=t.id/\s[t.id.toNat]?=some x/\x.kind=0)
  (f:Ty->DM->OM->Option (Option (Int×DM×OM))) (ih:∀x d o r,f x d o=some r->Pz s x d o (LV s r) (PD r)) (r:Option (Int×DM×OM)) (r1:Option (Int×DM×OM)) (h:eH f t.args 0 d o=some r1) (ac:r1=none->r=none) (hr:∀k u o',r1=some (k,u,o')->r=some (zR (k+1),u,o')):Pz s t d o (LV s r) (PD r):=by
 have n:(t.args.map aI).length=t.args.length:=vz _;refine bf Try.func64 mZ rfl fun hw _=>?_;have ao:t.args.length<=9223372036854775807:=f7 hw.2.1.2.2.1;refine ah (fun ag=>ul (h9 ag) fun x hh=>?_) (fun _=>?_)
 ·have h0:=hh.1;have hx:=hh.2.1;have hk:=hh.2.2;refine BS.mk h0 (CP h0 hx) ?_;refine LJ hx ?_;refine aR (fun q=>fL hk q) (fun _=>?_);refine bX t.args.length 74 [8] ((0:Int),d,o) (fun x=>[IC x.1]) (fun x=>[(1000,.box 93 [.rw 1001,.mpr 1002,.mpr 1003]),(1001,.row 32 3 (s.map aI)),(1002,.map (jl IC x.2.1)),(1003,.map (jl C.bool x.2.2))]) (fun k x=>eH f (t.args.drop k) x.1 x.2.1 x.2.2=some r1) h (ai rfl) ⟨ai rfl,trivial⟩
   ⟨.inl ⟨_,rfl,.inl ⟨rfl,rfl⟩⟩,.inl ⟨_,rfl,.inl ⟨rfl,rfl⟩⟩,.inl ⟨_,rfl,.inl ⟨rfl,rfl⟩⟩,.inl ⟨_,rfl,.inl ⟨rfl,rfl⟩⟩,trivial⟩ (fun _=>rfl) (fun _=>rfl) ?_
  rintro k ⟨m,d,o⟩ an c w _ _;refine ah (fun j=>?_) (fun l=>?_)
  ·have j:k<t.args.length:=by rw[n] at j;omega
   refine aX j fun x y am aa=>?_;have c:=c;rw[aa] at c;refine ul (pB c) fun r2 z=>?_;refine cL y ?_;refine CQ [1000,1001,1002,1003] (ih x d o r2 z.1) rfl rfl rfl rfl rfl (fun v q=>⟨ac (z.2.1 q.1▸rfl),q.2⟩) fun p u o' e ab=>?_;refine⟨?_,?_⟩
   ·exact FR (a:=m) (b:=p) w.1 ab
   refine Fit.aaf (by omega) (by omega) ?_;exact⟨(k+1,((if p>m then p else m),u,o')),⟨j,z.2.2 p u o' e⟩,⟨bM,.inr (.inl ⟨rfl,rfl⟩),trivial⟩,⟨.inl ⟨_,rfl,.inl ⟨rfl,rfl⟩⟩,.inl ⟨_,rfl,.inl ⟨rfl,rfl⟩⟩,.inl ⟨_,rfl,.inl ⟨rfl,rfl⟩⟩,.inl ⟨_,rfl,.inl ⟨rfl,rfl⟩⟩,trivial⟩,bN j⟩
  ·have l:¬k<t.args.length:=by rw[n] at l;omega
   have c:=c;rw[bQ l,eH] at c;refine Br (m:=zR (m+1)) rfl ?_;exact pU [1000,1001,1002,1003] rfl rfl rfl rfl ⟨zR (m+1),d,o,hr m d o (abr c).symm,rfl,rfl⟩
 ·skip
  refine bX t.args.length 74 [8] ((0:Int),d,o) (fun x=>[IC x.1]) (fun x=>[(1000,.box 93 [.rw 1001,.mpr 1002,.mpr 1003]),(1001,.row 32 3 (s.map aI)),(1002,.map (jl IC x.2.1)),(1003,.map (jl C.bool x.2.2))]) (fun k x=>eH f (t.args.drop k) x.1 x.2.1 x.2.2=some r1) h (ai rfl) ⟨ai rfl,trivial⟩
   ⟨.inl ⟨_,rfl,.inl ⟨rfl,rfl⟩⟩,.inl ⟨_,rfl,.inl ⟨rfl,rfl⟩⟩,.inl ⟨_,rfl,.inl ⟨rfl,rfl⟩⟩,.inl ⟨_,rfl,.inl ⟨rfl,rfl⟩⟩,trivial⟩ (fun _=>rfl) (fun _=>rfl) ?_
  rintro k ⟨m,d,o⟩ an c w _ _;refine ah (fun j=>?_) (fun l=>?_)
  ·have j:k<t.args.length:=by rw[n] at j;omega
   refine aX j fun x y am aa=>?_;have c:=c;rw[aa] at c;refine ul (pB c) fun r2 z=>?_;refine cL y ?_;refine CQ [1000,1001,1002,1003] (ih x d o r2 z.1) rfl rfl rfl rfl rfl (fun v q=>⟨ac (z.2.1 q.1▸rfl),q.2⟩) fun p u o' e ab=>?_;refine⟨?_,?_⟩
   ·exact FR (a:=m) (b:=p) w.1 ab
   refine Fit.aaf (by omega) (by omega) ?_;exact⟨(k+1,((if p>m then p else m),u,o')),⟨j,z.2.2 p u o' e⟩,⟨bM,.inr (.inl ⟨rfl,rfl⟩),trivial⟩,⟨.inl ⟨_,rfl,.inl ⟨rfl,rfl⟩⟩,.inl ⟨_,rfl,.inl ⟨rfl,rfl⟩⟩,.inl ⟨_,rfl,.inl ⟨rfl,rfl⟩⟩,.inl ⟨_,rfl,.inl ⟨rfl,rfl⟩⟩,trivial⟩,bN j⟩
  ·have l:¬k<t.args.length:=by rw[n] at l;omega
   have c:=c;rw[bQ l,eH] at c;refine Br (m:=zR (m+1)) rfl ?_;exact pU [1000,1001,1002,1003] rfl rfl rfl rfl ⟨zR (m+1),d,o,hr m d o (abr c).symm,rfl,rfl⟩
theorem Hq (s:List Ty):∀(n:Nat) (t:Ty) (d:DM) (o:OM) (r:Option (Int×DM×OM)),bI s n t d o=some r->Pz s t d o (LV s r) (PD r)
 | 0,t,d,o,r,h=>by cases h
 | n+1,t,d,o,r,h=>by
  obtain⟨x,he,h⟩:=Bs h
  by_cases b:x.kind=0
  ·have h:=h.2 b;obtain⟨j,h1,p,l⟩:=h;refine I9 s t d o (fun a=>?_) (bI s n) (fun x d o r q=>Hq s n x d o r q) r j h1 p l;rw[eu a] at he;obtain⟨f,c,_⟩:=bP he;exact⟨x,f,c,b⟩
  ·have a:t.kind=9:=by
    by_cases a:t.kind=9
    ·exact a
    ·rw[fo a] at he;injection he with he
     rw[<-he] at b;exact fL rfl b
   rw[eu a] at he;obtain⟨f,c,_⟩:=bP he;rcases h.1 b with⟨k,e,rfl⟩ | ⟨e,m,rfl⟩ | ⟨e,m,j,h1,p,l⟩
   ·exact I7 s t x d o k a f c b e
   ·exact I8 s t x d o a f c b e m
   ·exact LW s t x d o a f c b e m r j (Hq s n x d _ j h1) p l
abbrev Jy (s:List Ty) (d:DM) (o:OM):List TO:=SF s (jl IC d) (jl C.bool o)
def MR (s:List Ty) (r:Option (Int×DM×OM)):List TO->C->Prop:=fun Mo v=>∃k d o,r=some (k,d,o)/\Mo=Jy s d o/\v=IC k
abbrev Q5 (s:List Ty) (t:Ty) (d:DM) (o:OM) (R:List TO->C->Prop) (Pp:Value->Prop):Prop:=CallsTX P 64 [.own 1000 0,aV t] (Jy s d o) R Pp
section
variable {L:TL}{ρ:aM}
theorem FT (ks:List Nat) {PS:nU}{args a:List C}{K:TL->aM->C->Prop}{s:List Ty}{d:DM}{o:OM}{r:Option (Int×DM×OM)}{Lin:List TO}(h:CallsTX P 64 a (Jy s d o) (MR s r) (PD r)) (p:L.sub ks=some Lin)
  (j:(T.aS ks&&T.jI L ks ks&&aK Lin ks ks&&jJ L ks PS.hb)=true) (w:(args.map fun c=>c.aaj.ren (bB ks 1000))=a) (m:Lin.map (TO.aad (C.ren (bB ks 1000)))=Jy s d o) (x:ks.length=3) (u:∀v,PD r v->PS.ps v)
  (k:∀b e o',r=some (b,e,o')->Wf (IC b)->K (((L.aae ks).kills (rowsOf L ks)).puts ks ((Jy s e o').map (TO.aad (C.ren (aJ ks))))) (dF (rowsOf L ks) ρ) (IC b)):lq P PS 64 args L ρ K:=by
 subst w;simp only[v5] at j;obtain⟨⟨⟨f,n⟩,c3⟩,c4⟩:=j;refine⟨[],ks,ks,L,Lin,_,_,.inl rfl,p,f,f,n,c3,c4,by rw[m];exact h,u,?_⟩;rintro v Mo ⟨b,e,o',q,rfl,rfl⟩ t l;exact⟨x,k b e o' q t⟩
theorem PG (ks:List Nat) {PS:nU}{f:List Nat}{args a:List C}{K:TL->aM->C->Prop}{s:List Ty}{d:DM}{o:OM}{r:Option (Int×DM×OM)}{Lin:List TO}(h:CallsTX P 64 a (Jy s d o) (MR s r) (PD r)) (q:L.sub ks=some Lin)
  (j:(T.aS ks&&qu ks f&&aK Lin ks ks&&jJ L ks PS.hb)=true) (x:(args.map fun c=>c.aaj.ren (bB ks 1000))=a) (n:Lin.map (TO.aad (C.ren (bB ks 1000)))=Jy s d o) (y:ks.length=3) (w:∀v,PD r v->PS.ps v)
  (k:∀b e o',r=some (b,e,o')->Wf (IC b)->K (((L.aae ks).kills (rowsOf L ks)).puts ks ((Jy s e o').map (TO.aad (C.ren (aJ ks))))) (dF (rowsOf L ks) ρ) (IC b)):oV P PS f 64 args L ρ K:=by
 subst x;simp only[v5] at j;obtain⟨⟨⟨l,p⟩,c3⟩,c4⟩:=j;refine⟨ks,Lin,_,_,q,l,p,c3,c4,by rw[n];exact h,w,?_⟩;rintro v Mo ⟨b,e,o',t,rfl,rfl⟩ u m;exact⟨y,k b e o' t u⟩
end
theorem Ja (s:List Ty) (t x:Ty) (d:DM) (o:OM) (k:Int) (e:t.kind=9) (h0:0<=t.id) (b:s[t.id.toNat]?=some x) (c:¬x.kind=0) (a:br d t.id=some k):Q5 s t d o (MR s (some (k,d,o))) (PD (some (k,d,o))):=by
 refine bf Try.func64 mZ rfl fun f _=>?_;refine ah (fun _=>?_) (fun q=>fL e q);refine yZ h0 b ?_;refine aR (fun _=>?_) (fun q=>fL q c);refine yX a ?_;exact pU [1000,1001,1002] rfl rfl rfl rfl ⟨k,d,o,rfl,rfl,rfl⟩
theorem Jb (s:List Ty) (t x:Ty) (d:DM) (o:OM) (e:t.kind=9) (h0:0<=t.id) (b:s[t.id.toNat]?=some x) (c:¬x.kind=0) (a:br d t.id=none) (f:br o t.id=some true):Q5 s t d o (MR s none) (PD none):=by
 refine bf Try.func64 mZ rfl fun h _=>?_;refine ah (fun _=>?_) (fun q=>fL e q);refine yZ h0 b ?_;refine aR (fun _=>?_) (fun q=>fL q c);refine yY a ?_;refine yX f ?_;exact pO rfl ⟨rfl,rfl⟩
theorem LX (s:List Ty) (t x:Ty) (d:DM) (o:OM) (n:t.kind=9) (h0:0<=t.id) (j:s[t.id.toNat]?=some x) (m:¬x.kind=0) (l:br d t.id=none) (p:br o t.id=none\/br o t.id=some false)
  (r b:Option (Int×DM×OM)) (h:Q5 s x d (eI o t.id true) (MR s b) (PD b)) (c:b=none->r=none) (u:∀k a o',b=some (k,a,o')->r=some (k,eI a t.id k,o')):Q5 s t d o (MR s r) (PD r):=by
 refine bf Try.func64 mZ rfl fun w _=>?_;refine ah (fun _=>?_) (fun q=>fL n q);refine yZ h0 j ?_;refine aR (fun _=>?_) (fun q=>fL q m);refine yY l ?_;refine Q0 p ?_ ?_
 all_goals
  refine I4 (f:=C.bool) (x:=true) rfl ?_;refine yZ h0 j ?_;refine PG [1000,1001,1002] h rfl rfl rfl rfl rfl (fun v q=>⟨c q.1,q.2⟩) fun k a o' e _=>?_;refine I4 (f:=IC) (x:=k) rfl ?_;exact pU [1000,1001,1002] rfl rfl rfl rfl ⟨k,_,_,u k a o' e,rfl,rfl⟩
theorem Jc (s:List Ty) (t:Ty) (d:DM) (o:OM) (h9:t.kind=9->∃x,0<=t.id/\s[t.id.toNat]?=some x/\x.kind=0)
  (f:Ty->DM->OM->Option (Option (Int×DM×OM))) (ih:∀x d o r,f x d o=some r->Q5 s x d o (MR s r) (PD r)) (r:Option (Int×DM×OM)) (r1:Option (Int×DM×OM)) (h:eH f t.args 0 d o=some r1) (ac:r1=none->r=none) (hr:∀k u o',r1=some (k,u,o')->r=some (zR (k+1),u,o')):Q5 s t d o (MR s r) (PD r):=by
 have n:(t.args.map aI).length=t.args.length:=vz _;refine bf Try.func64 mZ rfl fun hw _=>?_;have ao:t.args.length<=9223372036854775807:=f7 hw.2.1.2.2.1;refine ah (fun ag=>ul (h9 ag) fun x hh=>?_) (fun _=>?_)
 ·have h0:=hh.1;have hx:=hh.2.1;have hk:=hh.2.2;refine yZ h0 hx ?_;refine aR (fun q=>fL hk q) (fun _=>?_);refine bX t.args.length 74 [8] ((0:Int),d,o) (fun x=>[IC x.1]) (fun x=>[(1000,.box 93 [.sl (s.map aI),.mpr 1001,.mpr 1002]),(1001,.map (jl IC x.2.1)),(1002,.map (jl C.bool x.2.2))]) (fun k x=>eH f (t.args.drop k) x.1 x.2.1 x.2.2=some r1) h (ai rfl) ⟨ai rfl,trivial⟩
   ⟨.inl ⟨_,rfl,.inl ⟨rfl,rfl⟩⟩,.inl ⟨_,rfl,.inl ⟨rfl,rfl⟩⟩,.inl ⟨_,rfl,.inl ⟨rfl,rfl⟩⟩,trivial⟩ (fun _=>rfl) (fun _=>rfl) ?_
  rintro k ⟨m,d,o⟩ an c w _ _;refine ah (fun j=>?_) (fun l=>?_)
  ·have j:k<t.args.length:=by rw[n] at j;omega
   refine aX j fun x y am aa=>?_;have c:=c;rw[aa] at c;refine ul (pB c) fun r2 z=>?_;refine cL y ?_;refine FT [1000,1001,1002] (ih x d o r2 z.1) rfl rfl rfl rfl rfl (fun v q=>⟨ac (z.2.1 q.1▸rfl),q.2⟩) fun p u o' e ab=>?_;refine⟨?_,?_⟩
   ·exact FR (a:=m) (b:=p) w.1 ab
   refine Fit.aaf (by omega) (by omega) ?_;exact⟨(k+1,((if p>m then p else m),u,o')),⟨j,z.2.2 p u o' e⟩,⟨bM,.inr (.inl ⟨rfl,rfl⟩),trivial⟩,⟨.inl ⟨_,rfl,.inl ⟨rfl,rfl⟩⟩,.inl ⟨_,rfl,.inl ⟨rfl,rfl⟩⟩,.inl ⟨_,rfl,.inl ⟨rfl,rfl⟩⟩,trivial⟩,bN j⟩
  ·have l:¬k<t.args.length:=by rw[n] at l;omega
   have c:=c;rw[bQ l,eH] at c;refine Br (m:=zR (m+1)) rfl ?_;exact pU [1000,1001,1002] rfl rfl rfl rfl ⟨zR (m+1),d,o,hr m d o (abr c).symm,rfl,rfl⟩
 ·skip
  refine bX t.args.length 74 [8] ((0:Int),d,o) (fun x=>[IC x.1]) (fun x=>[(1000,.box 93 [.sl (s.map aI),.mpr 1001,.mpr 1002]),(1001,.map (jl IC x.2.1)),(1002,.map (jl C.bool x.2.2))]) (fun k x=>eH f (t.args.drop k) x.1 x.2.1 x.2.2=some r1) h (ai rfl) ⟨ai rfl,trivial⟩
   ⟨.inl ⟨_,rfl,.inl ⟨rfl,rfl⟩⟩,.inl ⟨_,rfl,.inl ⟨rfl,rfl⟩⟩,.inl ⟨_,rfl,.inl ⟨rfl,rfl⟩⟩,trivial⟩ (fun _=>rfl) (fun _=>rfl) ?_
  rintro k ⟨m,d,o⟩ an c w _ _;refine ah (fun j=>?_) (fun l=>?_)
  ·have j:k<t.args.length:=by rw[n] at j;omega
   refine aX j fun x y am aa=>?_;have c:=c;rw[aa] at c;refine ul (pB c) fun r2 z=>?_;refine cL y ?_;refine FT [1000,1001,1002] (ih x d o r2 z.1) rfl rfl rfl rfl rfl (fun v q=>⟨ac (z.2.1 q.1▸rfl),q.2⟩) fun p u o' e ab=>?_;refine⟨?_,?_⟩
   ·exact FR (a:=m) (b:=p) w.1 ab
   refine Fit.aaf (by omega) (by omega) ?_;exact⟨(k+1,((if p>m then p else m),u,o')),⟨j,z.2.2 p u o' e⟩,⟨bM,.inr (.inl ⟨rfl,rfl⟩),trivial⟩,⟨.inl ⟨_,rfl,.inl ⟨rfl,rfl⟩⟩,.inl ⟨_,rfl,.inl ⟨rfl,rfl⟩⟩,.inl ⟨_,rfl,.inl ⟨rfl,rfl⟩⟩,trivial⟩,bN j⟩
  ·have l:¬k<t.args.length:=by rw[n] at l;omega
   have c:=c;rw[bQ l,eH] at c;refine Br (m:=zR (m+1)) rfl ?_;exact pU [1000,1001,1002] rfl rfl rfl rfl ⟨zR (m+1),d,o,hr m d o (abr c).symm,rfl,rfl⟩
theorem LY (s:List Ty):∀(n:Nat) (t:Ty) (d:DM) (o:OM) (r:Option (Int×DM×OM)),bI s n t d o=some r->Q5 s t d o (MR s r) (PD r)
 | 0,t,d,o,r,h=>by cases h
 | n+1,t,d,o,r,h=>by
  obtain⟨x,he,h⟩:=Bs h
  by_cases b:x.kind=0
  ·have h:=h.2 b;obtain⟨j,h1,p,l⟩:=h;refine Jc s t d o (fun a=>?_) (bI s n) (fun x d o r q=>LY s n x d o r q) r j h1 p l;rw[eu a] at he;obtain⟨f,c,_⟩:=bP he;exact⟨x,f,c,b⟩
  ·have a:t.kind=9:=by
    by_cases a:t.kind=9
    ·exact a
    ·rw[fo a] at he;injection he with he
     rw[<-he] at b;exact fL rfl b
   rw[eu a] at he;obtain⟨f,c,_⟩:=bP he;rcases h.1 b with⟨k,e,rfl⟩ | ⟨e,m,rfl⟩ | ⟨e,m,j,h1,p,l⟩
   ·exact Ja s t x d o k a f c b e
   ·exact Jb s t x d o a f c b e m
   ·exact LX s t x d o a f c b e m r j (LY s n x d _ j h1) p l
end Go.Fr.Try
