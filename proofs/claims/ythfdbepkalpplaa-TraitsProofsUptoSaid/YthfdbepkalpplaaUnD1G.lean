/- Part of the proofs of the statements of this seat. -/
import Derived.Test.YthfdbepkalpplaaUnV1G
set_option maxRecDepth 10000
set_option linter.unusedVariables false
set_option linter.unusedSimpArgs false
namespace Go.Fr.Try
open Go Go.RowKit Go.Proofs Go.Fr Go.Fr.T Go.Fr.Api
abbrev SU (s:List Ty) (D O:List (C×C)):List TO:=[.box 93 [.rw 1001,.mpr 1002,.mpr 1003],.row 32 3 (s.map aM),.map D,.map O]
abbrev SF (s:List Ty) (D O:List (C×C)):List TO:=[.box 93 [.sl (s.map aM),.mpr 1001,.mpr 1002],.map D,.map O]
abbrev SO (k:Nat) (D O:List (C×C)):List TO:=[.box 93 [.opq k,.mpr 1001,.mpr 1002],.map D,.map O]
abbrev o9 (s:List Ty):List TO:=[.box 93 [.rw 1001,.any,.any],.row 32 3 (s.map aM)]
abbrev ur (s:List Ty):List TO:=[.box 93 [.sl (s.map aM),.any,.any]]
theorem Cm (n:Int) (t:Ty):ins n t=if t.kind<1\/9<t.kind then false else if t.kind=9 then decide (0<=t.id)&&decide (t.id<n)&&decide (t.args.length=0) else !t.args.any fun x=>!ins n x:=by
 rw[u5];congr 1;congr 1;rw[List.all_eq_not_any_not]
theorem Rx (s:List Ty) (D O:List (C×C)) (l:List Ty) (q:Ty->Bool) (h:∀x∈l,CallsT P 94 [aT x,.own 1000 0] [.box 89 [.own 1001 0],.box 93 [.rw 1002,.mpr 1003,.mpr 1004],.row 32 3 (s.map aM),.map D,.map O] (aU [.box 89 [.own 1001 0],.box 93 [.rw 1002,.mpr 1003,.mpr 1004],.row 32 3 (s.map aM),.map D,.map O] (.bool (q x)))) :
  CallsT P 92 [.sl (l.map aM),.fn 94 [] [.own 1000 0]] [.box 89 [.own 1001 0],.box 93 [.rw 1002,.mpr 1003,.mpr 1004],.row 32 3 (s.map aM),.map D,.map O] (aU [.box 89 [.own 1001 0],.box 93 [.rw 1002,.mpr 1003,.mpr 1004],.row 32 3 (s.map aM),.map D,.map O] (IC (fidx q l 0))):=by
 have d:(l.map aM).length=l.length:=aaP _;refine af Try.func92 tM rfl fun o _=>?_;have m:l.length<=9223372036854775807:=gO o.1;refine cu l.length 8 [] () (fun _=>[]) (fun _=>[(1000,.box 89 [.own 1001 0]),(1001,.box 93 [.rw 1002,.mpr 1003,.mpr 1004]),(1002,.row 32 3 (s.map aM)),(1003,.map D),(1004,.map O)]) (fun k _=>fidx q (l.drop k) k=fidx q l 0) rfl (ak rfl) trivial ⟨.inl ⟨_,rfl,.inl ⟨rfl,rfl⟩⟩,.inl ⟨_,rfl,.inl ⟨rfl,rfl⟩⟩,.inl ⟨_,rfl,.inl ⟨rfl,rfl⟩⟩,.inl ⟨_,rfl,.inl ⟨rfl,rfl⟩⟩,.inl ⟨_,rfl,.inl ⟨rfl,rfl⟩⟩,trivial⟩ (fun _=>rfl) (fun _=>rfl) ?_;rintro k _ p b _ _ _;refine ah (fun a=>?_) (fun c=>?_)
 ·have a:k<l.length:=by rw[d] at a;omega
  refine aZ a fun x n j e=>?_;refine cP n ?_;refine callO [1000,1001,1002,1003,1004] [1000,1001,1002,1003,1004] (h x j) rfl rfl rfl rfl rfl fun _ _=>?_;refine aq (fun f=>?_) (fun f=>?_)
  ·exact bB [1000,1001,1002,1003,1004] rfl rfl rfl (xo IC (qp e b f))
  ·refine Fit.aag (by omega) (by omega) ?_;exact⟨(k+1,()),⟨a,tU e b f⟩,⟨bS,trivial⟩,⟨.inl ⟨_,rfl,.inl ⟨rfl,rfl⟩⟩,.inl ⟨_,rfl,.inl ⟨rfl,rfl⟩⟩,.inl ⟨_,rfl,.inl ⟨rfl,rfl⟩⟩,.inl ⟨_,rfl,.inl ⟨rfl,rfl⟩⟩,.inl ⟨_,rfl,.inl ⟨rfl,rfl⟩⟩,trivial⟩,bV a⟩
 ·have c:¬k<l.length:=by rw[d] at c;omega
  exact bB [1000,1001,1002,1003,1004] rfl rfl rfl (xo IC (qq c b))
theorem Ry (s:List Ty) (D O:List (C×C)) (l:List Ty) (q:Ty->Bool) (h:∀x∈l,CallsT P 94 [aT x,.own 1000 0] [.box 89 [.own 1001 0],.box 93 [.rw 1002,.mpr 1003,.mpr 1004],.row 32 3 (s.map aM),.map D,.map O] (aU [.box 89 [.own 1001 0],.box 93 [.rw 1002,.mpr 1003,.mpr 1004],.row 32 3 (s.map aM),.map D,.map O] (.bool (q x)))) :
  CallsT P 49 [.sl (l.map aM),.fn 94 [] [.own 1000 0]] [.box 89 [.own 1001 0],.box 93 [.rw 1002,.mpr 1003,.mpr 1004],.row 32 3 (s.map aM),.map D,.map O] (aU [.box 89 [.own 1001 0],.box 93 [.rw 1002,.mpr 1003,.mpr 1004],.row 32 3 (s.map aM),.map D,.map O] (.bool (l.any q))):=by
 have a:=Rx s D O l q h;have e:=qt q l;generalize fidx q l 0=n at a e;refine af Try.func49 tK rfl fun b _=>?_;refine callO [1000,1001,1002,1003,1004] [1000,1001,1002,1003,1004] a rfl rfl rfl rfl rfl fun _ _=>?_;exact bB [1000,1001,1002,1003,1004] rfl rfl rfl (xo C.bool e)
theorem Tg (s:List Ty) (D O:List (C×C)) (x:Ty) (b:Bool) (h:CallsT P 59 [.own 1000 0,aT x] (SU s D O) (aU (SU s D O) (.bool b))) :
  CallsT P 94 [aT x,.own 1000 0] [.box 89 [.own 1001 0],.box 93 [.rw 1002,.mpr 1003,.mpr 1004],.row 32 3 (s.map aM),.map D,.map O] (aU [.box 89 [.own 1001 0],.box 93 [.rw 1002,.mpr 1003,.mpr 1004],.row 32 3 (s.map aM),.map D,.map O] (.bool (!b))):=by
 refine af Try.func94 Cd rfl fun a _=>?_;refine callO [1001,1002,1003,1004] [1001,1002,1003,1004] h rfl rfl rfl rfl rfl fun _ _=>?_;exact bB [1000,1001,1002,1003,1004] rfl rfl rfl rfl
theorem Qj (s:List Ty) (D O:List (C×C)):∀t:Ty,CallsT P 59 [.own 1000 0,aT t] (SU s D O) (aU (SU s D O) (.bool (ins s.length t))):=dL fun t j=>by
 have h49:=Ry s D O t.args (fun x=>!ins s.length x) fun x k=>Tg s D O x _ (j x k);rw[Cm];generalize(t.args.any fun x=>!ins s.length x)=b at h49 ⊢;have d:(s.map aM).length=s.length:=aaP _;have e:(t.args.map aM).length=t.args.length:=aaP _;refine af Try.func59 Ca rfl fun l _=>?_;refine ah (fun h1=>?_) (fun h1=>?_)
 ·exact bB [1000,1001,1002,1003] rfl rfl rfl (xo C.bool (by rw[o5 (Or.inl h1)]))
 refine ah (fun f=>?_) (fun f=>?_)
 ·exact bB [1000,1001,1002,1003] rfl rfl rfl (xo C.bool (by rw[o5 (Or.inr f)]))
 have h12:¬(t.kind<1\/9<t.kind):=fun q=>q.elim (fun q=>h1 q) (fun q=>f q);refine ah (fun a=>?_) (fun a=>?_)
 ·refine ah (fun h=>?_) (fun h=>?_)
  ·skip
   refine ah (fun c=>?_) (fun c=>?_)
   ·exact bB [1000,1001,1002,1003] rfl rfl rfl (xo C.bool (by rw[q9 h12,o5 a,aaS (show(0:Int)<=t.id from h),aaS (show t.id<(s.length:Int) from by rw[d] at c;exact c),aaV,aaV];exact decide_eq_decide.2 (by rw[e];omega)))
   ·exact bB [1000,1001,1002,1003] rfl rfl rfl (xo C.bool (by rw[q9 h12,o5 a,aaT (show¬t.id<(s.length:Int) from by rw[d] at c;exact c),abk,aaY]))
  ·exact bB [1000,1001,1002,1003] rfl rfl rfl (xo C.bool (by rw[q9 h12,o5 a,aaT (show¬(0:Int)<=t.id from h),aaY,aaY]))
 refine callO [2,1000,1001,1002,1003] [2,1000,1001,1002,1003] h49 rfl rfl rfl rfl rfl fun _ _=>?_;exact bB [1000,1001,1002,1003] rfl rfl rfl (xo C.bool (by rw[q9 h12,q9 a]))
theorem Rz (s:List Ty) (D O:List (C×C)) (l:List Ty) (q:Ty->Bool) (h:∀x∈l,CallsT P 94 [aT x,.own 1000 0] [.box 89 [.own 1001 0],.box 93 [.sl (s.map aM),.mpr 1002,.mpr 1003],.map D,.map O] (aU [.box 89 [.own 1001 0],.box 93 [.sl (s.map aM),.mpr 1002,.mpr 1003],.map D,.map O] (.bool (q x)))) :
  CallsT P 92 [.sl (l.map aM),.fn 94 [] [.own 1000 0]] [.box 89 [.own 1001 0],.box 93 [.sl (s.map aM),.mpr 1002,.mpr 1003],.map D,.map O] (aU [.box 89 [.own 1001 0],.box 93 [.sl (s.map aM),.mpr 1002,.mpr 1003],.map D,.map O] (IC (fidx q l 0))):=by
 have d:(l.map aM).length=l.length:=aaP _;refine af Try.func92 tM rfl fun o _=>?_;have m:l.length<=9223372036854775807:=gO o.1;refine cu l.length 8 [] () (fun _=>[]) (fun _=>[(1000,.box 89 [.own 1001 0]),(1001,.box 93 [.sl (s.map aM),.mpr 1002,.mpr 1003]),(1002,.map D),(1003,.map O)]) (fun k _=>fidx q (l.drop k) k=fidx q l 0) rfl (ak rfl) trivial ⟨.inl ⟨_,rfl,.inl ⟨rfl,rfl⟩⟩,.inl ⟨_,rfl,.inl ⟨rfl,rfl⟩⟩,.inl ⟨_,rfl,.inl ⟨rfl,rfl⟩⟩,.inl ⟨_,rfl,.inl ⟨rfl,rfl⟩⟩,trivial⟩ (fun _=>rfl) (fun _=>rfl) ?_;rintro k _ p b _ _ _;refine ah (fun a=>?_) (fun c=>?_)
 ·have a:k<l.length:=by rw[d] at a;omega
  refine aZ a fun x n j e=>?_;refine cP n ?_;refine callO [1000,1001,1002,1003] [1000,1001,1002,1003] (h x j) rfl rfl rfl rfl rfl fun _ _=>?_;refine aq (fun f=>?_) (fun f=>?_)
  ·exact bB [1000,1001,1002,1003] rfl rfl rfl (xo IC (qp e b f))
  ·refine Fit.aag (by omega) (by omega) ?_;exact⟨(k+1,()),⟨a,tU e b f⟩,⟨bS,trivial⟩,⟨.inl ⟨_,rfl,.inl ⟨rfl,rfl⟩⟩,.inl ⟨_,rfl,.inl ⟨rfl,rfl⟩⟩,.inl ⟨_,rfl,.inl ⟨rfl,rfl⟩⟩,.inl ⟨_,rfl,.inl ⟨rfl,rfl⟩⟩,trivial⟩,bV a⟩
 ·have c:¬k<l.length:=by rw[d] at c;omega
  exact bB [1000,1001,1002,1003] rfl rfl rfl (xo IC (qq c b))
theorem RA (s:List Ty) (D O:List (C×C)) (l:List Ty) (q:Ty->Bool) (h:∀x∈l,CallsT P 94 [aT x,.own 1000 0] [.box 89 [.own 1001 0],.box 93 [.sl (s.map aM),.mpr 1002,.mpr 1003],.map D,.map O] (aU [.box 89 [.own 1001 0],.box 93 [.sl (s.map aM),.mpr 1002,.mpr 1003],.map D,.map O] (.bool (q x)))) :
  CallsT P 49 [.sl (l.map aM),.fn 94 [] [.own 1000 0]] [.box 89 [.own 1001 0],.box 93 [.sl (s.map aM),.mpr 1002,.mpr 1003],.map D,.map O] (aU [.box 89 [.own 1001 0],.box 93 [.sl (s.map aM),.mpr 1002,.mpr 1003],.map D,.map O] (.bool (l.any q))):=by
 have a:=Rz s D O l q h;have e:=qt q l;generalize fidx q l 0=n at a e;refine af Try.func49 tK rfl fun b _=>?_;refine callO [1000,1001,1002,1003] [1000,1001,1002,1003] a rfl rfl rfl rfl rfl fun _ _=>?_;exact bB [1000,1001,1002,1003] rfl rfl rfl (xo C.bool e)
theorem Ti (s:List Ty) (D O:List (C×C)) (x:Ty) (b:Bool) (h:CallsT P 59 [.own 1000 0,aT x] (SF s D O) (aU (SF s D O) (.bool b))) :
  CallsT P 94 [aT x,.own 1000 0] [.box 89 [.own 1001 0],.box 93 [.sl (s.map aM),.mpr 1002,.mpr 1003],.map D,.map O] (aU [.box 89 [.own 1001 0],.box 93 [.sl (s.map aM),.mpr 1002,.mpr 1003],.map D,.map O] (.bool (!b))):=by
 refine af Try.func94 Cd rfl fun a _=>?_;refine callO [1001,1002,1003] [1001,1002,1003] h rfl rfl rfl rfl rfl fun _ _=>?_;exact bB [1000,1001,1002,1003] rfl rfl rfl rfl
theorem K4 (s:List Ty) (D O:List (C×C)):∀t:Ty,CallsT P 59 [.own 1000 0,aT t] (SF s D O) (aU (SF s D O) (.bool (ins s.length t))):=dL fun t j=>by
 have h49:=RA s D O t.args (fun x=>!ins s.length x) fun x k=>Ti s D O x _ (j x k);rw[Cm];generalize(t.args.any fun x=>!ins s.length x)=b at h49 ⊢;have d:(s.map aM).length=s.length:=aaP _;have e:(t.args.map aM).length=t.args.length:=aaP _;refine af Try.func59 Ca rfl fun l _=>?_;refine ah (fun h1=>?_) (fun h1=>?_)
 ·exact bB [1000,1001,1002] rfl rfl rfl (xo C.bool (by rw[o5 (Or.inl h1)]))
 refine ah (fun f=>?_) (fun f=>?_)
 ·exact bB [1000,1001,1002] rfl rfl rfl (xo C.bool (by rw[o5 (Or.inr f)]))
 have h12:¬(t.kind<1\/9<t.kind):=fun q=>q.elim (fun q=>h1 q) (fun q=>f q);refine ah (fun a=>?_) (fun a=>?_)
 ·refine ah (fun h=>?_) (fun h=>?_)
  ·skip
   refine ah (fun c=>?_) (fun c=>?_)
   ·exact bB [1000,1001,1002] rfl rfl rfl (xo C.bool (by rw[q9 h12,o5 a,aaS (show(0:Int)<=t.id from h),aaS (show t.id<(s.length:Int) from by rw[d] at c;exact c),aaV,aaV];exact decide_eq_decide.2 (by rw[e];omega)))
   ·exact bB [1000,1001,1002] rfl rfl rfl (xo C.bool (by rw[q9 h12,o5 a,aaT (show¬t.id<(s.length:Int) from by rw[d] at c;exact c),abk,aaY]))
  ·exact bB [1000,1001,1002] rfl rfl rfl (xo C.bool (by rw[q9 h12,o5 a,aaT (show¬(0:Int)<=t.id from h),aaY,aaY]))
 refine callO [2,1000,1001,1002] [2,1000,1001,1002] h49 rfl rfl rfl rfl rfl fun _ _=>?_;exact bB [1000,1001,1002] rfl rfl rfl (xo C.bool (by rw[q9 h12,q9 a]))
theorem RB (k n:Nat) (D O:List (C×C)) (l:List Ty) (q:Ty->Bool) (h:∀x∈l,CallsT P 94 [aT x,.own 1000 0] [.box 89 [.own 1001 0],.box 93 [.opq k,.mpr 1002,.mpr 1003],.map D,.map O] (aU [.box 89 [.own 1001 0],.box 93 [.opq k,.mpr 1002,.mpr 1003],.map D,.map O] (.bool (q x)))) :
  CallsT P 92 [.sl (l.map aM),.fn 94 [] [.own 1000 0]] [.box 89 [.own 1001 0],.box 93 [.opq k,.mpr 1002,.mpr 1003],.map D,.map O] (aU [.box 89 [.own 1001 0],.box 93 [.opq k,.mpr 1002,.mpr 1003],.map D,.map O] (IC (fidx q l 0))):=by
 have d:(l.map aM).length=l.length:=aaP _;refine af Try.func92 tM rfl fun p _=>?_;have m:l.length<=9223372036854775807:=gO p.1;refine cu l.length 8 [] () (fun _=>[]) (fun _=>[(1000,.box 89 [.own 1001 0]),(1001,.box 93 [.opq k,.mpr 1002,.mpr 1003]),(1002,.map D),(1003,.map O)]) (fun k _=>fidx q (l.drop k) k=fidx q l 0) rfl (ak rfl) trivial ⟨.inl ⟨_,rfl,.inl ⟨rfl,rfl⟩⟩,.inl ⟨_,rfl,.inl ⟨rfl,rfl⟩⟩,.inl ⟨_,rfl,.inl ⟨rfl,rfl⟩⟩,.inl ⟨_,rfl,.inl ⟨rfl,rfl⟩⟩,trivial⟩ (fun _=>rfl) (fun _=>rfl) ?_;rintro k _ r b _ _ _;refine ah (fun a=>?_) (fun c=>?_)
 ·have a:k<l.length:=by rw[d] at a;omega
  refine aZ a fun x o j e=>?_;refine cP o ?_;refine callO [1000,1001,1002,1003] [1000,1001,1002,1003] (h x j) rfl rfl rfl rfl rfl fun _ _=>?_;refine aq (fun f=>?_) (fun f=>?_)
  ·exact bB [1000,1001,1002,1003] rfl rfl rfl (xo IC (qp e b f))
  ·refine Fit.aag (by omega) (by omega) ?_;exact⟨(k+1,()),⟨a,tU e b f⟩,⟨bS,trivial⟩,⟨.inl ⟨_,rfl,.inl ⟨rfl,rfl⟩⟩,.inl ⟨_,rfl,.inl ⟨rfl,rfl⟩⟩,.inl ⟨_,rfl,.inl ⟨rfl,rfl⟩⟩,.inl ⟨_,rfl,.inl ⟨rfl,rfl⟩⟩,trivial⟩,bV a⟩
 ·have c:¬k<l.length:=by rw[d] at c;omega
  exact bB [1000,1001,1002,1003] rfl rfl rfl (xo IC (qq c b))
theorem RD (k n:Nat) (D O:List (C×C)) (l:List Ty) (q:Ty->Bool) (h:∀x∈l,CallsT P 94 [aT x,.own 1000 0] [.box 89 [.own 1001 0],.box 93 [.opq k,.mpr 1002,.mpr 1003],.map D,.map O] (aU [.box 89 [.own 1001 0],.box 93 [.opq k,.mpr 1002,.mpr 1003],.map D,.map O] (.bool (q x)))) :
  CallsT P 49 [.sl (l.map aM),.fn 94 [] [.own 1000 0]] [.box 89 [.own 1001 0],.box 93 [.opq k,.mpr 1002,.mpr 1003],.map D,.map O] (aU [.box 89 [.own 1001 0],.box 93 [.opq k,.mpr 1002,.mpr 1003],.map D,.map O] (.bool (l.any q))):=by
 have a:=RB k n D O l q h;have e:=qt q l;generalize fidx q l 0=n at a e;refine af Try.func49 tK rfl fun b _=>?_;refine callO [1000,1001,1002,1003] [1000,1001,1002,1003] a rfl rfl rfl rfl rfl fun _ _=>?_;exact bB [1000,1001,1002,1003] rfl rfl rfl (xo C.bool e)
theorem Tj (k n:Nat) (D O:List (C×C)) (x:Ty) (b:Bool) (h:CallsT P 59 [.own 1000 0,aT x] (SO k D O) (aU (SO k D O) (.bool b))) :
  CallsT P 94 [aT x,.own 1000 0] [.box 89 [.own 1001 0],.box 93 [.opq k,.mpr 1002,.mpr 1003],.map D,.map O] (aU [.box 89 [.own 1001 0],.box 93 [.opq k,.mpr 1002,.mpr 1003],.map D,.map O] (.bool (!b))):=by
 refine af Try.func94 Cd rfl fun a _=>?_;refine callO [1001,1002,1003] [1001,1002,1003] h rfl rfl rfl rfl rfl fun _ _=>?_;exact bB [1000,1001,1002,1003] rfl rfl rfl rfl
theorem Tk (k n:Nat) (D O:List (C×C)) (j:rJ k=some n) (l:n<=9223372036854775807):∀t:Ty,CallsT P 59 [.own 1000 0,aT t] (SO k D O) (aU (SO k D O) (.bool (ins n t))):=dL fun t h=>by
 have h49:=RD k n D O t.args (fun x=>!ins n x) fun x o=>Tj k n D O x _ (h x o);rw[Cm];generalize(t.args.any fun x=>!ins n x)=b at h49 ⊢;have m:n=n:=rfl;have c:(t.args.map aM).length=t.args.length:=aaP _;refine af Try.func59 Ca rfl fun p _=>?_;refine ah (fun h1=>?_) (fun h1=>?_)
 ·exact bB [1000,1001,1002] rfl rfl rfl (xo C.bool (by rw[o5 (Or.inl h1)]))
 refine ah (fun e=>?_) (fun e=>?_)
 ·exact bB [1000,1001,1002] rfl rfl rfl (xo C.bool (by rw[o5 (Or.inr e)]))
 have h12:¬(t.kind<1\/9<t.kind):=fun q=>q.elim (fun q=>h1 q) (fun q=>e q);refine ah (fun a=>?_) (fun a=>?_)
 ·refine ah (fun f=>?_) (fun f=>?_)
  ·skip
   refine JR.mk ⟨n,j,l,?_⟩;refine ah (fun d=>?_) (fun d=>?_)
   ·exact bB [1000,1001,1002] rfl rfl rfl (xo C.bool (by rw[q9 h12,o5 a,aaS (show(0:Int)<=t.id from f),aaS (show t.id<(n:Int) from d),aaV,aaV];exact decide_eq_decide.2 (by rw[c];omega)))
   ·exact bB [1000,1001,1002] rfl rfl rfl (xo C.bool (by rw[q9 h12,o5 a,aaT (show¬t.id<(n:Int) from d),abk,aaY]))
  ·exact bB [1000,1001,1002] rfl rfl rfl (xo C.bool (by rw[q9 h12,o5 a,aaT (show¬(0:Int)<=t.id from f),aaY,aaY]))
 refine callO [2,1000,1001,1002] [2,1000,1001,1002] h49 rfl rfl rfl rfl rfl fun _ _=>?_;exact bB [1000,1001,1002] rfl rfl rfl (xo C.bool (by rw[q9 h12,q9 a]))
theorem K5 {s:List Ty}{i:Nat}{x:Ty}{K:List C->Prop}(a:s[i]?=some x) (h:K [IC x.kind]):EI (s.map aM) i 0 1 K :=
 ⟨[IC x.kind,IC x.id,.sl (x.args.map aM)],by rw[aa9,a,abq,iM],rfl,h⟩
theorem RH {s:List Ty}{i:Nat}{x:Ty}{K:List C->Prop}(a:s[i]?=some x) (h:K [IC x.kind,IC x.id,.sl (x.args.map aM)]):EI (s.map aM) i 0 3 K :=
 ⟨[IC x.kind,IC x.id,.sl (x.args.map aM)],by rw[aa9,a,abq,iM],rfl,h⟩
theorem yF {s:List Ty}{z:Int}{x:Ty}{K:List C->Prop}(h0:0<=z) (a:s[z.toNat]?=some x) (h:K [IC x.kind,IC x.id,.sl (x.args.map aM)]):uI (s.map aM) z 3 K :=
 ⟨_,h0,by rw[aa9,a,abq,iM],rfl,h⟩
theorem Cn {s:List Ty}{z:Int}{x:Ty}(h0:0<=z) (a:s[z.toNat]?=some x):z<((s.map aM).length:Int):=by
 have:=(aaU.1 a).1;rw[aaP];omega
theorem sw {s:List Ty}{n:Nat}{c r:Ty}(h:aO s n c=some r):∃m,n=m+1/\((c.kind≠9/\r=c)\/(c.kind=9/\∃x,0<=c.id/\s[c.id.toNat]?=some x/\((x.kind=0/\r=c)\/(x.kind≠0/\aO s m x=some r)))):=by
 cases n with
 | zero=>cases h
 | succ m =>
  refine⟨m,rfl,?_⟩;rw[aO] at h
  by_cases a:c.kind=9
  ·rw[o5 a] at h;refine .inr ⟨a,?_⟩;cases he:bQ s c with
   | none=>rw[he] at h;cases h
   | some x =>
    rw[he] at h;obtain⟨d,b,_⟩:=bJ he;refine⟨x,d,b,?_⟩
    by_cases h0:x.kind=0
    ·refine .inl ⟨h0,?_⟩;simp only[h0,o5] at h;injection h with h;exact h.symm
    ·refine .inr ⟨h0,?_⟩;simp only[h0,abR] at h;exact h
  ·rw[q9 a] at h;injection h with h
   exact .inl ⟨a,h.symm⟩
theorem GD (s:List Ty) (n:Nat) (t r:Ty) (h:aO s n t=some r):CallsT P 96 [.own 1000 0,aT t] (o9 s) (aU (o9 s) (aT r)):=by
 refine af Try.func96 Gm rfl fun o _=>?_;refine Aq.mk ⟨Nat×Ty,(n,t),fun x=>aO s x.1 x.2=some r,[],fun _=>[],fun x=>[(3,.box 32 [IC x.2.kind,IC x.2.id,.sl (x.2.args.map aM)]),(4,.box 32 [IC 0,IC 0,.nils]),(1000,.box 93 [.rw 1001,.any,.any]),(1001,.row 32 3 (s.map aM))],fun x=>x.1,h,trivial,
  ⟨.inl ⟨_,rfl,.inl ⟨rfl,rfl⟩⟩,.inl ⟨_,rfl,.inl ⟨rfl,rfl⟩⟩,.inl ⟨_,rfl,.inl ⟨rfl,rfl⟩⟩,.inl ⟨_,rfl,.inl ⟨rfl,rfl⟩⟩,trivial⟩,fun _=>rfl,fun _=>rfl,?_⟩
 rintro⟨n,c⟩ b _ _;refine vU (sw b) fun m l=>?_;refine ah (fun k=>?_) (fun k=>?_)
 ·refine vU (l.2.resolve_left fun q=>q.1 k).2 fun x f=>?_;have h0:=f.1;have d:=f.2.1;refine FH.mk (by simpa using h0) (Cn h0 d) ?_;refine K5 d ?_;refine aX (fun j=>?_) (fun j=>?_)
  ·have a:=f.2.2.resolve_left fun q=>j q.1;refine FH.mk (by simpa using h0) (Cn h0 d) ?_;refine RH d ?_;exact⟨(m,x),a.2,trivial,⟨.inl ⟨_,rfl,.inl ⟨rfl,rfl⟩⟩,.inl ⟨_,rfl,.inl ⟨rfl,rfl⟩⟩,.inl ⟨_,rfl,.inl ⟨rfl,rfl⟩⟩,.inl ⟨_,rfl,.inl ⟨rfl,rfl⟩⟩,trivial⟩,by have e:n=m+1:=l.1;show m<n;omega⟩
  ·have a:=f.2.2.resolve_right fun q=>q.1 j;exact bB [1000,1001] rfl rfl rfl (by rw[a.2];rfl)
 ·have a:=l.2.resolve_right fun q=>k q.1;exact bB [1000,1001] rfl rfl rfl (by rw[a.2];rfl)
theorem Tl (s:List Ty) (n:Nat) (t r:Ty) (h:aO s n t=some r):CallsT P 96 [.own 1000 0,aT t] (ur s) (aU (ur s) (aT r)):=by
 refine af Try.func96 Gm rfl fun o _=>?_;refine Aq.mk ⟨Nat×Ty,(n,t),fun x=>aO s x.1 x.2=some r,[],fun _=>[],fun x=>[(3,.box 32 [IC x.2.kind,IC x.2.id,.sl (x.2.args.map aM)]),(4,.box 32 [IC 0,IC 0,.nils]),(1000,.box 93 [.sl (s.map aM),.any,.any])],fun x=>x.1,h,trivial,
  ⟨.inl ⟨_,rfl,.inl ⟨rfl,rfl⟩⟩,.inl ⟨_,rfl,.inl ⟨rfl,rfl⟩⟩,.inl ⟨_,rfl,.inl ⟨rfl,rfl⟩⟩,trivial⟩,fun _=>rfl,fun _=>rfl,?_⟩
 rintro⟨n,c⟩ b _ _;refine vU (sw b) fun m k=>?_;refine ah (fun j=>?_) (fun j=>?_)
 ·refine vU (k.2.resolve_left fun q=>q.1 j).2 fun x d=>?_;have h0:=d.1;have l:=d.2.1;refine yF h0 l ?_;refine aX (fun f=>?_) (fun f=>?_)
  ·have a:=d.2.2.resolve_left fun q=>f q.1;refine yF h0 l ?_;exact⟨(m,x),a.2,trivial,⟨.inl ⟨_,rfl,.inl ⟨rfl,rfl⟩⟩,.inl ⟨_,rfl,.inl ⟨rfl,rfl⟩⟩,.inl ⟨_,rfl,.inl ⟨rfl,rfl⟩⟩,trivial⟩,by have e:n=m+1:=k.1;show m<n;omega⟩
  ·have a:=d.2.2.resolve_right fun q=>q.1 f;exact bB [1000] rfl rfl rfl (by rw[a.2];rfl)
 ·have a:=k.2.resolve_right fun q=>j q.1;exact bB [1000] rfl rfl rfl (by rw[a.2];rfl)
theorem Tm (s:List Ty) (v:Int) (l:List Ty) (q:Ty->Bool) (h:∀x∈l,CallsT P 113 [aT x,.own 1000 0,.pt [IC v] 0] [.box 89 [.own 1001 0],.box 93 [.rw 1002,.any,.any],.row 32 3 (s.map aM)] (aU [.box 89 [.own 1001 0],.box 93 [.rw 1002,.any,.any],.row 32 3 (s.map aM)] (.bool (q x)))) :
  CallsT P 92 [.sl (l.map aM),.fn 113 [] [.own 1000 0,.pt [IC v] 0]] [.box 89 [.own 1001 0],.box 93 [.rw 1002,.any,.any],.row 32 3 (s.map aM)] (aU [.box 89 [.own 1001 0],.box 93 [.rw 1002,.any,.any],.row 32 3 (s.map aM)] (IC (fidx q l 0))):=by
 have d:(l.map aM).length=l.length:=aaP _;refine af Try.func92 tM rfl fun o _=>?_;have m:l.length<=9223372036854775807:=gO o.1;refine cu l.length 8 [] () (fun _=>[]) (fun _=>[(1000,.box 89 [.own 1001 0]),(1001,.box 93 [.rw 1002,.any,.any]),(1002,.row 32 3 (s.map aM))]) (fun k _=>fidx q (l.drop k) k=fidx q l 0) rfl (ak rfl) trivial ⟨.inl ⟨_,rfl,.inl ⟨rfl,rfl⟩⟩,.inl ⟨_,rfl,.inl ⟨rfl,rfl⟩⟩,.inl ⟨_,rfl,.inl ⟨rfl,rfl⟩⟩,trivial⟩ (fun _=>rfl) (fun _=>rfl) ?_;rintro k _ p b _ _ _;refine ah (fun a=>?_) (fun c=>?_)
 ·have a:k<l.length:=by rw[d] at a;omega
  refine aZ a fun x n j e=>?_;refine cP n ?_;refine callO [1000,1001,1002] [1000,1001,1002] (h x j) rfl rfl rfl rfl rfl fun _ _=>?_;refine aq (fun f=>?_) (fun f=>?_)
  ·exact bB [1000,1001,1002] rfl rfl rfl (xo IC (qp e b f))
  ·refine Fit.aag (by omega) (by omega) ?_;exact⟨(k+1,()),⟨a,tU e b f⟩,⟨bS,trivial⟩,⟨.inl ⟨_,rfl,.inl ⟨rfl,rfl⟩⟩,.inl ⟨_,rfl,.inl ⟨rfl,rfl⟩⟩,.inl ⟨_,rfl,.inl ⟨rfl,rfl⟩⟩,trivial⟩,bV a⟩
 ·have c:¬k<l.length:=by rw[d] at c;omega
  exact bB [1000,1001,1002] rfl rfl rfl (xo IC (qq c b))
theorem Tn (s:List Ty) (v:Int) (l:List Ty) (q:Ty->Bool) (h:∀x∈l,CallsT P 113 [aT x,.own 1000 0,.pt [IC v] 0] [.box 89 [.own 1001 0],.box 93 [.rw 1002,.any,.any],.row 32 3 (s.map aM)] (aU [.box 89 [.own 1001 0],.box 93 [.rw 1002,.any,.any],.row 32 3 (s.map aM)] (.bool (q x)))) :
  CallsT P 49 [.sl (l.map aM),.fn 113 [] [.own 1000 0,.pt [IC v] 0]] [.box 89 [.own 1001 0],.box 93 [.rw 1002,.any,.any],.row 32 3 (s.map aM)] (aU [.box 89 [.own 1001 0],.box 93 [.rw 1002,.any,.any],.row 32 3 (s.map aM)] (.bool (l.any q))):=by
 have a:=Tm s v l q h;have e:=qt q l;generalize fidx q l 0=n at a e;refine af Try.func49 tK rfl fun b _=>?_;refine callO [1000,1001,1002] [1000,1001,1002] a rfl rfl rfl rfl rfl fun _ _=>?_;exact bB [1000,1001,1002] rfl rfl rfl (xo C.bool e)
theorem qZ {f:Ty->Option Bool}:∀{l:List Ty}{b:Bool},vX f l=some b->(∀x∈l,f x=some ((f x).getD false))/\l.any (fun x=>(f x).getD false)=b
 | [],b,h=>by
  rw[vX] at h;injection h with h
  exact⟨by simp,by rw[<-h];rfl⟩
 | x::l,b,h=>by
  rw[vX] at h;cases c:f x with
  | none=>rw[c] at h;cases h
  | some a =>
   rw[c] at h;cases e:vX f l with
   | none=>rw[e] at h;cases h
   | some j =>
    rw[e] at h;injection h with h
    obtain⟨i1,i2⟩:=qZ e;refine⟨fun y d=>?_,?_⟩
    ·rcases aaW.1 d with rfl | d
     ·rw[c];rfl
     ·exact i1 y d
    ·rw[abF,i2,c];exact h
theorem Wh (s:List Ty) (v:Int) (x:Ty) (b:Bool) (h:CallsT P 97 [.own 1000 0,IC v,aT x] (o9 s) (aU (o9 s) (.bool b))) :
  CallsT P 113 [aT x,.own 1000 0,.pt [IC v] 0] [.box 89 [.own 1001 0],.box 93 [.rw 1002,.any,.any],.row 32 3 (s.map aM)] (aU [.box 89 [.own 1001 0],.box 93 [.rw 1002,.any,.any],.row 32 3 (s.map aM)] (.bool b)):=by
 refine af Try.func113 KN rfl fun a _=>?_;refine callO [1001,1002] [1001,1002] h rfl rfl rfl rfl rfl fun _ _=>?_;exact bB [1000,1001,1002] rfl rfl rfl rfl
theorem Wi (s:List Ty) (v:Int) (t r:Ty) (h:CallsT P 96 [.own 1000 0,aT t] (o9 s) (aU (o9 s) (aT r))) (a:r.kind=9) :
  CallsT P 97 [.own 1000 0,IC v,aT t] (o9 s) (aU (o9 s) (.bool (decide (r.id=v)))):=by
 refine af Try.func97 Gn rfl fun b _=>?_;refine callO [1000,1001] [1000,1001] h rfl rfl rfl rfl rfl fun _ _=>?_;refine ah (fun _=>?_) (fun q=>vv a q);exact bB [1000,1001] rfl rfl rfl rfl
theorem Wj (s:List Ty) (v:Int) (t r:Ty) (b:Bool) (h:CallsT P 96 [.own 1000 0,aT t] (o9 s) (aU (o9 s) (aT r))) (a:¬r.kind=9)
  (h49:CallsT P 49 [.sl (r.args.map aM),.fn 113 [] [.own 1000 0,.pt [IC v] 0]] [.box 89 [.own 1001 0],.box 93 [.rw 1002,.any,.any],.row 32 3 (s.map aM)] (aU [.box 89 [.own 1001 0],.box 93 [.rw 1002,.any,.any],.row 32 3 (s.map aM)] (.bool b))) :
  CallsT P 97 [.own 1000 0,IC v,aT t] (o9 s) (aU (o9 s) (.bool b)):=by
 refine af Try.func97 Gn rfl fun c _=>?_;refine callO [1000,1001] [1000,1001] h rfl rfl rfl rfl rfl fun _ _=>?_;refine ah (fun q=>vv q a) (fun _=>?_);refine callO [3,1000,1001] [3,1000,1001] h49 rfl rfl rfl rfl rfl fun _ _=>?_;exact bB [1000,1001] rfl rfl rfl rfl
theorem XW (s:List Ty) (v:Int):∀(n:Nat) (t:Ty) (b:Bool),kS s v n t=some b->CallsT P 97 [.own 1000 0,IC v,aT t] (o9 s) (aU (o9 s) (.bool b))
 | 0,t,b,h=>by cases h
 | n+1,t,b,h=>by
  rw[kS] at h;cases hf:aO s n t with
  | none=>rw[hf] at h;cases h
  | some r =>
   simp only[hf] at h
   by_cases a:r.kind=9
   ·rw[o5 a] at h;injection h with h
    rw[<-h];exact Wi s v t r (GD s n t r hf) a
   ·rw[q9 a] at h;obtain⟨h1,c⟩:=qZ h;have h49:=Tn s v r.args (fun x=>(kS s v n x).getD false) fun x d=>Wh s v x _ (XW s v n x _ (h1 x d));rw[c] at h49;exact Wj s v t r b (GD s n t r hf) a h49
section
variable {P:Program}{L:TL}{ρ:aK}
theorem pA {R:List TO->C->Prop}(ko:List Nat) {Lin Mo Lo:List TO}{v x:C}(b:L.sub ko=some Mo) (a:(T.aP ko&&aG Lin (List.range' 1000 Lin.length) ko)=true) (c:Mo.map (TO.aad (C.ren (bA ko 1000)))=Lo) (e:v.aat.ren (bA ko 1000)=x) (h:R Lo x):fZ Lin L v R:=by
 simp only[aaN] at a;exact⟨[],ko,L,v,v,Mo,rfl,.inl ⟨rfl,rfl⟩,b,a.1,a.2,fun _=>by rw[c,e];exact h⟩
theorem n8.imp {P:Program}{f:FuncId}{args:Array Value}{F:au}{Lin:List Own}{R R':au->List Own->Value->Prop}{Pp Pp':Value->Prop}(h:n8 P f args F Lin R Pp)
  (q:∀F G L v,F.le G->R' F L v->R' G L v) (j:∀F L v,R F L v->R' F L v) (p:∀v,Pp v->Pp' v):n8 P f args F Lin R' Pp' :=
 ⟨h.ent,q,fun w d=>(h.run w d).mono fun e w' k=>by
  rcases k with⟨v,F',Lo,h1,b,a,c⟩ | ⟨v,o,F',Lo,h1,l,b,a,c,m,n⟩
  ·exact .inl ⟨v,F',Lo,h1,b,a,j _ _ _ c⟩
  ·exact .inr ⟨v,o,F',Lo,h1,l,b,a,c,m,p v n⟩⟩
theorem CallsTX.imp {P:Program}{f:Nat}{args:List C}{Lin:List TO}{R R':List TO->C->Prop}{Pp Pp':Value->Prop}(h:CallsTX P f args Lin R Pp)
  (d:∀Mo c,R Mo c->R' Mo c) (n:∀v,Pp v->Pp' v):CallsTX P f args Lin R' Pp' :=
 ⟨fun F Li m h1 l b=>n8.imp (h.out F Li m h1 l b) gC.aao (fun F L v ⟨Mo,c,e,a,k,o,j⟩=>⟨Mo,c,e,a,k,o,d _ _ j⟩) n⟩
theorem iP (ks:List Nat) {PS:nG}{Pp:Value->Prop}{e:List Nat}{f:Nat}{args a:List C}{K:TL->aK->C->Prop}{x:C}{Lin Lin' Lo:List TO}(h:CallsTX P f a Lin' (aU Lo x) Pp) (j:L.sub ks=some Lin)
  (d:(T.aP ks&&qb ks e&&aG Lin ks ks&&jw L ks PS.hb)=true) (n:(args.map fun c=>c.aaj.ren (bA ks 1000))=a) (q:Lin.map (TO.aad (C.ren (bA ks 1000)))=Lin') (m:ks.length=Lo.length) (r:∀v,Pp v->PS.ps v)
  (k:Wf x->(∀o∈Lo,o.Wf)->K (((L.aae ks).kills (rowsOf L ks)).puts ks (Lo.map (TO.aad (C.ren (aI ks))))) (dh (rowsOf L ks) ρ) (x.ren (aI ks)).slt):oF P PS e f args L ρ K:=by
 subst n q;simp only[aaN] at d;obtain⟨⟨⟨t,l⟩,c3⟩,c4⟩:=d;exact⟨ks,Lin,_,_,j,t,l,c3,c4,h,r,fun v Mo ⟨u,p⟩ s b=>by subst u p;exact⟨m,k s b⟩⟩
end
theorem GF {els:List (List C)}{j off n:Nat}{a:List C}{K:List C->Prop}(h:els[j]?=some a) (b:eW ((a.drop off).take n) n=true) (k:K a):EI els j off n fun _=>∀es,els[j]?=some es->K es :=
 ⟨a,h,b,fun es he=>by rw[h] at he;injection he with he;rw[<-he];exact k⟩
theorem Qk {s:List Ty}{j:Nat}{t:Ty}:(s.map aM).set j [IC t.kind,IC t.id,.sl (t.args.map aM)]=(s.set j t).map aM:=by
 rw[List.map_set,iM]
theorem Ql {s:List Ty}{i:Nat}{x:Ty}(a:s[i]?=some x):(s.map aM)[i]?=some [IC x.kind,IC x.id,.sl (x.args.map aM)]:=by rw[aa9,a,abq,iM]
def cA (e:Int):Value:=.iface 98 (.agg #[.int .i64 e])
abbrev tX (s:List Ty) (t r:Ty):Prop:=CallsT P 96 [.own 1000 0,aT t] (o9 s) (aU (o9 s) (aT r))
abbrev sA (s:List Ty) (a b:Ty) (R:List TO->C->Prop) (Pp:Value->Prop):Prop:=CallsTX P 63 [.own 1000 0,aT a,aT b] (o9 s) R Pp
theorem K6 (s:List Ty) (a b a' c:Ty) (e:tX s a a') (hb:tX s b c) (h1:a'.kind=9) (f:c.kind=9) (d:a'.id=c.id):sA s a b (aU (o9 s) (.tup [])) (fun _=>False):=by
 refine aV Try.func63 oL rfl fun j _=>?_;refine iP [1000,1001] e.toX rfl rfl rfl rfl rfl (fun _ h=>h) fun _ _=>?_;refine iP [1000,1001] hb.toX rfl rfl rfl rfl rfl (fun _ h=>h) fun _ _=>?_;refine ah (fun _=>?_) (fun q=>vv h1 q);refine ah (fun _=>?_) (fun q=>vv f q);refine aX (fun q=>vv d q) (fun _=>?_);exact bB [1000,1001] rfl rfl rfl rfl
def RE (r:Option (List Ty)):List TO->C->Prop:=fun Mo v=>∃s',r=some s'/\Mo=o9 s'/\v=.tup []
def PE (r:Option (List Ty)):Value->Prop:=fun v=>r=none/\v=cA 8
section
variable {L:TL}{ρ:aK}
theorem Qm (ks:List Nat) {PS:nG}{args a:List C}{K:TL->aK->C->Prop}{s:List Ty}{r:Option (List Ty)}{Lin:List TO}(h:CallsTX P 63 a (o9 s) (RE r) (PE r)) (e:L.sub ks=some Lin)
  (b:(T.aP ks&&T.jv L ks ks&&aG Lin ks ks&&jw L ks PS.hb)=true) (l:(args.map fun c=>c.aaj.ren (bA ks 1000))=a) (n:Lin.map (TO.aad (C.ren (bA ks 1000)))=o9 s) (j:ks.length=2) (o:∀v,PE r v->PS.ps v)
  (k:∀s',r=some s'->K (((L.aae ks).kills (rowsOf L ks)).puts ks ((o9 s').map (TO.aad (C.ren (aI ks))))) (dh (rowsOf L ks) ρ) (.tup [])):kU P PS 63 args L ρ K:=by
 subst l;simp only[aaN] at b;obtain⟨⟨⟨d,f⟩,c3⟩,c4⟩:=b;refine⟨[],ks,ks,L,Lin,_,_,.inl rfl,e,d,d,f,c3,c4,by rw[n];exact h,o,?_⟩;rintro v Mo ⟨s',p,rfl,rfl⟩ q m;exact⟨j,k s' p⟩
theorem RI (ks:List Nat) {PS:nG}{d:List Nat}{args a:List C}{K:TL->aK->C->Prop}{s:List Ty}{r:Option (List Ty)}{Lin:List TO}(h:CallsTX P 63 a (o9 s) (RE r) (PE r)) (e:L.sub ks=some Lin)
  (b:(T.aP ks&&qb ks d&&aG Lin ks ks&&jw L ks PS.hb)=true) (l:(args.map fun c=>c.aaj.ren (bA ks 1000))=a) (n:Lin.map (TO.aad (C.ren (bA ks 1000)))=o9 s) (j:ks.length=2) (o:∀v,PE r v->PS.ps v)
  (k:∀s',r=some s'->K (((L.aae ks).kills (rowsOf L ks)).puts ks ((o9 s').map (TO.aad (C.ren (aI ks))))) (dh (rowsOf L ks) ρ) (.tup [])):oF P PS d 63 args L ρ K:=by
 subst l;simp only[aaN] at b;obtain⟨⟨⟨p,f⟩,c3⟩,c4⟩:=b;refine⟨ks,Lin,_,_,e,p,f,c3,c4,by rw[n];exact h,o,?_⟩;rintro v Mo ⟨s',q,rfl,rfl⟩ t m;exact⟨j,k s' q⟩
end
theorem Fh {a b:Int}(h:Wf (IC a)) (k:Wf (IC b)):Wf (IC (if b>a then b else a)):=by split<;>assumption
theorem RJ {a b:Int}(h:Wf (IC a)) (k:Wf (IC b)):Wf (IC (if b<a then b else a)):=by split<;>assumption
theorem mmV (h:True) (a b:Int):(if b>a then b else a)=max a b:=by split<;>omega
theorem mmN (h:True) (a b:Int):(if b<a then b else a)=min a b:=by split<;>omega
theorem AX (s:List Ty) (a b a' d x:Ty) (r:tX s a a') (hb:tX s b d) (h1:a'.kind=9) (u:d.kind=9) (p:¬a'.id=d.id) (h0:0<=max a'.id d.id) (o:s[(max a'.id d.id).toNat]?=some x) :
  sA s a b (aU (o9 (s.set (max a'.id d.id).toNat (.mk 9 (min a'.id d.id) []))) (.tup [])) (fun _=>False):=by
 have n:=mmV trivial a'.id d.id;have m:=mmN trivial a'.id d.id;have c:=Qk (s:=s) (j:=(max a'.id d.id).toNat) (t:=.mk 9 (min a'.id d.id) []);have e:=Ql o;have f:=Cn h0 o;generalize s.set (max a'.id d.id).toNat (.mk 9 (min a'.id d.id) [])=s' at c ⊢;rw[<-n] at c e h0 f;rw[<-m] at c;refine aV Try.func63 oL rfl fun v _=>?_;refine iP [1000,1001] r.toX rfl rfl rfl rfl rfl (fun _ h=>h) fun k _=>?_;refine iP [1000,1001] hb.toX rfl rfl rfl rfl rfl (fun _ h=>h) fun l _=>?_;refine ah (fun _=>?_) (fun q=>vv h1 q);refine ah (fun _=>?_) (fun q=>vv u q);refine aX (fun _=>?_) (fun q=>vv q p);refine⟨?_,⟨?_,?_⟩⟩
 ·exact Fh k.2.1 l.2.1
 ·exact RJ k.2.1 l.2.1
 refine FH.mk h0 f ?_;refine⟨rfl,GF e rfl ?_⟩;exact bB [1000,1001] rfl rfl (xo (fun q=>[TO.box 93 [.rw 1001,.any,.any],.row 32 3 q]) c) rfl
theorem OU (s:List Ty) (a b a' c:Ty) (e:tX s a a') (hb:tX s b c) (h1:a'.kind=9) (f:¬c.kind=9) (d:CallsT P 97 [.own 1000 0,IC a'.id,aT c] (o9 s) (aU (o9 s) (.bool true))) :
  sA s a b (fun _ _=>False) (PE none):=by
 refine aV Try.func63 oL rfl fun j _=>?_;refine iP (Pp:=fun _=>False) [1000,1001] e.toX rfl rfl rfl rfl rfl (fun _ h=>False.elim h) fun _ _=>?_;refine iP (Pp:=fun _=>False) [1000,1001] hb.toX rfl rfl rfl rfl rfl (fun _ h=>False.elim h) fun _ _=>?_;refine ah (fun _=>?_) (fun q=>vv h1 q);refine ah (fun q=>vv q f) (fun _=>?_);refine ah (fun _=>?_) (fun q=>vv h1 q);refine callO [1000,1001] [1000,1001] d rfl rfl rfl rfl rfl fun _ _=>?_;exact py rfl ⟨rfl,rfl⟩
theorem K7 (s:List Ty) (a b a' d x:Ty) (l:tX s a a') (hb:tX s b d) (h1:a'.kind=9) (n:¬d.kind=9) (m:CallsT P 97 [.own 1000 0,IC a'.id,aT d] (o9 s) (aU (o9 s) (.bool false)))
  (h0:0<=a'.id) (k:s[a'.id.toNat]?=some x):sA s a b (aU (o9 (s.set a'.id.toNat d)) (.tup [])) (fun _=>False):=by
 have c:=Qk (s:=s) (j:=a'.id.toNat) (t:=d);have e:=Ql k;have f:=Cn h0 k;generalize s.set a'.id.toNat d=s' at c ⊢;refine aV Try.func63 oL rfl fun o _=>?_;refine iP [1000,1001] l.toX rfl rfl rfl rfl rfl (fun _ h=>h) fun _ _=>?_;refine iP [1000,1001] hb.toX rfl rfl rfl rfl rfl (fun _ h=>h) fun _ _=>?_;refine ah (fun _=>?_) (fun q=>vv h1 q);refine ah (fun q=>vv q n) (fun _=>?_);refine ah (fun _=>?_) (fun q=>vv h1 q);refine callO [1000,1001] [1000,1001] m rfl rfl rfl rfl rfl fun _ _=>?_;refine FH.mk h0 f ?_;refine⟨rfl,GF e rfl ?_⟩;exact bB [1000,1001] rfl rfl (xo (fun q=>[TO.box 93 [.rw 1001,.any,.any],.row 32 3 q]) c) rfl
theorem K8 (s:List Ty) (a b a' c:Ty) (r:Option (List Ty)) (d:tX s a a') (hb:tX s b c) (h1:¬a'.kind=9) (f:c.kind=9) (j:sA s c a' (RE r) (PE r)):sA s a b (RE r) (PE r):=by
 refine aV Try.func63 oL rfl fun k _=>?_;refine iP (Pp:=fun _=>False) [1000,1001] d.toX rfl rfl rfl rfl rfl (fun _ h=>False.elim h) fun _ _=>?_;refine iP (Pp:=fun _=>False) [1000,1001] hb.toX rfl rfl rfl rfl rfl (fun _ h=>False.elim h) fun _ _=>?_;refine ah (fun q=>vv q h1) (fun _=>?_);refine ah (fun q=>vv q h1) (fun _=>?_);refine ah (fun _=>?_) (fun q=>vv f q);refine Qm [1000,1001] j rfl rfl rfl rfl rfl (fun _ h=>h) fun s' e=>?_;exact pA [1000,1001] rfl rfl rfl rfl ⟨s',e,rfl,rfl⟩
theorem K9 (s:List Ty) (a b a' c:Ty) (k:tX s a a') (hb:tX s b c) (h1:¬a'.kind=9) (m:¬c.kind=9) (j:a'.kind≠c.kind\/a'.id≠c.id\/a'.args.length≠c.args.length):sA s a b (fun _ _=>False) (PE none):=by
 have d:(a'.args.map aM).length=a'.args.length:=aaP _;have e:(c.args.map aM).length=c.args.length:=aaP _;refine aV Try.func63 oL rfl fun o _=>?_;refine iP (Pp:=fun _=>False) [1000,1001] k.toX rfl rfl rfl rfl rfl (fun _ h=>False.elim h) fun _ _=>?_;refine iP (Pp:=fun _=>False) [1000,1001] hb.toX rfl rfl rfl rfl rfl (fun _ h=>False.elim h) fun _ _=>?_;refine ah (fun q=>vv q h1) (fun _=>?_);refine ah (fun q=>vv q h1) (fun _=>?_);refine ah (fun q=>vv q m) (fun _=>?_);refine aX (fun n=>?_) (fun n=>?_)
 ·exact py rfl ⟨rfl,rfl⟩
 refine aX (fun l=>?_) (fun l=>?_)
 ·exact py rfl ⟨rfl,rfl⟩
 refine aX (fun f=>?_) (fun f=>vv j (by rw[d,e] at f;omega));exact py rfl ⟨rfl,rfl⟩
theorem Ip {f:List Ty->Ty->Ty->Option (Option (List Ty))}{s:List Ty}{x y:Ty}{l b:List Ty}{r:Option (List Ty)}(h:j9 f s (x::l) (y::b)=some r):∃a,f s x y=some a/\(a=none->r=none)/\∀s',a=some s'->j9 f s' l b=some r:=by
 rw[j9] at h;cases hf:f s x y with
 | none=>simp only[hf] at h;cases h
 | some a =>
  refine⟨a,rfl,?_,?_⟩
  ·rintro rfl;simp only[hf] at h;injection h with h;exact h.symm
  ·rintro s' rfl;simp only[hf] at h;exact h
theorem Lb (s:List Ty) (a b a' d:Ty) (ha:tX s a a') (hb:tX s b d) (h1:¬a'.kind=9) (h2:¬d.kind=9) (w:¬(a'.kind≠d.kind\/a'.id≠d.id\/a'.args.length≠d.args.length))
  (f:List Ty->Ty->Ty->Option (Option (List Ty))) (ih:∀s x y r,f s x y=some r->sA s x y (RE r) (PE r)) (r:Option (List Ty)) (hr:j9 f s a'.args d.args=some r):sA s a b (RE r) (PE r):=by
 have m:(a'.args.map aM).length=a'.args.length:=aaP _;have p:(d.args.map aM).length=d.args.length:=aaP _;have ao:a'.args.length=d.args.length:=by omega
 refine aV Try.func63 oL rfl fun hw _=>?_;refine iP (Pp:=fun _=>False) [1000,1001] ha.toX rfl rfl rfl rfl rfl (fun _ h=>False.elim h) fun o _=>?_;refine iP (Pp:=fun _=>False) [1000,1001] hb.toX rfl rfl rfl rfl rfl (fun _ h=>False.elim h) fun av _=>?_;have z:a'.args.length<=9223372036854775807:=gO o.2.2.1;refine ah (fun q=>vv q h1) (fun _=>?_);refine ah (fun q=>vv q h1) (fun _=>?_);refine ah (fun q=>vv q h2) (fun _=>?_);refine aX (fun h4=>vv (Or.inl h4) w) (fun h4=>?_);refine aX (fun h5=>vv (Or.inr (Or.inl h5)) w) (fun h5=>?_);refine aX (fun h6=>vv (by rw[m,p];omega) h6) (fun h6=>?_);refine cu a'.args.length 39 [] s (fun _=>[]) (fun s=>[(4,.box 32 [IC a'.kind,IC a'.id,.sl (a'.args.map aM)]),(5,.box 32 [IC d.kind,IC d.id,.sl (d.args.map aM)]),(1000,.box 93 [.rw 1001,.any,.any]),(1001,.row 32 3 (s.map aM))]) (fun k s=>j9 f s (a'.args.drop k) (d.args.drop k)=some r) hr (ak rfl) trivial
  ⟨.inl ⟨_,rfl,.inl ⟨rfl,rfl⟩⟩,.inl ⟨_,rfl,.inl ⟨rfl,rfl⟩⟩,.inl ⟨_,rfl,.inl ⟨rfl,rfl⟩⟩,.inl ⟨_,rfl,.inl ⟨rfl,rfl⟩⟩,trivial⟩ (fun _=>rfl) (fun _=>rfl) ?_
 rintro k s hk c _ _ _;refine ah (fun j=>?_) (fun n=>?_)
 ·have j:k<a'.args.length:=by rw[m] at j;omega
  refine aZ j fun x hx ag t=>?_;refine aZ (l:=d.args) (k:=k) (by omega) fun y hy _ u=>?_;have c:=c;rw[t,u] at c;refine vU (Ip c) fun r1 h1=>?_;refine cP hx ?_;refine cP hy ?_;refine RI [1000,1001] (ih s x y r1 h1.1) rfl rfl rfl rfl rfl (fun v q=>⟨h1.2.1 q.1,q.2⟩) fun s' e=>?_;refine Fit.aag (by omega) (by omega) ?_;exact⟨(k+1,s'),⟨j,h1.2.2 s' e⟩,⟨bS,trivial⟩,⟨.inl ⟨_,rfl,.inl ⟨rfl,rfl⟩⟩,.inl ⟨_,rfl,.inl ⟨rfl,rfl⟩⟩,.inl ⟨_,rfl,.inl ⟨rfl,rfl⟩⟩,.inl ⟨_,rfl,.inl ⟨rfl,rfl⟩⟩,trivial⟩,bV j⟩
 ·have n:¬k<a'.args.length:=by rw[m] at n;omega
  have c:=c;rw[bW n,j9] at c;exact pA [1000,1001] rfl rfl rfl rfl ⟨s,(abw c).symm,rfl,rfl⟩
theorem rf {s:List Ty}:∀{n:Nat}{t r:Ty},aO s n t=some r->r.kind=9->∃x,0<=r.id/\s[r.id.toNat]?=some x/\x.kind=0
 | 0,t,r,h,_=>by cases h
 | n+1,t,r,h,b=>by
  obtain⟨m,e,h⟩:=sw h;injection e with e
  subst e;rcases h with⟨h1,rfl⟩ | ⟨h1,x,f,d,j⟩
  ·exact vv b h1
  ·rcases j with⟨a,rfl⟩ | ⟨a,c⟩
   ·exact⟨x,f,d,a⟩
   ·exact rf c b
theorem Lc {s:List Ty}{a b:Ty}{s':List Ty}(h:sA s a b (aU (o9 s') (.tup [])) (fun _=>False)):sA s a b (RE (some s')) (PE (some s')) :=
 CallsTX.imp h (fun Mo v ⟨d,c⟩=>⟨s',rfl,d,c⟩) fun v q=>q.elim
theorem Qn {s:List Ty}{a b:Ty}(h:sA s a b (fun _ _=>False) (PE none)):sA s a b (RE none) (PE none) :=
 CallsTX.imp h (fun Mo v q=>q.elim) fun v q=>q
theorem Wk:∀(n:Nat) (s:List Ty) (a b:Ty) (r:Option (List Ty)),lG n s a b=some r->sA s a b (RE r) (PE r)
 | 0,s,a,b,r,h=>by cases h
 | n+1,s,a,b,r,h=>by
  rw[lG] at h;cases l:aO s n a with
  | none=>simp only[l] at h;cases h
  | some a' =>
   cases hb:aO s n b with
   | none=>simp only[l,hb] at h;cases h
   | some c =>
    simp only[l,hb] at h;have j:=GD s n a a' l;have k:=GD s n b c hb
    by_cases h1:a'.kind=9
    ·by_cases d:c.kind=9
     ·rw[o5 ⟨h1,d⟩] at h
      by_cases f:a'.id=c.id
      ·rw[o5 f] at h;injection h with h
       subst h;exact Lc (K6 s a b a' c j k h1 d f)
      ·rw[q9 f] at h;injection h with h
       subst h;obtain⟨x,m,u,_⟩:=rf l h1;obtain⟨y,w,z,_⟩:=rf hb d;refine Lc ?_;rcases Int.le_total a'.id c.id with t | t
       ·have e:max a'.id c.id=c.id:=by omega
        exact AX s a b a' c y j k h1 d f (by omega) (by rw[e];exact z)
       ·have e:max a'.id c.id=a'.id:=by omega
        exact AX s a b a' c x j k h1 d f (by omega) (by rw[e];exact u)
     ·rw[q9 (fun q=>d q.2),o5 h1] at h;obtain⟨x,m,u,_⟩:=rf l h1;cases p:kS s a'.id n c with
      | none=>simp only[p] at h;cases h
      | some o =>
       have v:=XW s a'.id n c o p;cases o
       ·simp only[p] at h;injection h with h
        subst h;exact Lc (K7 s a b a' c x j k h1 d v m u)
       ·simp only[p] at h;injection h with h
        subst h;exact Qn (OU s a b a' c j k h1 d v)
    ·rw[q9 (fun q=>h1 q.1),q9 h1] at h
     by_cases d:c.kind=9
     ·rw[o5 d] at h;exact K8 s a b a' c r j k h1 d (Wk n s c a' r h)
     ·rw[q9 d] at h
      by_cases f:a'.kind≠c.kind\/a'.id≠c.id\/a'.args.length≠c.args.length
      ·rw[o5 f] at h;injection h with h
       subst h;exact Qn (K9 s a b a' c j k h1 d f)
      ·rw[q9 f] at h;exact Lb s a b a' c j k h1 d f (lG n) (fun s x y r q=>Wk n s x y r q) r h
theorem sz3 (l:List Ty):∀es∈l.map aM,es.length=3:=by
 intro es h;obtain⟨t,_,rfl⟩:=abt.1 h;rw[iM];rfl
theorem t61 (l:List Ty) (e:l.length<=2 ^ 30):CallsT P 61 [.sl (l.map aM)] [] (aU [.row 32 3 (l.map aM)] (.rw 1000)):=by
 cases l with
 | nil =>
  refine af Try.func61 Gj rfl fun f _=>?_;intro b hb;refine aq (fun h=>?_) (fun h=>?_)
  ·exact Vl 5 32 3 rfl rfl
  ·refine vQ.mk (fun es he=>by cases he) (show 0+0<=maxLen from abe _) (show(0+0)*40<=_ from abe _) ?_;exact bB [5] rfl rfl rfl rfl
 | cons x l =>
  have c:(x::l).map aM≠[]:=by simp
  have a:=sz3 (x::l);have d:((x::l).map aM).length<=2 ^ 30:=by rw[aaP];exact e
  generalize(x::l).map aM=els at c a d ⊢;refine af Try.func61 Gj rfl fun f _=>?_;intro b hb;refine aq (fun h=>vv (hb c) (fun q=>by rw[show b=true from h] at q;cases q)) (fun h=>?_);refine vQ.mk a ?_ ?_ ?_
  ·show 0+els.length<=maxLen;simp only[maxLen];omega
  ·show(0+els.length)*40<=_;omega
  ·exact bB [5] rfl rfl rfl rfl
theorem AY {k:IntKind}{n m:Int}{K:Int->Prop}(h:k.wrap n=m) (a:K m):Fit k n K:=⟨by rw[h];exact a⟩
theorem Qo {i:Int}{o:OM}{Y:C->Prop}{N:Prop}(h:bg o i=none\/bg o i=some false) (k1:Y (.bool false)) (a:N):xD false (i9 C.bool o) (IC i) Y N:=by
 rcases h with h | h
 ·exact yE h a
 ·exact yD h k1
def PD (r:Option (Int×DM×OM)):Value->Prop:=fun v=>r=none/\v=cA 1
theorem oQ {f:Ty->DM->OM->Option (Option (Int×DM×OM))}{x:Ty}{l:List Ty}{k:Int}{d:DM}{o:OM}{r:Option (Int×DM×OM)}(h:dW f (x::l) k d o=some r) :
  ∃a,f x d o=some a/\(a=none->r=none)/\∀b c o',a=some (b,c,o')->dW f l (if b>k then b else k) c o'=some r:=by
 rw[dW] at h;cases hf:f x d o with
 | none=>simp only[hf] at h;cases h
 | some a =>
  refine⟨a,rfl,?_,?_⟩
  ·rintro rfl;simp only[hf] at h;injection h with h;exact h.symm
  ·rintro b c o' rfl;simp only[hf] at h;exact h
theorem AZ {s:List Ty}{n:Nat}{t:Ty}{d:DM}{o:OM}{r:Option (Int×DM×OM)}(h:bE s (n+1) t d o=some r) :
  ∃x,(if t.kind=9 then bQ s t else some (.mk 0 0 []))=some x /\
   (¬x.kind=0->(∃k,bg d t.id=some k/\r=some (k,d,o))\/(bg d t.id=none/\bg o t.id=some true/\r=none) \/
    (bg d t.id=none/\(bg o t.id=none\/bg o t.id=some false)/\∃a,bE s n x d (dX o t.id true)=some a/\(a=none->r=none)/\∀k c o',a=some (k,c,o')->r=some (k,dX c t.id k,o'))) /\
   (x.kind=0->∃a,dW (bE s n) t.args 0 d o=some a/\(a=none->r=none)/\∀k c o',a=some (k,c,o')->r=some (zx (k+1),c,o')):=by
 rw[bE] at h;split at h
 ·cases h
 rename_i x he;refine⟨x,he,fun j=>?_,fun j=>?_⟩
 ·rw[o5 j] at h;split at h
  ·rename_i k f;injection h with h
   exact .inl ⟨k,f,h.symm⟩
  ·rename_i f;split at h
   ·rename_i m;injection h with h
    exact .inr (.inl ⟨f,m,h.symm⟩)
   ·rename_i m;have l:bg o t.id=none\/bg o t.id=some false:=by
     cases e:bg o t.id with
     | none=>exact .inl rfl
     | some b=>cases b with
      | true=>exact vv e m
      | false=>exact .inr rfl
    refine .inr (.inr ⟨f,l,?_⟩);cases h1:bE s n x d (dX o t.id true) with
    | none=>simp only[h1] at h;cases h
    | some a =>
     refine⟨a,rfl,?_,?_⟩
     ·rintro rfl;simp only[h1] at h;injection h with h;exact h.symm
     ·rintro k c o' rfl;simp only[h1] at h;injection h with h;exact h.symm
 ·rw[q9 (fun q=>q j)] at h;cases h1:dW (bE s n) t.args 0 d o with
  | none=>simp only[h1] at h;cases h
  | some a =>
   refine⟨a,rfl,?_,?_⟩
   ·rintro rfl;simp only[h1] at h;injection h with h;exact h.symm
   ·rintro k c o' rfl;simp only[h1] at h;injection h with h;exact h.symm
abbrev I4 (s:List Ty) (d:DM) (o:OM):List TO:=SU s (i9 IC d) (i9 C.bool o)
def Ld (s:List Ty) (r:Option (Int×DM×OM)):List TO->C->Prop:=fun Mo v=>∃k d o,r=some (k,d,o)/\Mo=I4 s d o/\v=IC k
abbrev OV (s:List Ty) (t:Ty) (d:DM) (o:OM) (R:List TO->C->Prop) (Pp:Value->Prop):Prop:=CallsTX P 64 [.own 1000 0,aT t] (I4 s d o) R Pp
section
variable {L:TL}{ρ:aK}
theorem Co (ks:List Nat) {PS:nG}{args a:List C}{K:TL->aK->C->Prop}{s:List Ty}{d:DM}{o:OM}{r:Option (Int×DM×OM)}{Lin:List TO}(h:CallsTX P 64 a (I4 s d o) (Ld s r) (PD r)) (l:L.sub ks=some Lin)
  (f:(T.aP ks&&T.jv L ks ks&&aG Lin ks ks&&jw L ks PS.hb)=true) (p:(args.map fun c=>c.aaj.ren (bA ks 1000))=a) (t:Lin.map (TO.aad (C.ren (bA ks 1000)))=I4 s d o) (n:ks.length=4) (u:∀v,PD r v->PS.ps v)
  (k:∀b e o',r=some (b,e,o')->Wf (IC b)->K (((L.aae ks).kills (rowsOf L ks)).puts ks ((I4 s e o').map (TO.aad (C.ren (aI ks))))) (dh (rowsOf L ks) ρ) (IC b)):kU P PS 64 args L ρ K:=by
 subst p;simp only[aaN] at f;obtain⟨⟨⟨j,m⟩,c3⟩,c4⟩:=f;refine⟨[],ks,ks,L,Lin,_,_,.inl rfl,l,j,j,m,c3,c4,by rw[t];exact h,u,?_⟩;rintro v Mo ⟨b,e,o',x,rfl,rfl⟩ w q;exact⟨n,k b e o' x w⟩
theorem OW (ks:List Nat) {PS:nG}{j:List Nat}{args a:List C}{K:TL->aK->C->Prop}{s:List Ty}{d:DM}{o:OM}{r:Option (Int×DM×OM)}{Lin:List TO}(h:CallsTX P 64 a (I4 s d o) (Ld s r) (PD r)) (l:L.sub ks=some Lin)
  (f:(T.aP ks&&qb ks j&&aG Lin ks ks&&jw L ks PS.hb)=true) (p:(args.map fun c=>c.aaj.ren (bA ks 1000))=a) (t:Lin.map (TO.aad (C.ren (bA ks 1000)))=I4 s d o) (n:ks.length=4) (u:∀v,PD r v->PS.ps v)
  (k:∀b e o',r=some (b,e,o')->Wf (IC b)->K (((L.aae ks).kills (rowsOf L ks)).puts ks ((I4 s e o').map (TO.aad (C.ren (aI ks))))) (dh (rowsOf L ks) ρ) (IC b)):oF P PS j 64 args L ρ K:=by
 subst p;simp only[aaN] at f;obtain⟨⟨⟨x,m⟩,c3⟩,c4⟩:=f;refine⟨ks,Lin,_,_,l,x,m,c3,c4,by rw[t];exact h,u,?_⟩;rintro v Mo ⟨b,e,o',y,rfl,rfl⟩ w q;exact⟨n,k b e o' y w⟩
end
theorem Iq (s:List Ty) (t x:Ty) (d:DM) (o:OM) (k:Int) (c:t.kind=9) (h0:0<=t.id) (a:s[t.id.toNat]?=some x) (b:¬x.kind=0) (e:bg d t.id=some k):OV s t d o (Ld s (some (k,d,o))) (PD (some (k,d,o))):=by
 refine aV Try.func64 mP rfl fun f _=>?_;refine ah (fun _=>?_) (fun q=>vv c q);refine FH.mk h0 (Cn h0 a) ?_;refine K5 a ?_;refine aX (fun _=>?_) (fun q=>vv q b);refine yD e ?_;exact pA [1000,1001,1002,1003] rfl rfl rfl rfl ⟨k,d,o,rfl,rfl,rfl⟩
theorem Ir (s:List Ty) (t x:Ty) (d:DM) (o:OM) (c:t.kind=9) (h0:0<=t.id) (a:s[t.id.toNat]?=some x) (b:¬x.kind=0) (f:bg d t.id=none) (e:bg o t.id=some true):OV s t d o (Ld s none) (PD none):=by
 refine aV Try.func64 mP rfl fun h _=>?_;refine ah (fun _=>?_) (fun q=>vv c q);refine FH.mk h0 (Cn h0 a) ?_;refine K5 a ?_;refine aX (fun _=>?_) (fun q=>vv q b);refine yE f ?_;refine yD e ?_;exact py rfl ⟨rfl,rfl⟩
theorem Le (s:List Ty) (t x:Ty) (d:DM) (o:OM) (m:t.kind=9) (h0:0<=t.id) (b:s[t.id.toNat]?=some x) (l:¬x.kind=0) (u:bg d t.id=none) (p:bg o t.id=none\/bg o t.id=some false)
  (r a:Option (Int×DM×OM)) (h:OV s x d (dX o t.id true) (Ld s a) (PD a)) (j:a=none->r=none) (n:∀k c o',a=some (k,c,o')->r=some (k,dX c t.id k,o')):OV s t d o (Ld s r) (PD r):=by
 refine aV Try.func64 mP rfl fun w _=>?_;refine ah (fun _=>?_) (fun q=>vv m q);refine FH.mk h0 (Cn h0 b) ?_;refine K5 b ?_;refine aX (fun _=>?_) (fun q=>vv q l);refine yE u ?_;refine Qo p ?_ ?_
 all_goals
  refine Im (f:=C.bool) (x:=true) rfl ?_;refine FH.mk h0 (Cn h0 b) ?_;refine RH b ?_;refine OW [1000,1001,1002,1003] h rfl rfl rfl rfl rfl (fun v q=>⟨j q.1,q.2⟩) fun k c o' e _=>?_;refine Im (f:=IC) (x:=k) rfl ?_;exact pA [1000,1001,1002,1003] rfl rfl rfl rfl ⟨k,_,_,n k c o' e,rfl,rfl⟩
theorem Iu (s:List Ty) (t:Ty) (d:DM) (o:OM) (h9:t.kind=9->∃x,0<=t.id/\s[t.id.toNat]?=some x/\x.kind=0)
  (f:Ty->DM->OM->Option (Option (Int×DM×OM))) (ih:∀x d o r,f x d o=some r->OV s x d o (Ld s r) (PD r)) (r:Option (Int×DM×OM)) (r1:Option (Int×DM×OM)) (h:dW f t.args 0 d o=some r1) (ad:r1=none->r=none) (hr:∀k u o',r1=some (k,u,o')->r=some (zx (k+1),u,o')):OV s t d o (Ld s r) (PD r):=by
 have n:(t.args.map aM).length=t.args.length:=aaP _;refine aV Try.func64 mP rfl fun hw _=>?_;have ar:t.args.length<=9223372036854775807:=gO hw.2.1.2.2.1;refine ah (fun ag=>vU (h9 ag) fun x hh=>?_) (fun _=>?_)
 ·have h0:=hh.1;have hx:=hh.2.1;have hk:=hh.2.2;refine FH.mk h0 (Cn h0 hx) ?_;refine K5 hx ?_;refine aX (fun q=>vv hk q) (fun _=>?_);refine cu t.args.length 74 [8] ((0:Int),d,o) (fun x=>[IC x.1]) (fun x=>[(1000,.box 93 [.rw 1001,.mpr 1002,.mpr 1003]),(1001,.row 32 3 (s.map aM)),(1002,.map (i9 IC x.2.1)),(1003,.map (i9 C.bool x.2.2))]) (fun k x=>dW f (t.args.drop k) x.1 x.2.1 x.2.2=some r1) h (ak rfl) ⟨ak rfl,trivial⟩
   ⟨.inl ⟨_,rfl,.inl ⟨rfl,rfl⟩⟩,.inl ⟨_,rfl,.inl ⟨rfl,rfl⟩⟩,.inl ⟨_,rfl,.inl ⟨rfl,rfl⟩⟩,.inl ⟨_,rfl,.inl ⟨rfl,rfl⟩⟩,trivial⟩ (fun _=>rfl) (fun _=>rfl) ?_
  rintro k ⟨m,d,o⟩ an c y _ _;refine ah (fun j=>?_) (fun l=>?_)
  ·have j:k<t.args.length:=by rw[n] at j;omega
   refine aZ j fun x z ae ab=>?_;have c:=c;rw[ab] at c;refine vU (oQ c) fun r2 h2=>?_;refine cP z ?_;refine Co [1000,1001,1002,1003] (ih x d o r2 h2.1) rfl rfl rfl rfl rfl (fun v q=>⟨ad (h2.2.1 q.1▸rfl),q.2⟩) fun p u o' e w=>?_;refine⟨?_,?_⟩
   ·exact Fh (a:=m) (b:=p) y.1 w
   refine Fit.aag (by omega) (by omega) ?_;exact⟨(k+1,((if p>m then p else m),u,o')),⟨j,h2.2.2 p u o' e⟩,⟨bS,.inr (.inl ⟨rfl,rfl⟩),trivial⟩,⟨.inl ⟨_,rfl,.inl ⟨rfl,rfl⟩⟩,.inl ⟨_,rfl,.inl ⟨rfl,rfl⟩⟩,.inl ⟨_,rfl,.inl ⟨rfl,rfl⟩⟩,.inl ⟨_,rfl,.inl ⟨rfl,rfl⟩⟩,trivial⟩,bV j⟩
  ·have l:¬k<t.args.length:=by rw[n] at l;omega
   have c:=c;rw[bW l,dW] at c;refine AY (m:=zx (m+1)) rfl ?_;exact pA [1000,1001,1002,1003] rfl rfl rfl rfl ⟨zx (m+1),d,o,hr m d o (abw c).symm,rfl,rfl⟩
 ·skip
  refine cu t.args.length 74 [8] ((0:Int),d,o) (fun x=>[IC x.1]) (fun x=>[(1000,.box 93 [.rw 1001,.mpr 1002,.mpr 1003]),(1001,.row 32 3 (s.map aM)),(1002,.map (i9 IC x.2.1)),(1003,.map (i9 C.bool x.2.2))]) (fun k x=>dW f (t.args.drop k) x.1 x.2.1 x.2.2=some r1) h (ak rfl) ⟨ak rfl,trivial⟩
   ⟨.inl ⟨_,rfl,.inl ⟨rfl,rfl⟩⟩,.inl ⟨_,rfl,.inl ⟨rfl,rfl⟩⟩,.inl ⟨_,rfl,.inl ⟨rfl,rfl⟩⟩,.inl ⟨_,rfl,.inl ⟨rfl,rfl⟩⟩,trivial⟩ (fun _=>rfl) (fun _=>rfl) ?_
  rintro k ⟨m,d,o⟩ an c y _ _;refine ah (fun j=>?_) (fun l=>?_)
  ·have j:k<t.args.length:=by rw[n] at j;omega
   refine aZ j fun x z ae ab=>?_;have c:=c;rw[ab] at c;refine vU (oQ c) fun r2 h2=>?_;refine cP z ?_;refine Co [1000,1001,1002,1003] (ih x d o r2 h2.1) rfl rfl rfl rfl rfl (fun v q=>⟨ad (h2.2.1 q.1▸rfl),q.2⟩) fun p u o' e w=>?_;refine⟨?_,?_⟩
   ·exact Fh (a:=m) (b:=p) y.1 w
   refine Fit.aag (by omega) (by omega) ?_;exact⟨(k+1,((if p>m then p else m),u,o')),⟨j,h2.2.2 p u o' e⟩,⟨bS,.inr (.inl ⟨rfl,rfl⟩),trivial⟩,⟨.inl ⟨_,rfl,.inl ⟨rfl,rfl⟩⟩,.inl ⟨_,rfl,.inl ⟨rfl,rfl⟩⟩,.inl ⟨_,rfl,.inl ⟨rfl,rfl⟩⟩,.inl ⟨_,rfl,.inl ⟨rfl,rfl⟩⟩,trivial⟩,bV j⟩
  ·have l:¬k<t.args.length:=by rw[n] at l;omega
   have c:=c;rw[bW l,dW] at c;refine AY (m:=zx (m+1)) rfl ?_;exact pA [1000,1001,1002,1003] rfl rfl rfl rfl ⟨zx (m+1),d,o,hr m d o (abw c).symm,rfl,rfl⟩
theorem GH (s:List Ty):∀(n:Nat) (t:Ty) (d:DM) (o:OM) (r:Option (Int×DM×OM)),bE s n t d o=some r->OV s t d o (Ld s r) (PD r)
 | 0,t,d,o,r,h=>by cases h
 | n+1,t,d,o,r,h=>by
  obtain⟨x,he,h⟩:=AZ h
  by_cases b:x.kind=0
  ·have h:=h.2 b;obtain⟨j,h1,p,l⟩:=h;refine Iu s t d o (fun a=>?_) (bE s n) (fun x d o r q=>GH s n x d o r q) r j h1 p l;rw[o5 a] at he;obtain⟨f,c,_⟩:=bJ he;exact⟨x,f,c,b⟩
  ·have a:t.kind=9:=by
    by_cases a:t.kind=9
    ·exact a
    ·rw[q9 a] at he;injection he with he
     rw[<-he] at b;exact vv rfl b
   rw[o5 a] at he;obtain⟨f,c,_⟩:=bJ he;rcases h.1 b with⟨k,e,rfl⟩ | ⟨e,m,rfl⟩ | ⟨e,m,j,h1,p,l⟩
   ·exact Iq s t x d o k a f c b e
   ·exact Ir s t x d o a f c b e m
   ·exact Le s t x d o a f c b e m r j (GH s n x d _ j h1) p l
abbrev I5 (s:List Ty) (d:DM) (o:OM):List TO:=SF s (i9 IC d) (i9 C.bool o)
def Md (s:List Ty) (r:Option (Int×DM×OM)):List TO->C->Prop:=fun Mo v=>∃k d o,r=some (k,d,o)/\Mo=I5 s d o/\v=IC k
abbrev Qp (s:List Ty) (t:Ty) (d:DM) (o:OM) (R:List TO->C->Prop) (Pp:Value->Prop):Prop:=CallsTX P 64 [.own 1000 0,aT t] (I5 s d o) R Pp
section
variable {L:TL}{ρ:aK}
theorem Fj (ks:List Nat) {PS:nG}{args a:List C}{K:TL->aK->C->Prop}{s:List Ty}{d:DM}{o:OM}{r:Option (Int×DM×OM)}{Lin:List TO}(h:CallsTX P 64 a (I5 s d o) (Md s r) (PD r)) (l:L.sub ks=some Lin)
  (f:(T.aP ks&&T.jv L ks ks&&aG Lin ks ks&&jw L ks PS.hb)=true) (p:(args.map fun c=>c.aaj.ren (bA ks 1000))=a) (t:Lin.map (TO.aad (C.ren (bA ks 1000)))=I5 s d o) (n:ks.length=3) (u:∀v,PD r v->PS.ps v)
  (k:∀b e o',r=some (b,e,o')->Wf (IC b)->K (((L.aae ks).kills (rowsOf L ks)).puts ks ((I5 s e o').map (TO.aad (C.ren (aI ks))))) (dh (rowsOf L ks) ρ) (IC b)):kU P PS 64 args L ρ K:=by
 subst p;simp only[aaN] at f;obtain⟨⟨⟨j,m⟩,c3⟩,c4⟩:=f;refine⟨[],ks,ks,L,Lin,_,_,.inl rfl,l,j,j,m,c3,c4,by rw[t];exact h,u,?_⟩;rintro v Mo ⟨b,e,o',x,rfl,rfl⟩ w q;exact⟨n,k b e o' x w⟩
theorem OX (ks:List Nat) {PS:nG}{j:List Nat}{args a:List C}{K:TL->aK->C->Prop}{s:List Ty}{d:DM}{o:OM}{r:Option (Int×DM×OM)}{Lin:List TO}(h:CallsTX P 64 a (I5 s d o) (Md s r) (PD r)) (l:L.sub ks=some Lin)
  (f:(T.aP ks&&qb ks j&&aG Lin ks ks&&jw L ks PS.hb)=true) (p:(args.map fun c=>c.aaj.ren (bA ks 1000))=a) (t:Lin.map (TO.aad (C.ren (bA ks 1000)))=I5 s d o) (n:ks.length=3) (u:∀v,PD r v->PS.ps v)
  (k:∀b e o',r=some (b,e,o')->Wf (IC b)->K (((L.aae ks).kills (rowsOf L ks)).puts ks ((I5 s e o').map (TO.aad (C.ren (aI ks))))) (dh (rowsOf L ks) ρ) (IC b)):oF P PS j 64 args L ρ K:=by
 subst p;simp only[aaN] at f;obtain⟨⟨⟨x,m⟩,c3⟩,c4⟩:=f;refine⟨ks,Lin,_,_,l,x,m,c3,c4,by rw[t];exact h,u,?_⟩;rintro v Mo ⟨b,e,o',y,rfl,rfl⟩ w q;exact⟨n,k b e o' y w⟩
end
theorem Iv (s:List Ty) (t x:Ty) (d:DM) (o:OM) (k:Int) (b:t.kind=9) (h0:0<=t.id) (e:s[t.id.toNat]?=some x) (a:¬x.kind=0) (c:bg d t.id=some k):Qp s t d o (Md s (some (k,d,o))) (PD (some (k,d,o))):=by
 refine aV Try.func64 mP rfl fun f _=>?_;refine ah (fun _=>?_) (fun q=>vv b q);refine yF h0 e ?_;refine aX (fun _=>?_) (fun q=>vv q a);refine yD c ?_;exact pA [1000,1001,1002] rfl rfl rfl rfl ⟨k,d,o,rfl,rfl,rfl⟩
theorem Iw (s:List Ty) (t x:Ty) (d:DM) (o:OM) (b:t.kind=9) (h0:0<=t.id) (f:s[t.id.toNat]?=some x) (a:¬x.kind=0) (e:bg d t.id=none) (c:bg o t.id=some true):Qp s t d o (Md s none) (PD none):=by
 refine aV Try.func64 mP rfl fun h _=>?_;refine ah (fun _=>?_) (fun q=>vv b q);refine yF h0 f ?_;refine aX (fun _=>?_) (fun q=>vv q a);refine yE e ?_;refine yD c ?_;exact py rfl ⟨rfl,rfl⟩
theorem Lg (s:List Ty) (t x:Ty) (d:DM) (o:OM) (m:t.kind=9) (h0:0<=t.id) (j:s[t.id.toNat]?=some x) (l:¬x.kind=0) (u:bg d t.id=none) (p:bg o t.id=none\/bg o t.id=some false)
  (r a:Option (Int×DM×OM)) (h:Qp s x d (dX o t.id true) (Md s a) (PD a)) (c:a=none->r=none) (n:∀k b o',a=some (k,b,o')->r=some (k,dX b t.id k,o')):Qp s t d o (Md s r) (PD r):=by
 refine aV Try.func64 mP rfl fun w _=>?_;refine ah (fun _=>?_) (fun q=>vv m q);refine yF h0 j ?_;refine aX (fun _=>?_) (fun q=>vv q l);refine yE u ?_;refine Qo p ?_ ?_
 all_goals
  refine Im (f:=C.bool) (x:=true) rfl ?_;refine yF h0 j ?_;refine OX [1000,1001,1002] h rfl rfl rfl rfl rfl (fun v q=>⟨c q.1,q.2⟩) fun k b o' e _=>?_;refine Im (f:=IC) (x:=k) rfl ?_;exact pA [1000,1001,1002] rfl rfl rfl rfl ⟨k,_,_,n k b o' e,rfl,rfl⟩
theorem Iy (s:List Ty) (t:Ty) (d:DM) (o:OM) (h9:t.kind=9->∃x,0<=t.id/\s[t.id.toNat]?=some x/\x.kind=0)
  (f:Ty->DM->OM->Option (Option (Int×DM×OM))) (ih:∀x d o r,f x d o=some r->Qp s x d o (Md s r) (PD r)) (r:Option (Int×DM×OM)) (r1:Option (Int×DM×OM)) (h:dW f t.args 0 d o=some r1) (ad:r1=none->r=none) (hr:∀k u o',r1=some (k,u,o')->r=some (zx (k+1),u,o')):Qp s t d o (Md s r) (PD r):=by
 have n:(t.args.map aM).length=t.args.length:=aaP _;refine aV Try.func64 mP rfl fun hw _=>?_;have ar:t.args.length<=9223372036854775807:=gO hw.2.1.2.2.1;refine ah (fun ag=>vU (h9 ag) fun x hh=>?_) (fun _=>?_)
 ·have h0:=hh.1;have hx:=hh.2.1;have hk:=hh.2.2;refine yF h0 hx ?_;refine aX (fun q=>vv hk q) (fun _=>?_);refine cu t.args.length 74 [8] ((0:Int),d,o) (fun x=>[IC x.1]) (fun x=>[(1000,.box 93 [.sl (s.map aM),.mpr 1001,.mpr 1002]),(1001,.map (i9 IC x.2.1)),(1002,.map (i9 C.bool x.2.2))]) (fun k x=>dW f (t.args.drop k) x.1 x.2.1 x.2.2=some r1) h (ak rfl) ⟨ak rfl,trivial⟩
   ⟨.inl ⟨_,rfl,.inl ⟨rfl,rfl⟩⟩,.inl ⟨_,rfl,.inl ⟨rfl,rfl⟩⟩,.inl ⟨_,rfl,.inl ⟨rfl,rfl⟩⟩,trivial⟩ (fun _=>rfl) (fun _=>rfl) ?_
  rintro k ⟨m,d,o⟩ an c y _ _;refine ah (fun j=>?_) (fun l=>?_)
  ·have j:k<t.args.length:=by rw[n] at j;omega
   refine aZ j fun x z ae ab=>?_;have c:=c;rw[ab] at c;refine vU (oQ c) fun r2 h2=>?_;refine cP z ?_;refine Fj [1000,1001,1002] (ih x d o r2 h2.1) rfl rfl rfl rfl rfl (fun v q=>⟨ad (h2.2.1 q.1▸rfl),q.2⟩) fun p u o' e w=>?_;refine⟨?_,?_⟩
   ·exact Fh (a:=m) (b:=p) y.1 w
   refine Fit.aag (by omega) (by omega) ?_;exact⟨(k+1,((if p>m then p else m),u,o')),⟨j,h2.2.2 p u o' e⟩,⟨bS,.inr (.inl ⟨rfl,rfl⟩),trivial⟩,⟨.inl ⟨_,rfl,.inl ⟨rfl,rfl⟩⟩,.inl ⟨_,rfl,.inl ⟨rfl,rfl⟩⟩,.inl ⟨_,rfl,.inl ⟨rfl,rfl⟩⟩,trivial⟩,bV j⟩
  ·have l:¬k<t.args.length:=by rw[n] at l;omega
   have c:=c;rw[bW l,dW] at c;refine AY (m:=zx (m+1)) rfl ?_;exact pA [1000,1001,1002] rfl rfl rfl rfl ⟨zx (m+1),d,o,hr m d o (abw c).symm,rfl,rfl⟩
 ·skip
  refine cu t.args.length 74 [8] ((0:Int),d,o) (fun x=>[IC x.1]) (fun x=>[(1000,.box 93 [.sl (s.map aM),.mpr 1001,.mpr 1002]),(1001,.map (i9 IC x.2.1)),(1002,.map (i9 C.bool x.2.2))]) (fun k x=>dW f (t.args.drop k) x.1 x.2.1 x.2.2=some r1) h (ak rfl) ⟨ak rfl,trivial⟩
   ⟨.inl ⟨_,rfl,.inl ⟨rfl,rfl⟩⟩,.inl ⟨_,rfl,.inl ⟨rfl,rfl⟩⟩,.inl ⟨_,rfl,.inl ⟨rfl,rfl⟩⟩,trivial⟩ (fun _=>rfl) (fun _=>rfl) ?_
  rintro k ⟨m,d,o⟩ an c y _ _;refine ah (fun j=>?_) (fun l=>?_)
  ·have j:k<t.args.length:=by rw[n] at j;omega
   refine aZ j fun x z ae ab=>?_;have c:=c;rw[ab] at c;refine vU (oQ c) fun r2 h2=>?_;refine cP z ?_;refine Fj [1000,1001,1002] (ih x d o r2 h2.1) rfl rfl rfl rfl rfl (fun v q=>⟨ad (h2.2.1 q.1▸rfl),q.2⟩) fun p u o' e w=>?_;refine⟨?_,?_⟩
   ·exact Fh (a:=m) (b:=p) y.1 w
   refine Fit.aag (by omega) (by omega) ?_;exact⟨(k+1,((if p>m then p else m),u,o')),⟨j,h2.2.2 p u o' e⟩,⟨bS,.inr (.inl ⟨rfl,rfl⟩),trivial⟩,⟨.inl ⟨_,rfl,.inl ⟨rfl,rfl⟩⟩,.inl ⟨_,rfl,.inl ⟨rfl,rfl⟩⟩,.inl ⟨_,rfl,.inl ⟨rfl,rfl⟩⟩,trivial⟩,bV j⟩
  ·have l:¬k<t.args.length:=by rw[n] at l;omega
   have c:=c;rw[bW l,dW] at c;refine AY (m:=zx (m+1)) rfl ?_;exact pA [1000,1001,1002] rfl rfl rfl rfl ⟨zx (m+1),d,o,hr m d o (abw c).symm,rfl,rfl⟩
theorem Lh (s:List Ty):∀(n:Nat) (t:Ty) (d:DM) (o:OM) (r:Option (Int×DM×OM)),bE s n t d o=some r->Qp s t d o (Md s r) (PD r)
 | 0,t,d,o,r,h=>by cases h
 | n+1,t,d,o,r,h=>by
  obtain⟨x,he,h⟩:=AZ h
  by_cases b:x.kind=0
  ·have h:=h.2 b;obtain⟨j,h1,p,l⟩:=h;refine Iy s t d o (fun a=>?_) (bE s n) (fun x d o r q=>Lh s n x d o r q) r j h1 p l;rw[o5 a] at he;obtain⟨f,c,_⟩:=bJ he;exact⟨x,f,c,b⟩
  ·have a:t.kind=9:=by
    by_cases a:t.kind=9
    ·exact a
    ·rw[q9 a] at he;injection he with he
     rw[<-he] at b;exact vv rfl b
   rw[o5 a] at he;obtain⟨f,c,_⟩:=bJ he;rcases h.1 b with⟨k,e,rfl⟩ | ⟨e,m,rfl⟩ | ⟨e,m,j,h1,p,l⟩
   ·exact Iv s t x d o k a f c b e
   ·exact Iw s t x d o a f c b e m
   ·exact Lg s t x d o a f c b e m r j (Lh s n x d _ j h1) p l
end Go.Fr.Try
