/- Part of the proofs of the statements of this seat. -/
import Derived.Test.YthfdbepkalpplaaUnV1G
set_option maxRecDepth 10000
set_option linter.unusedVariables false
set_option linter.unusedSimpArgs false
namespace Go.Fr.Try
open Go Go.RowKit Go.Proofs Go.Fr Go.Fr.T Go.Fr.Api
abbrev SU (s:List Ty) (D O:List (C×C)):List TO:=[.box 93 [.rw 1001,.mpr 1002,.mpr 1003],.row 32 3 (s.map aD),.map D,.map O]
abbrev SF (s:List Ty) (D O:List (C×C)):List TO:=[.box 93 [.sl (s.map aD),.mpr 1001,.mpr 1002],.map D,.map O]
abbrev SO (k:Nat) (D O:List (C×C)):List TO:=[.box 93 [.opq k,.mpr 1001,.mpr 1002],.map D,.map O]
abbrev ql (s:List Ty):List TO:=[.box 93 [.rw 1001,.any,.any],.row 32 3 (s.map aD)]
abbrev vF (s:List Ty):List TO:=[.box 93 [.sl (s.map aD),.any,.any]]
theorem C9 (n:Int) (t:Ty):ins n t=if t.kind<1\/9<t.kind then false else if t.kind=9 then decide (0<=t.id)&&decide (t.id<n)&&decide (t.args.length=0) else !t.args.any fun x=>!ins n x:=by
 rw[qX];congr 1;congr 1;rw[List.all_eq_not_any_not]
theorem TB (s:List Ty) (D O:List (C×C)) (l:List Ty) (q:Ty->Bool) (h:∀x∈l,CallsT P 94 [aK x,.own 1000 0] [.box 89 [.own 1001 0],.box 93 [.rw 1002,.mpr 1003,.mpr 1004],.row 32 3 (s.map aD),.map D,.map O] (aQ [.box 89 [.own 1001 0],.box 93 [.rw 1002,.mpr 1003,.mpr 1004],.row 32 3 (s.map aD),.map D,.map O] (.bool (q x)))) :
  CallsT P 92 [.sl (l.map aD),.fn 94 [] [.own 1000 0]] [.box 89 [.own 1001 0],.box 93 [.rw 1002,.mpr 1003,.mpr 1004],.row 32 3 (s.map aD),.map D,.map O] (aQ [.box 89 [.own 1001 0],.box 93 [.rw 1002,.mpr 1003,.mpr 1004],.row 32 3 (s.map aD),.map D,.map O] (IC (fidx q l 0))):=by
 have d:(l.map aD).length=l.length:=vz _;refine af Try.func92 uP rfl fun n _=>?_;have m:l.length<=9223372036854775807:=dU n.1;refine bA l.length 8 [] () (fun _=>[]) (fun _=>[(1000,.box 89 [.own 1001 0]),(1001,.box 93 [.rw 1002,.mpr 1003,.mpr 1004]),(1002,.row 32 3 (s.map aD)),(1003,.map D),(1004,.map O)]) (fun k _=>fidx q (l.drop k) k=fidx q l 0) rfl (aj rfl) trivial ⟨.inl ⟨_,rfl,.inl ⟨rfl,rfl⟩⟩,.inl ⟨_,rfl,.inl ⟨rfl,rfl⟩⟩,.inl ⟨_,rfl,.inl ⟨rfl,rfl⟩⟩,.inl ⟨_,rfl,.inl ⟨rfl,rfl⟩⟩,.inl ⟨_,rfl,.inl ⟨rfl,rfl⟩⟩,trivial⟩ (fun _=>rfl) (fun _=>rfl) ?_;rintro k _ p a _ _ _;refine ah (fun b=>?_) (fun c=>?_)
 ·have b:k<l.length:=by rw[d] at b;omega
  refine aX b fun x o f e=>?_;refine bW o ?_;refine callO [1000,1001,1002,1003,1004] [1000,1001,1002,1003,1004] (h x f) rfl rfl rfl rfl rfl fun _ _=>?_;refine aq (fun j=>?_) (fun j=>?_)
  ·exact bJ [1000,1001,1002,1003,1004] rfl rfl rfl (vv IC (rf e a j))
  ·refine Fit.aar (by omega) (by omega) ?_;exact⟨(k+1,()),⟨b,uY e a j⟩,⟨aZ,trivial⟩,⟨.inl ⟨_,rfl,.inl ⟨rfl,rfl⟩⟩,.inl ⟨_,rfl,.inl ⟨rfl,rfl⟩⟩,.inl ⟨_,rfl,.inl ⟨rfl,rfl⟩⟩,.inl ⟨_,rfl,.inl ⟨rfl,rfl⟩⟩,.inl ⟨_,rfl,.inl ⟨rfl,rfl⟩⟩,trivial⟩,bf b⟩
 ·have c:¬k<l.length:=by rw[d] at c;omega
  exact bJ [1000,1001,1002,1003,1004] rfl rfl rfl (vv IC (ri c a))
theorem TD (s:List Ty) (D O:List (C×C)) (l:List Ty) (q:Ty->Bool) (h:∀x∈l,CallsT P 94 [aK x,.own 1000 0] [.box 89 [.own 1001 0],.box 93 [.rw 1002,.mpr 1003,.mpr 1004],.row 32 3 (s.map aD),.map D,.map O] (aQ [.box 89 [.own 1001 0],.box 93 [.rw 1002,.mpr 1003,.mpr 1004],.row 32 3 (s.map aD),.map D,.map O] (.bool (q x)))) :
  CallsT P 49 [.sl (l.map aD),.fn 94 [] [.own 1000 0]] [.box 89 [.own 1001 0],.box 93 [.rw 1002,.mpr 1003,.mpr 1004],.row 32 3 (s.map aD),.map D,.map O] (aQ [.box 89 [.own 1001 0],.box 93 [.rw 1002,.mpr 1003,.mpr 1004],.row 32 3 (s.map aD),.map D,.map O] (.bool (l.any q))):=by
 have a:=TB s D O l q h;have e:=rj q l;generalize fidx q l 0=n at a e;refine af Try.func49 uN rfl fun b _=>?_;refine callO [1000,1001,1002,1003,1004] [1000,1001,1002,1003,1004] a rfl rfl rfl rfl rfl fun _ _=>?_;exact bJ [1000,1001,1002,1003,1004] rfl rfl rfl (vv C.bool e)
theorem Vs (s:List Ty) (D O:List (C×C)) (x:Ty) (b:Bool) (h:CallsT P 59 [.own 1000 0,aK x] (SU s D O) (aQ (SU s D O) (.bool b))) :
  CallsT P 94 [aK x,.own 1000 0] [.box 89 [.own 1001 0],.box 93 [.rw 1002,.mpr 1003,.mpr 1004],.row 32 3 (s.map aD),.map D,.map O] (aQ [.box 89 [.own 1001 0],.box 93 [.rw 1002,.mpr 1003,.mpr 1004],.row 32 3 (s.map aD),.map D,.map O] (.bool (!b))):=by
 refine af Try.func94 CY rfl fun a _=>?_;refine callO [1001,1002,1003,1004] [1001,1002,1003,1004] h rfl rfl rfl rfl rfl fun _ _=>?_;exact bJ [1000,1001,1002,1003,1004] rfl rfl rfl rfl
theorem Se (s:List Ty) (D O:List (C×C)):∀t:Ty,CallsT P 59 [.own 1000 0,aK t] (SU s D O) (aQ (SU s D O) (.bool (ins s.length t))):=cL fun t e=>by
 have h49:=TD s D O t.args (fun x=>!ins s.length x) fun x d=>Vs s D O x _ (e x d);rw[C9];generalize(t.args.any fun x=>!ins s.length x)=b at h49 ⊢;have a:(s.map aD).length=s.length:=vz _;have c:(t.args.map aD).length=t.args.length:=vz _;refine af Try.func59 CV rfl fun f _=>?_;refine ah (fun h1=>?_) (fun h1=>?_)
 ·exact bJ [1000,1001,1002,1003] rfl rfl rfl (vv C.bool (by rw[eu (Or.inl h1)]))
 refine ah (fun h2=>?_) (fun h2=>?_)
 ·exact bJ [1000,1001,1002,1003] rfl rfl rfl (vv C.bool (by rw[eu (Or.inr h2)]))
 have h12:¬(t.kind<1\/9<t.kind):=fun q=>q.elim (fun q=>h1 q) (fun q=>h2 q);refine ah (fun h3=>?_) (fun h3=>?_)
 ·refine ah (fun h4=>?_) (fun h4=>?_)
  ·skip
   refine ah (fun h5=>?_) (fun h5=>?_)
   ·exact bJ [1000,1001,1002,1003] rfl rfl rfl (vv C.bool (by rw[fo h12,eu h3,aa2 (show(0:Int)<=t.id from h4),aa2 (show t.id<(s.length:Int) from by rw[a] at h5;exact h5),aa7,aa7];exact decide_eq_decide.2 (by rw[c];omega)))
   ·exact bJ [1000,1001,1002,1003] rfl rfl rfl (vv C.bool (by rw[fo h12,eu h3,aa3 (show¬t.id<(s.length:Int) from by rw[a] at h5;exact h5),aby,abb]))
  ·exact bJ [1000,1001,1002,1003] rfl rfl rfl (vv C.bool (by rw[fo h12,eu h3,aa3 (show¬(0:Int)<=t.id from h4),abb,abb]))
 refine callO [2,1000,1001,1002,1003] [2,1000,1001,1002,1003] h49 rfl rfl rfl rfl rfl fun _ _=>?_;exact bJ [1000,1001,1002,1003] rfl rfl rfl (vv C.bool (by rw[fo h12,fo h3]))
theorem TF (s:List Ty) (D O:List (C×C)) (l:List Ty) (q:Ty->Bool) (h:∀x∈l,CallsT P 94 [aK x,.own 1000 0] [.box 89 [.own 1001 0],.box 93 [.sl (s.map aD),.mpr 1002,.mpr 1003],.map D,.map O] (aQ [.box 89 [.own 1001 0],.box 93 [.sl (s.map aD),.mpr 1002,.mpr 1003],.map D,.map O] (.bool (q x)))) :
  CallsT P 92 [.sl (l.map aD),.fn 94 [] [.own 1000 0]] [.box 89 [.own 1001 0],.box 93 [.sl (s.map aD),.mpr 1002,.mpr 1003],.map D,.map O] (aQ [.box 89 [.own 1001 0],.box 93 [.sl (s.map aD),.mpr 1002,.mpr 1003],.map D,.map O] (IC (fidx q l 0))):=by
 have d:(l.map aD).length=l.length:=vz _;refine af Try.func92 uP rfl fun n _=>?_;have m:l.length<=9223372036854775807:=dU n.1;refine bA l.length 8 [] () (fun _=>[]) (fun _=>[(1000,.box 89 [.own 1001 0]),(1001,.box 93 [.sl (s.map aD),.mpr 1002,.mpr 1003]),(1002,.map D),(1003,.map O)]) (fun k _=>fidx q (l.drop k) k=fidx q l 0) rfl (aj rfl) trivial ⟨.inl ⟨_,rfl,.inl ⟨rfl,rfl⟩⟩,.inl ⟨_,rfl,.inl ⟨rfl,rfl⟩⟩,.inl ⟨_,rfl,.inl ⟨rfl,rfl⟩⟩,.inl ⟨_,rfl,.inl ⟨rfl,rfl⟩⟩,trivial⟩ (fun _=>rfl) (fun _=>rfl) ?_;rintro k _ p a _ _ _;refine ah (fun b=>?_) (fun c=>?_)
 ·have b:k<l.length:=by rw[d] at b;omega
  refine aX b fun x o f e=>?_;refine bW o ?_;refine callO [1000,1001,1002,1003] [1000,1001,1002,1003] (h x f) rfl rfl rfl rfl rfl fun _ _=>?_;refine aq (fun j=>?_) (fun j=>?_)
  ·exact bJ [1000,1001,1002,1003] rfl rfl rfl (vv IC (rf e a j))
  ·refine Fit.aar (by omega) (by omega) ?_;exact⟨(k+1,()),⟨b,uY e a j⟩,⟨aZ,trivial⟩,⟨.inl ⟨_,rfl,.inl ⟨rfl,rfl⟩⟩,.inl ⟨_,rfl,.inl ⟨rfl,rfl⟩⟩,.inl ⟨_,rfl,.inl ⟨rfl,rfl⟩⟩,.inl ⟨_,rfl,.inl ⟨rfl,rfl⟩⟩,trivial⟩,bf b⟩
 ·have c:¬k<l.length:=by rw[d] at c;omega
  exact bJ [1000,1001,1002,1003] rfl rfl rfl (vv IC (ri c a))
theorem TG (s:List Ty) (D O:List (C×C)) (l:List Ty) (q:Ty->Bool) (h:∀x∈l,CallsT P 94 [aK x,.own 1000 0] [.box 89 [.own 1001 0],.box 93 [.sl (s.map aD),.mpr 1002,.mpr 1003],.map D,.map O] (aQ [.box 89 [.own 1001 0],.box 93 [.sl (s.map aD),.mpr 1002,.mpr 1003],.map D,.map O] (.bool (q x)))) :
  CallsT P 49 [.sl (l.map aD),.fn 94 [] [.own 1000 0]] [.box 89 [.own 1001 0],.box 93 [.sl (s.map aD),.mpr 1002,.mpr 1003],.map D,.map O] (aQ [.box 89 [.own 1001 0],.box 93 [.sl (s.map aD),.mpr 1002,.mpr 1003],.map D,.map O] (.bool (l.any q))):=by
 have a:=TF s D O l q h;have e:=rj q l;generalize fidx q l 0=n at a e;refine af Try.func49 uN rfl fun b _=>?_;refine callO [1000,1001,1002,1003] [1000,1001,1002,1003] a rfl rfl rfl rfl rfl fun _ _=>?_;exact bJ [1000,1001,1002,1003] rfl rfl rfl (vv C.bool e)
theorem Vt (s:List Ty) (D O:List (C×C)) (x:Ty) (b:Bool) (h:CallsT P 59 [.own 1000 0,aK x] (SF s D O) (aQ (SF s D O) (.bool b))) :
  CallsT P 94 [aK x,.own 1000 0] [.box 89 [.own 1001 0],.box 93 [.sl (s.map aD),.mpr 1002,.mpr 1003],.map D,.map O] (aQ [.box 89 [.own 1001 0],.box 93 [.sl (s.map aD),.mpr 1002,.mpr 1003],.map D,.map O] (.bool (!b))):=by
 refine af Try.func94 CY rfl fun a _=>?_;refine callO [1001,1002,1003] [1001,1002,1003] h rfl rfl rfl rfl rfl fun _ _=>?_;exact bJ [1000,1001,1002,1003] rfl rfl rfl rfl
theorem MG (s:List Ty) (D O:List (C×C)):∀t:Ty,CallsT P 59 [.own 1000 0,aK t] (SF s D O) (aQ (SF s D O) (.bool (ins s.length t))):=cL fun t e=>by
 have h49:=TG s D O t.args (fun x=>!ins s.length x) fun x d=>Vt s D O x _ (e x d);rw[C9];generalize(t.args.any fun x=>!ins s.length x)=b at h49 ⊢;have a:(s.map aD).length=s.length:=vz _;have c:(t.args.map aD).length=t.args.length:=vz _;refine af Try.func59 CV rfl fun f _=>?_;refine ah (fun h1=>?_) (fun h1=>?_)
 ·exact bJ [1000,1001,1002] rfl rfl rfl (vv C.bool (by rw[eu (Or.inl h1)]))
 refine ah (fun h2=>?_) (fun h2=>?_)
 ·exact bJ [1000,1001,1002] rfl rfl rfl (vv C.bool (by rw[eu (Or.inr h2)]))
 have h12:¬(t.kind<1\/9<t.kind):=fun q=>q.elim (fun q=>h1 q) (fun q=>h2 q);refine ah (fun h3=>?_) (fun h3=>?_)
 ·refine ah (fun h4=>?_) (fun h4=>?_)
  ·skip
   refine ah (fun h5=>?_) (fun h5=>?_)
   ·exact bJ [1000,1001,1002] rfl rfl rfl (vv C.bool (by rw[fo h12,eu h3,aa2 (show(0:Int)<=t.id from h4),aa2 (show t.id<(s.length:Int) from by rw[a] at h5;exact h5),aa7,aa7];exact decide_eq_decide.2 (by rw[c];omega)))
   ·exact bJ [1000,1001,1002] rfl rfl rfl (vv C.bool (by rw[fo h12,eu h3,aa3 (show¬t.id<(s.length:Int) from by rw[a] at h5;exact h5),aby,abb]))
  ·exact bJ [1000,1001,1002] rfl rfl rfl (vv C.bool (by rw[fo h12,eu h3,aa3 (show¬(0:Int)<=t.id from h4),abb,abb]))
 refine callO [2,1000,1001,1002] [2,1000,1001,1002] h49 rfl rfl rfl rfl rfl fun _ _=>?_;exact bJ [1000,1001,1002] rfl rfl rfl (vv C.bool (by rw[fo h12,fo h3]))
theorem TH (k n:Nat) (D O:List (C×C)) (l:List Ty) (q:Ty->Bool) (h:∀x∈l,CallsT P 94 [aK x,.own 1000 0] [.box 89 [.own 1001 0],.box 93 [.opq k,.mpr 1002,.mpr 1003],.map D,.map O] (aQ [.box 89 [.own 1001 0],.box 93 [.opq k,.mpr 1002,.mpr 1003],.map D,.map O] (.bool (q x)))) :
  CallsT P 92 [.sl (l.map aD),.fn 94 [] [.own 1000 0]] [.box 89 [.own 1001 0],.box 93 [.opq k,.mpr 1002,.mpr 1003],.map D,.map O] (aQ [.box 89 [.own 1001 0],.box 93 [.opq k,.mpr 1002,.mpr 1003],.map D,.map O] (IC (fidx q l 0))):=by
 have d:(l.map aD).length=l.length:=vz _;refine af Try.func92 uP rfl fun o _=>?_;have m:l.length<=9223372036854775807:=dU o.1;refine bA l.length 8 [] () (fun _=>[]) (fun _=>[(1000,.box 89 [.own 1001 0]),(1001,.box 93 [.opq k,.mpr 1002,.mpr 1003]),(1002,.map D),(1003,.map O)]) (fun k _=>fidx q (l.drop k) k=fidx q l 0) rfl (aj rfl) trivial ⟨.inl ⟨_,rfl,.inl ⟨rfl,rfl⟩⟩,.inl ⟨_,rfl,.inl ⟨rfl,rfl⟩⟩,.inl ⟨_,rfl,.inl ⟨rfl,rfl⟩⟩,.inl ⟨_,rfl,.inl ⟨rfl,rfl⟩⟩,trivial⟩ (fun _=>rfl) (fun _=>rfl) ?_;rintro k _ r a _ _ _;refine ah (fun b=>?_) (fun c=>?_)
 ·have b:k<l.length:=by rw[d] at b;omega
  refine aX b fun x p f e=>?_;refine bW p ?_;refine callO [1000,1001,1002,1003] [1000,1001,1002,1003] (h x f) rfl rfl rfl rfl rfl fun _ _=>?_;refine aq (fun j=>?_) (fun j=>?_)
  ·exact bJ [1000,1001,1002,1003] rfl rfl rfl (vv IC (rf e a j))
  ·refine Fit.aar (by omega) (by omega) ?_;exact⟨(k+1,()),⟨b,uY e a j⟩,⟨aZ,trivial⟩,⟨.inl ⟨_,rfl,.inl ⟨rfl,rfl⟩⟩,.inl ⟨_,rfl,.inl ⟨rfl,rfl⟩⟩,.inl ⟨_,rfl,.inl ⟨rfl,rfl⟩⟩,.inl ⟨_,rfl,.inl ⟨rfl,rfl⟩⟩,trivial⟩,bf b⟩
 ·have c:¬k<l.length:=by rw[d] at c;omega
  exact bJ [1000,1001,1002,1003] rfl rfl rfl (vv IC (ri c a))
theorem TI (k n:Nat) (D O:List (C×C)) (l:List Ty) (q:Ty->Bool) (h:∀x∈l,CallsT P 94 [aK x,.own 1000 0] [.box 89 [.own 1001 0],.box 93 [.opq k,.mpr 1002,.mpr 1003],.map D,.map O] (aQ [.box 89 [.own 1001 0],.box 93 [.opq k,.mpr 1002,.mpr 1003],.map D,.map O] (.bool (q x)))) :
  CallsT P 49 [.sl (l.map aD),.fn 94 [] [.own 1000 0]] [.box 89 [.own 1001 0],.box 93 [.opq k,.mpr 1002,.mpr 1003],.map D,.map O] (aQ [.box 89 [.own 1001 0],.box 93 [.opq k,.mpr 1002,.mpr 1003],.map D,.map O] (.bool (l.any q))):=by
 have a:=TH k n D O l q h;have e:=rj q l;generalize fidx q l 0=n at a e;refine af Try.func49 uN rfl fun b _=>?_;refine callO [1000,1001,1002,1003] [1000,1001,1002,1003] a rfl rfl rfl rfl rfl fun _ _=>?_;exact bJ [1000,1001,1002,1003] rfl rfl rfl (vv C.bool e)
theorem Vu (k n:Nat) (D O:List (C×C)) (x:Ty) (b:Bool) (h:CallsT P 59 [.own 1000 0,aK x] (SO k D O) (aQ (SO k D O) (.bool b))) :
  CallsT P 94 [aK x,.own 1000 0] [.box 89 [.own 1001 0],.box 93 [.opq k,.mpr 1002,.mpr 1003],.map D,.map O] (aQ [.box 89 [.own 1001 0],.box 93 [.opq k,.mpr 1002,.mpr 1003],.map D,.map O] (.bool (!b))):=by
 refine af Try.func94 CY rfl fun a _=>?_;refine callO [1001,1002,1003] [1001,1002,1003] h rfl rfl rfl rfl rfl fun _ _=>?_;exact bJ [1000,1001,1002,1003] rfl rfl rfl rfl
theorem Vv (k n:Nat) (D O:List (C×C)) (c:sP k=some n) (d:n<=9223372036854775807):∀t:Ty,CallsT P 59 [.own 1000 0,aK t] (SO k D O) (aQ (SO k D O) (.bool (ins n t))):=cL fun t f=>by
 have h49:=TI k n D O t.args (fun x=>!ins n x) fun x e=>Vu k n D O x _ (f x e);rw[C9];generalize(t.args.any fun x=>!ins n x)=b at h49 ⊢;have h:n=n:=rfl;have a:(t.args.map aD).length=t.args.length:=vz _;refine af Try.func59 CV rfl fun j _=>?_;refine ah (fun h1=>?_) (fun h1=>?_)
 ·exact bJ [1000,1001,1002] rfl rfl rfl (vv C.bool (by rw[eu (Or.inl h1)]))
 refine ah (fun h2=>?_) (fun h2=>?_)
 ·exact bJ [1000,1001,1002] rfl rfl rfl (vv C.bool (by rw[eu (Or.inr h2)]))
 have h12:¬(t.kind<1\/9<t.kind):=fun q=>q.elim (fun q=>h1 q) (fun q=>h2 q);refine ah (fun h3=>?_) (fun h3=>?_)
 ·refine ah (fun h4=>?_) (fun h4=>?_)
  ·skip
   refine KR.mk ⟨n,c,d,?_⟩;refine ah (fun h5=>?_) (fun h5=>?_)
   ·exact bJ [1000,1001,1002] rfl rfl rfl (vv C.bool (by rw[fo h12,eu h3,aa2 (show(0:Int)<=t.id from h4),aa2 (show t.id<(n:Int) from h5),aa7,aa7];exact decide_eq_decide.2 (by rw[a];omega)))
   ·exact bJ [1000,1001,1002] rfl rfl rfl (vv C.bool (by rw[fo h12,eu h3,aa3 (show¬t.id<(n:Int) from h5),aby,abb]))
  ·exact bJ [1000,1001,1002] rfl rfl rfl (vv C.bool (by rw[fo h12,eu h3,aa3 (show¬(0:Int)<=t.id from h4),abb,abb]))
 refine callO [2,1000,1001,1002] [2,1000,1001,1002] h49 rfl rfl rfl rfl rfl fun _ _=>?_;exact bJ [1000,1001,1002] rfl rfl rfl (vv C.bool (by rw[fo h12,fo h3]))
theorem MH {s:List Ty}{i:Nat}{x:Ty}{K:List C->Prop}(a:s[i]?=some x) (h:K [IC x.kind]):FU (s.map aD) i 0 1 K :=
 ⟨[IC x.kind,IC x.id,.sl (x.args.map aD)],by rw[abk,a,abI,iP],rfl,h⟩
theorem TJ {s:List Ty}{i:Nat}{x:Ty}{K:List C->Prop}(a:s[i]?=some x) (h:K [IC x.kind,IC x.id,.sl (x.args.map aD)]):FU (s.map aD) i 0 3 K :=
 ⟨[IC x.kind,IC x.id,.sl (x.args.map aD)],by rw[abk,a,abI,iP],rfl,h⟩
theorem kg {s:List Ty}{z:Int}{x:Ty}{K:List C->Prop}(h0:0<=z) (a:s[z.toNat]?=some x) (h:K [IC x.kind,IC x.id,.sl (x.args.map aD)]):ur (s.map aD) z 3 K :=
 ⟨_,h0,by rw[abk,a,abI,iP],rfl,h⟩
theorem Da {s:List Ty}{z:Int}{x:Ty}(h0:0<=z) (a:s[z.toNat]?=some x):z<((s.map aD).length:Int):=by
 have:=(aa6.1 a).1;rw[vz];omega
theorem pY {s:List Ty}{n:Nat}{c r:Ty}(h:aP s n c=some r):∃m,n=m+1/\((c.kind≠9/\r=c)\/(c.kind=9/\∃x,0<=c.id/\s[c.id.toNat]?=some x/\((x.kind=0/\r=c)\/(x.kind≠0/\aP s m x=some r)))):=by
 cases n with
 | zero=>cases h
 | succ m =>
  refine⟨m,rfl,?_⟩;rw[aP] at h
  by_cases a:c.kind=9
  ·rw[eu a] at h;refine .inr ⟨a,?_⟩;cases he:bS s c with
   | none=>rw[he] at h;cases h
   | some x =>
    rw[he] at h;obtain⟨d,b,_⟩:=bD he;refine⟨x,d,b,?_⟩
    by_cases h0:x.kind=0
    ·refine .inl ⟨h0,?_⟩;simp only[h0,eu] at h;injection h with h;exact h.symm
    ·refine .inr ⟨h0,?_⟩;simp only[h0,ab6] at h;exact h
  ·rw[fo a] at h;injection h with h
   exact .inl ⟨a,h.symm⟩
theorem HZ (s:List Ty) (n:Nat) (t r:Ty) (h:aP s n t=some r):CallsT P 96 [.own 1000 0,aK t] (ql s) (aQ (ql s) (aK r)):=by
 refine af Try.func96 HJ rfl fun o _=>?_;refine wN.mk ⟨Nat×Ty,(n,t),fun x=>aP s x.1 x.2=some r,[],fun _=>[],fun x=>[(3,.box 32 [IC x.2.kind,IC x.2.id,.sl (x.2.args.map aD)]),(4,.box 32 [IC 0,IC 0,.nils]),(1000,.box 93 [.rw 1001,.any,.any]),(1001,.row 32 3 (s.map aD))],fun x=>x.1,h,trivial,
  ⟨.inl ⟨_,rfl,.inl ⟨rfl,rfl⟩⟩,.inl ⟨_,rfl,.inl ⟨rfl,rfl⟩⟩,.inl ⟨_,rfl,.inl ⟨rfl,rfl⟩⟩,.inl ⟨_,rfl,.inl ⟨rfl,rfl⟩⟩,trivial⟩,fun _=>rfl,fun _=>rfl,?_⟩
 rintro⟨n,c⟩ b _ _;refine oP (pY b) fun m k=>?_;refine ah (fun l=>?_) (fun l=>?_)
 ·refine oP (k.2.resolve_left fun q=>q.1 l).2 fun x f=>?_;have h0:=f.1;have d:=f.2.1;refine Ao.mk (by simpa using h0) (Da h0 d) ?_;refine MH d ?_;refine aT (fun j=>?_) (fun j=>?_)
  ·have a:=f.2.2.resolve_left fun q=>j q.1;refine Ao.mk (by simpa using h0) (Da h0 d) ?_;refine TJ d ?_;exact⟨(m,x),a.2,trivial,⟨.inl ⟨_,rfl,.inl ⟨rfl,rfl⟩⟩,.inl ⟨_,rfl,.inl ⟨rfl,rfl⟩⟩,.inl ⟨_,rfl,.inl ⟨rfl,rfl⟩⟩,.inl ⟨_,rfl,.inl ⟨rfl,rfl⟩⟩,trivial⟩,by have e:n=m+1:=k.1;show m<n;omega⟩
  ·have a:=f.2.2.resolve_right fun q=>q.1 j;exact bJ [1000,1001] rfl rfl rfl (by rw[a.2];rfl)
 ·have a:=k.2.resolve_right fun q=>l q.1;exact bJ [1000,1001] rfl rfl rfl (by rw[a.2];rfl)
theorem Vw (s:List Ty) (n:Nat) (t r:Ty) (h:aP s n t=some r):CallsT P 96 [.own 1000 0,aK t] (vF s) (aQ (vF s) (aK r)):=by
 refine af Try.func96 HJ rfl fun o _=>?_;refine wN.mk ⟨Nat×Ty,(n,t),fun x=>aP s x.1 x.2=some r,[],fun _=>[],fun x=>[(3,.box 32 [IC x.2.kind,IC x.2.id,.sl (x.2.args.map aD)]),(4,.box 32 [IC 0,IC 0,.nils]),(1000,.box 93 [.sl (s.map aD),.any,.any])],fun x=>x.1,h,trivial,
  ⟨.inl ⟨_,rfl,.inl ⟨rfl,rfl⟩⟩,.inl ⟨_,rfl,.inl ⟨rfl,rfl⟩⟩,.inl ⟨_,rfl,.inl ⟨rfl,rfl⟩⟩,trivial⟩,fun _=>rfl,fun _=>rfl,?_⟩
 rintro⟨n,c⟩ b _ _;refine oP (pY b) fun m j=>?_;refine ah (fun k=>?_) (fun k=>?_)
 ·refine oP (j.2.resolve_left fun q=>q.1 k).2 fun x d=>?_;have h0:=d.1;have l:=d.2.1;refine kg h0 l ?_;refine aT (fun f=>?_) (fun f=>?_)
  ·have a:=d.2.2.resolve_left fun q=>f q.1;refine kg h0 l ?_;exact⟨(m,x),a.2,trivial,⟨.inl ⟨_,rfl,.inl ⟨rfl,rfl⟩⟩,.inl ⟨_,rfl,.inl ⟨rfl,rfl⟩⟩,.inl ⟨_,rfl,.inl ⟨rfl,rfl⟩⟩,trivial⟩,by have e:n=m+1:=j.1;show m<n;omega⟩
  ·have a:=d.2.2.resolve_right fun q=>q.1 f;exact bJ [1000] rfl rfl rfl (by rw[a.2];rfl)
 ·have a:=j.2.resolve_right fun q=>k q.1;exact bJ [1000] rfl rfl rfl (by rw[a.2];rfl)
theorem Vx (s:List Ty) (v:Int) (l:List Ty) (q:Ty->Bool) (h:∀x∈l,CallsT P 113 [aK x,.own 1000 0,.pt [IC v] 0] [.box 89 [.own 1001 0],.box 93 [.rw 1002,.any,.any],.row 32 3 (s.map aD)] (aQ [.box 89 [.own 1001 0],.box 93 [.rw 1002,.any,.any],.row 32 3 (s.map aD)] (.bool (q x)))) :
  CallsT P 92 [.sl (l.map aD),.fn 113 [] [.own 1000 0,.pt [IC v] 0]] [.box 89 [.own 1001 0],.box 93 [.rw 1002,.any,.any],.row 32 3 (s.map aD)] (aQ [.box 89 [.own 1001 0],.box 93 [.rw 1002,.any,.any],.row 32 3 (s.map aD)] (IC (fidx q l 0))):=by
 have d:(l.map aD).length=l.length:=vz _;refine af Try.func92 uP rfl fun n _=>?_;have m:l.length<=9223372036854775807:=dU n.1;refine bA l.length 8 [] () (fun _=>[]) (fun _=>[(1000,.box 89 [.own 1001 0]),(1001,.box 93 [.rw 1002,.any,.any]),(1002,.row 32 3 (s.map aD))]) (fun k _=>fidx q (l.drop k) k=fidx q l 0) rfl (aj rfl) trivial ⟨.inl ⟨_,rfl,.inl ⟨rfl,rfl⟩⟩,.inl ⟨_,rfl,.inl ⟨rfl,rfl⟩⟩,.inl ⟨_,rfl,.inl ⟨rfl,rfl⟩⟩,trivial⟩ (fun _=>rfl) (fun _=>rfl) ?_;rintro k _ p a _ _ _;refine ah (fun b=>?_) (fun c=>?_)
 ·have b:k<l.length:=by rw[d] at b;omega
  refine aX b fun x o f e=>?_;refine bW o ?_;refine callO [1000,1001,1002] [1000,1001,1002] (h x f) rfl rfl rfl rfl rfl fun _ _=>?_;refine aq (fun j=>?_) (fun j=>?_)
  ·exact bJ [1000,1001,1002] rfl rfl rfl (vv IC (rf e a j))
  ·refine Fit.aar (by omega) (by omega) ?_;exact⟨(k+1,()),⟨b,uY e a j⟩,⟨aZ,trivial⟩,⟨.inl ⟨_,rfl,.inl ⟨rfl,rfl⟩⟩,.inl ⟨_,rfl,.inl ⟨rfl,rfl⟩⟩,.inl ⟨_,rfl,.inl ⟨rfl,rfl⟩⟩,trivial⟩,bf b⟩
 ·have c:¬k<l.length:=by rw[d] at c;omega
  exact bJ [1000,1001,1002] rfl rfl rfl (vv IC (ri c a))
theorem Vy (s:List Ty) (v:Int) (l:List Ty) (q:Ty->Bool) (h:∀x∈l,CallsT P 113 [aK x,.own 1000 0,.pt [IC v] 0] [.box 89 [.own 1001 0],.box 93 [.rw 1002,.any,.any],.row 32 3 (s.map aD)] (aQ [.box 89 [.own 1001 0],.box 93 [.rw 1002,.any,.any],.row 32 3 (s.map aD)] (.bool (q x)))) :
  CallsT P 49 [.sl (l.map aD),.fn 113 [] [.own 1000 0,.pt [IC v] 0]] [.box 89 [.own 1001 0],.box 93 [.rw 1002,.any,.any],.row 32 3 (s.map aD)] (aQ [.box 89 [.own 1001 0],.box 93 [.rw 1002,.any,.any],.row 32 3 (s.map aD)] (.bool (l.any q))):=by
 have a:=Vx s v l q h;have e:=rj q l;generalize fidx q l 0=n at a e;refine af Try.func49 uN rfl fun b _=>?_;refine callO [1000,1001,1002] [1000,1001,1002] a rfl rfl rfl rfl rfl fun _ _=>?_;exact bJ [1000,1001,1002] rfl rfl rfl (vv C.bool e)
theorem oQ {f:Ty->Option Bool}:∀{l:List Ty}{b:Bool},xB f l=some b->(∀x∈l,f x=some ((f x).getD false))/\l.any (fun x=>(f x).getD false)=b
 | [],b,h=>by
  rw[xB] at h;injection h with h
  exact⟨by simp,by rw[<-h];rfl⟩
 | x::l,b,h=>by
  rw[xB] at h;cases c:f x with
  | none=>rw[c] at h;cases h
  | some a =>
   rw[c] at h;cases d:xB f l with
   | none=>rw[d] at h;cases h
   | some j =>
    rw[d] at h;injection h with h
    obtain⟨i1,i2⟩:=oQ d;refine⟨fun y e=>?_,?_⟩
    ·rcases abd.1 e with rfl | e
     ·rw[c];rfl
     ·exact i1 y e
    ·rw[abQ,i2,c];exact h
theorem YJ (s:List Ty) (v:Int) (x:Ty) (b:Bool) (h:CallsT P 97 [.own 1000 0,IC v,aK x] (ql s) (aQ (ql s) (.bool b))) :
  CallsT P 113 [aK x,.own 1000 0,.pt [IC v] 0] [.box 89 [.own 1001 0],.box 93 [.rw 1002,.any,.any],.row 32 3 (s.map aD)] (aQ [.box 89 [.own 1001 0],.box 93 [.rw 1002,.any,.any],.row 32 3 (s.map aD)] (.bool b)):=by
 refine af Try.func113 LZ rfl fun a _=>?_;refine callO [1001,1002] [1001,1002] h rfl rfl rfl rfl rfl fun _ _=>?_;exact bJ [1000,1001,1002] rfl rfl rfl rfl
theorem YK (s:List Ty) (v:Int) (t r:Ty) (h:CallsT P 96 [.own 1000 0,aK t] (ql s) (aQ (ql s) (aK r))) (a:r.kind=9) :
  CallsT P 97 [.own 1000 0,IC v,aK t] (ql s) (aQ (ql s) (.bool (decide (r.id=v)))):=by
 refine af Try.func97 HK rfl fun b _=>?_;refine callO [1000,1001] [1000,1001] h rfl rfl rfl rfl rfl fun _ _=>?_;refine ah (fun _=>?_) (fun q=>o5 a q);exact bJ [1000,1001] rfl rfl rfl rfl
theorem YL (s:List Ty) (v:Int) (t r:Ty) (b:Bool) (h:CallsT P 96 [.own 1000 0,aK t] (ql s) (aQ (ql s) (aK r))) (a:¬r.kind=9)
  (h49:CallsT P 49 [.sl (r.args.map aD),.fn 113 [] [.own 1000 0,.pt [IC v] 0]] [.box 89 [.own 1001 0],.box 93 [.rw 1002,.any,.any],.row 32 3 (s.map aD)] (aQ [.box 89 [.own 1001 0],.box 93 [.rw 1002,.any,.any],.row 32 3 (s.map aD)] (.bool b))) :
  CallsT P 97 [.own 1000 0,IC v,aK t] (ql s) (aQ (ql s) (.bool b)):=by
 refine af Try.func97 HK rfl fun c _=>?_;refine callO [1000,1001] [1000,1001] h rfl rfl rfl rfl rfl fun _ _=>?_;refine ah (fun q=>o5 q a) (fun _=>?_);refine callO [3,1000,1001] [3,1000,1001] h49 rfl rfl rfl rfl rfl fun _ _=>?_;exact bJ [1000,1001] rfl rfl rfl rfl
theorem t97 (s:List Ty) (v:Int):∀(n:Nat) (t:Ty) (b:Bool),jT s v n t=some b->CallsT P 97 [.own 1000 0,IC v,aK t] (ql s) (aQ (ql s) (.bool b))
 | 0,t,b,h=>by cases h
 | n+1,t,b,h=>by
  rw[jT] at h;cases hf:aP s n t with
  | none=>rw[hf] at h;cases h
  | some r =>
   simp only[hf] at h
   by_cases a:r.kind=9
   ·rw[eu a] at h;injection h with h
    rw[<-h];exact YK s v t r (HZ s n t r hf) a
   ·rw[fo a] at h;obtain⟨h1,h2⟩:=oQ h;have h49:=Vy s v r.args (fun x=>(jT s v n x).getD false) fun x c=>YJ s v x _ (t97 s v n x _ (h1 x c));rw[h2] at h49;exact YL s v t r b (HZ s n t r hf) a h49
section
variable {P:Program}{L:TL}{ρ:aG}
theorem qa {R:List TO->C->Prop}(ko:List Nat) {Lin Mo Lo:List TO}{v x:C}(b:L.sub ko=some Mo) (a:(T.aU ko&&aH Lin (List.range' 1000 Lin.length) ko)=true) (c:Mo.map (TO.aaq (C.ren (bn ko 1000)))=Lo) (e:v.aaB.ren (bn ko 1000)=x) (h:R Lo x):fe Lin L v R:=by
 simp only[xo] at a;exact⟨[],ko,L,v,v,Mo,rfl,.inl ⟨rfl,rfl⟩,b,a.1,a.2,fun _=>by rw[c,e];exact h⟩
theorem o9.imp {P:Program}{f:FuncId}{args:Array Value}{F:aA}{Lin:List Own}{R R':aA->List Own->Value->Prop}{Pp Pp':Value->Prop}(h:o9 P f args F Lin R Pp)
  (b:∀F G L v,F.le G->R' F L v->R' G L v) (a:∀F L v,R F L v->R' F L v) (d:∀v,Pp v->Pp' v):o9 P f args F Lin R' Pp' :=
 ⟨h.ent,b,fun w l=>(h.run w l).mono fun e w' k=>by
  rcases k with⟨v,F',Lo,h1,h2,h3,h4⟩ | ⟨v,c,F',Lo,h1,j,h2,h3,h4,h5,h6⟩
  ·exact .inl ⟨v,F',Lo,h1,h2,h3,a _ _ _ h4⟩
  ·exact .inr ⟨v,c,F',Lo,h1,j,h2,h3,h4,h5,d v h6⟩⟩
theorem CallsTX.imp {P:Program}{f:Nat}{args:List C}{Lin:List TO}{R R':List TO->C->Prop}{Pp Pp':Value->Prop}(h:CallsTX P f args Lin R Pp)
  (a:∀Mo c,R Mo c->R' Mo c) (l:∀v,Pp v->Pp' v):CallsTX P f args Lin R' Pp' :=
 ⟨fun F Li m h1 h2 h3=>o9.imp (h.out F Li m h1 h2 h3) gV.aaC (fun F L v ⟨Mo,c,j,k,e,b,d⟩=>⟨Mo,c,j,k,e,b,a _ _ d⟩) l⟩
theorem jh (ks:List Nat) {PS:oE}{Pp:Value->Prop}{fb:List Nat}{f:Nat}{args a:List C}{K:TL->aG->C->Prop}{x:C}{Lin Lin' Lo:List TO}(h:CallsTX P f a Lin' (aQ Lo x) Pp) (s:L.sub ks=some Lin)
  (d:(T.aU ks&&qN ks fb&&aH Lin ks ks&&jQ L ks PS.hb)=true) (m:(args.map fun c=>c.aaw.ren (bn ks 1000))=a) (n:Lin.map (TO.aaq (C.ren (bn ks 1000)))=Lin') (j:ks.length=Lo.length) (q:∀v,Pp v->PS.ps v)
  (k:Wf x->(∀o∈Lo,o.Wf)->K (((L.aas ks).kills (rowsOf L ks)).puts ks (Lo.map (TO.aaq (C.ren (aL ks))))) (dO (rowsOf L ks) ρ) (x.ren (aL ks)).slt):pJ P PS fb f args L ρ K:=by
 subst m n;simp only[xo] at d;obtain⟨⟨⟨r,p⟩,c3⟩,c4⟩:=d;exact⟨ks,Lin,_,_,s,r,p,c3,c4,h,q,fun v Mo ⟨l,t⟩ e b=>by subst l t;exact⟨j,k e b⟩⟩
end
theorem u5 {els:List (List C)}{j off n:Nat}{a:List C}{K:List C->Prop}(h:els[j]?=some a) (b:fN ((a.drop off).take n) n=true) (k:K a):FU els j off n fun _=>∀es,els[j]?=some es->K es :=
 ⟨a,h,b,fun es he=>by rw[h] at he;injection he with he;rw[<-he];exact k⟩
theorem MI {s:List Ty}{j:Nat}{t:Ty}:(s.map aD).set j [IC t.kind,IC t.id,.sl (t.args.map aD)]=(s.set j t).map aD:=by
 rw[List.map_set,iP]
theorem MJ {s:List Ty}{i:Nat}{x:Ty}(a:s[i]?=some x):(s.map aD)[i]?=some [IC x.kind,IC x.id,.sl (x.args.map aD)]:=by rw[abk,a,abI,iP]
def cV (e:Int):Value:=.iface 98 (.agg #[.int .i64 e])
abbrev u6 (s:List Ty) (t r:Ty):Prop:=CallsT P 96 [.own 1000 0,aK t] (ql s) (aQ (ql s) (aK r))
abbrev tI (s:List Ty) (a b:Ty) (R:List TO->C->Prop) (Pp:Value->Prop):Prop:=CallsTX P 63 [.own 1000 0,aK a,aK b] (ql s) R Pp
theorem MK (s:List Ty) (a b a' c:Ty) (d:u6 s a a') (hb:u6 s b c) (h1:a'.kind=9) (h2:c.kind=9) (h3:a'.id=c.id):tI s a b (aQ (ql s) (.tup [])) (fun _=>False):=by
 refine bg Try.func63 pU rfl fun e _=>?_;refine jh [1000,1001] d.toX rfl rfl rfl rfl rfl (fun _ h=>h) fun _ _=>?_;refine jh [1000,1001] hb.toX rfl rfl rfl rfl rfl (fun _ h=>h) fun _ _=>?_;refine ah (fun _=>?_) (fun q=>o5 h1 q);refine ah (fun _=>?_) (fun q=>o5 h2 q);refine aT (fun q=>o5 h3 q) (fun _=>?_);exact bJ [1000,1001] rfl rfl rfl rfl
def RE (r:Option (List Ty)):List TO->C->Prop:=fun Mo v=>∃s',r=some s'/\Mo=ql s'/\v=.tup []
def PE (r:Option (List Ty)):Value->Prop:=fun v=>r=none/\v=cV 8
section
variable {L:TL}{ρ:aG}
theorem Sf (ks:List Nat) {PS:oE}{args a:List C}{K:TL->aG->C->Prop}{s:List Ty}{r:Option (List Ty)}{Lin:List TO}(h:CallsTX P 63 a (ql s) (RE r) (PE r)) (o:L.sub ks=some Lin)
  (d:(T.aU ks&&T.jP L ks ks&&aH Lin ks ks&&jQ L ks PS.hb)=true) (j:(args.map fun c=>c.aaw.ren (bn ks 1000))=a) (l:Lin.map (TO.aaq (C.ren (bn ks 1000)))=ql s) (e:ks.length=2) (n:∀v,PE r v->PS.ps v)
  (k:∀s',r=some s'->K (((L.aas ks).kills (rowsOf L ks)).puts ks ((ql s').map (TO.aaq (C.ren (aL ks))))) (dO (rowsOf L ks) ρ) (.tup [])):lK P PS 63 args L ρ K:=by
 subst j;simp only[xo] at d;obtain⟨⟨⟨b,m⟩,c3⟩,c4⟩:=d;refine⟨[],ks,ks,L,Lin,_,_,.inl rfl,o,b,b,m,c3,c4,by rw[l];exact h,n,?_⟩;rintro v Mo ⟨s',f,rfl,rfl⟩ q p;exact⟨e,k s' f⟩
theorem TN (ks:List Nat) {PS:oE}{fb:List Nat}{args a:List C}{K:TL->aG->C->Prop}{s:List Ty}{r:Option (List Ty)}{Lin:List TO}(h:CallsTX P 63 a (ql s) (RE r) (PE r)) (o:L.sub ks=some Lin)
  (b:(T.aU ks&&qN ks fb&&aH Lin ks ks&&jQ L ks PS.hb)=true) (f:(args.map fun c=>c.aaw.ren (bn ks 1000))=a) (j:Lin.map (TO.aaq (C.ren (bn ks 1000)))=ql s) (d:ks.length=2) (m:∀v,PE r v->PS.ps v)
  (k:∀s',r=some s'->K (((L.aas ks).kills (rowsOf L ks)).puts ks ((ql s').map (TO.aaq (C.ren (aL ks))))) (dO (rowsOf L ks) ρ) (.tup [])):pJ P PS fb 63 args L ρ K:=by
 subst f;simp only[xo] at b;obtain⟨⟨⟨n,l⟩,c3⟩,c4⟩:=b;refine⟨ks,Lin,_,_,o,n,l,c3,c4,by rw[j];exact h,m,?_⟩;rintro v Mo ⟨s',e,rfl,rfl⟩ q p;exact⟨d,k s' e⟩
end
theorem Gu {a b:Int}(h:Wf (IC a)) (k:Wf (IC b)):Wf (IC (if b>a then b else a)):=by split<;>assumption
theorem TP {a b:Int}(h:Wf (IC a)) (k:Wf (IC b)):Wf (IC (if b<a then b else a)):=by split<;>assumption
theorem mmV (h:True) (a b:Int):(if b>a then b else a)=max a b:=by split<;>omega
theorem mmN (h:True) (a b:Int):(if b<a then b else a)=min a b:=by split<;>omega
theorem BR (s:List Ty) (a b a' d x:Ty) (p:u6 s a a') (hb:u6 s b d) (h1:a'.kind=9) (h2:d.kind=9) (h3:¬a'.id=d.id) (h0:0<=max a'.id d.id) (o:s[(max a'.id d.id).toNat]?=some x) :
  tI s a b (aQ (ql (s.set (max a'.id d.id).toNat (.mk 9 (min a'.id d.id) []))) (.tup [])) (fun _=>False):=by
 have n:=mmV trivial a'.id d.id;have m:=mmN trivial a'.id d.id;have c:=MI (s:=s) (j:=(max a'.id d.id).toNat) (t:=.mk 9 (min a'.id d.id) []);have f:=MJ o;have e:=Da h0 o;generalize s.set (max a'.id d.id).toNat (.mk 9 (min a'.id d.id) [])=s' at c ⊢;rw[<-n] at c f h0 e;rw[<-m] at c;refine bg Try.func63 pU rfl fun r _=>?_;refine jh [1000,1001] p.toX rfl rfl rfl rfl rfl (fun _ h=>h) fun l _=>?_;refine jh [1000,1001] hb.toX rfl rfl rfl rfl rfl (fun _ h=>h) fun k _=>?_;refine ah (fun _=>?_) (fun q=>o5 h1 q);refine ah (fun _=>?_) (fun q=>o5 h2 q);refine aT (fun _=>?_) (fun q=>o5 q h3);refine⟨?_,⟨?_,?_⟩⟩
 ·exact Gu l.2.1 k.2.1
 ·exact TP l.2.1 k.2.1
 refine Ao.mk h0 e ?_;refine⟨rfl,u5 f rfl ?_⟩;exact bJ [1000,1001] rfl rfl (vv (fun q=>[TO.box 93 [.rw 1001,.any,.any],.row 32 3 q]) c) rfl
theorem QC (s:List Ty) (a b a' c:Ty) (d:u6 s a a') (hb:u6 s b c) (h1:a'.kind=9) (h2:¬c.kind=9) (e:CallsT P 97 [.own 1000 0,IC a'.id,aK c] (ql s) (aQ (ql s) (.bool true))) :
  tI s a b (fun _ _=>False) (PE none):=by
 refine bg Try.func63 pU rfl fun f _=>?_;refine jh (Pp:=fun _=>False) [1000,1001] d.toX rfl rfl rfl rfl rfl (fun _ h=>False.elim h) fun _ _=>?_;refine jh (Pp:=fun _=>False) [1000,1001] hb.toX rfl rfl rfl rfl rfl (fun _ h=>False.elim h) fun _ _=>?_;refine ah (fun _=>?_) (fun q=>o5 h1 q);refine ah (fun q=>o5 q h2) (fun _=>?_);refine ah (fun _=>?_) (fun q=>o5 h1 q);refine callO [1000,1001] [1000,1001] e rfl rfl rfl rfl rfl fun _ _=>?_;exact qo rfl ⟨rfl,rfl⟩
theorem MN (s:List Ty) (a b a' d x:Ty) (l:u6 s a a') (hb:u6 s b d) (h1:a'.kind=9) (h2:¬d.kind=9) (m:CallsT P 97 [.own 1000 0,IC a'.id,aK d] (ql s) (aQ (ql s) (.bool false)))
  (h0:0<=a'.id) (k:s[a'.id.toNat]?=some x):tI s a b (aQ (ql (s.set a'.id.toNat d)) (.tup [])) (fun _=>False):=by
 have c:=MI (s:=s) (j:=a'.id.toNat) (t:=d);have f:=MJ k;have e:=Da h0 k;generalize s.set a'.id.toNat d=s' at c ⊢;refine bg Try.func63 pU rfl fun n _=>?_;refine jh [1000,1001] l.toX rfl rfl rfl rfl rfl (fun _ h=>h) fun _ _=>?_;refine jh [1000,1001] hb.toX rfl rfl rfl rfl rfl (fun _ h=>h) fun _ _=>?_;refine ah (fun _=>?_) (fun q=>o5 h1 q);refine ah (fun q=>o5 q h2) (fun _=>?_);refine ah (fun _=>?_) (fun q=>o5 h1 q);refine callO [1000,1001] [1000,1001] m rfl rfl rfl rfl rfl fun _ _=>?_;refine Ao.mk h0 e ?_;refine⟨rfl,u5 f rfl ?_⟩;exact bJ [1000,1001] rfl rfl (vv (fun q=>[TO.box 93 [.rw 1001,.any,.any],.row 32 3 q]) c) rfl
theorem MO (s:List Ty) (a b a' c:Ty) (r:Option (List Ty)) (f:u6 s a a') (hb:u6 s b c) (h1:¬a'.kind=9) (h2:c.kind=9) (d:tI s c a' (RE r) (PE r)):tI s a b (RE r) (PE r):=by
 refine bg Try.func63 pU rfl fun j _=>?_;refine jh (Pp:=fun _=>False) [1000,1001] f.toX rfl rfl rfl rfl rfl (fun _ h=>False.elim h) fun _ _=>?_;refine jh (Pp:=fun _=>False) [1000,1001] hb.toX rfl rfl rfl rfl rfl (fun _ h=>False.elim h) fun _ _=>?_;refine ah (fun q=>o5 q h1) (fun _=>?_);refine ah (fun q=>o5 q h1) (fun _=>?_);refine ah (fun _=>?_) (fun q=>o5 h2 q);refine Sf [1000,1001] d rfl rfl rfl rfl rfl (fun _ h=>h) fun s' e=>?_;exact qa [1000,1001] rfl rfl rfl rfl ⟨s',e,rfl,rfl⟩
theorem MP (s:List Ty) (a b a' c:Ty) (f:u6 s a a') (hb:u6 s b c) (h1:¬a'.kind=9) (h2:¬c.kind=9) (h3:a'.kind≠c.kind\/a'.id≠c.id\/a'.args.length≠c.args.length):tI s a b (fun _ _=>False) (PE none):=by
 have d:(a'.args.map aD).length=a'.args.length:=vz _;have e:(c.args.map aD).length=c.args.length:=vz _;refine bg Try.func63 pU rfl fun j _=>?_;refine jh (Pp:=fun _=>False) [1000,1001] f.toX rfl rfl rfl rfl rfl (fun _ h=>False.elim h) fun _ _=>?_;refine jh (Pp:=fun _=>False) [1000,1001] hb.toX rfl rfl rfl rfl rfl (fun _ h=>False.elim h) fun _ _=>?_;refine ah (fun q=>o5 q h1) (fun _=>?_);refine ah (fun q=>o5 q h1) (fun _=>?_);refine ah (fun q=>o5 q h2) (fun _=>?_);refine aT (fun h4=>?_) (fun h4=>?_)
 ·exact qo rfl ⟨rfl,rfl⟩
 refine aT (fun h5=>?_) (fun h5=>?_)
 ·exact qo rfl ⟨rfl,rfl⟩
 refine aT (fun h6=>?_) (fun h6=>o5 h3 (by rw[d,e] at h6;omega));exact qo rfl ⟨rfl,rfl⟩
theorem Jz {f:List Ty->Ty->Ty->Option (Option (List Ty))}{s:List Ty}{x y:Ty}{l b:List Ty}{r:Option (List Ty)}(h:jU f s (x::l) (y::b)=some r):∃a,f s x y=some a/\(a=none->r=none)/\∀s',a=some s'->jU f s' l b=some r:=by
 rw[jU] at h;cases hf:f s x y with
 | none=>simp only[hf] at h;cases h
 | some a =>
  refine⟨a,rfl,?_,?_⟩
  ·rintro rfl;simp only[hf] at h;injection h with h;exact h.symm
  ·rintro s' rfl;simp only[hf] at h;exact h
theorem MR (s:List Ty) (a b a' d:Ty) (ha:u6 s a a') (hb:u6 s b d) (h1:¬a'.kind=9) (h2:¬d.kind=9) (h3:¬(a'.kind≠d.kind\/a'.id≠d.id\/a'.args.length≠d.args.length))
  (f:List Ty->Ty->Ty->Option (Option (List Ty))) (ih:∀s x y r,f s x y=some r->tI s x y (RE r) (PE r)) (r:Option (List Ty)) (hr:jU f s a'.args d.args=some r):tI s a b (RE r) (PE r):=by
 have m:(a'.args.map aD).length=a'.args.length:=vz _;have u:(d.args.map aD).length=d.args.length:=vz _;have am:a'.args.length=d.args.length:=by omega
 refine bg Try.func63 pU rfl fun hw _=>?_;refine jh (Pp:=fun _=>False) [1000,1001] ha.toX rfl rfl rfl rfl rfl (fun _ h=>False.elim h) fun t _=>?_;refine jh (Pp:=fun _=>False) [1000,1001] hb.toX rfl rfl rfl rfl rfl (fun _ h=>False.elim h) fun z _=>?_;have w:a'.args.length<=9223372036854775807:=dU t.2.2.1;refine ah (fun q=>o5 q h1) (fun _=>?_);refine ah (fun q=>o5 q h1) (fun _=>?_);refine ah (fun q=>o5 q h2) (fun _=>?_);refine aT (fun h4=>o5 (Or.inl h4) h3) (fun h4=>?_);refine aT (fun h5=>o5 (Or.inr (Or.inl h5)) h3) (fun h5=>?_);refine aT (fun h6=>o5 (by rw[m,u];omega) h6) (fun h6=>?_);refine bA a'.args.length 39 [] s (fun _=>[]) (fun s=>[(4,.box 32 [IC a'.kind,IC a'.id,.sl (a'.args.map aD)]),(5,.box 32 [IC d.kind,IC d.id,.sl (d.args.map aD)]),(1000,.box 93 [.rw 1001,.any,.any]),(1001,.row 32 3 (s.map aD))]) (fun k s=>jU f s (a'.args.drop k) (d.args.drop k)=some r) hr (aj rfl) trivial
  ⟨.inl ⟨_,rfl,.inl ⟨rfl,rfl⟩⟩,.inl ⟨_,rfl,.inl ⟨rfl,rfl⟩⟩,.inl ⟨_,rfl,.inl ⟨rfl,rfl⟩⟩,.inl ⟨_,rfl,.inl ⟨rfl,rfl⟩⟩,trivial⟩ (fun _=>rfl) (fun _=>rfl) ?_
 rintro k s hk c _ _ _;refine ah (fun j=>?_) (fun n=>?_)
 ·have j:k<a'.args.length:=by rw[m] at j;omega
  refine aX j fun x hx ab p=>?_;refine aX (l:=d.args) (k:=k) (by omega) fun y hy _ o=>?_;have c:=c;rw[p,o] at c;refine oP (Jz c) fun r1 h1=>?_;refine bW hx ?_;refine bW hy ?_;refine TN [1000,1001] (ih s x y r1 h1.1) rfl rfl rfl rfl rfl (fun v q=>⟨h1.2.1 q.1,q.2⟩) fun s' e=>?_;refine Fit.aar (by omega) (by omega) ?_;exact⟨(k+1,s'),⟨j,h1.2.2 s' e⟩,⟨aZ,trivial⟩,⟨.inl ⟨_,rfl,.inl ⟨rfl,rfl⟩⟩,.inl ⟨_,rfl,.inl ⟨rfl,rfl⟩⟩,.inl ⟨_,rfl,.inl ⟨rfl,rfl⟩⟩,.inl ⟨_,rfl,.inl ⟨rfl,rfl⟩⟩,trivial⟩,bf j⟩
 ·have n:¬k<a'.args.length:=by rw[m] at n;omega
  have c:=c;rw[bU n,jU] at c;exact qa [1000,1001] rfl rfl rfl rfl ⟨s,(abK c).symm,rfl,rfl⟩
theorem rU {s:List Ty}:∀{n:Nat}{t r:Ty},aP s n t=some r->r.kind=9->∃x,0<=r.id/\s[r.id.toNat]?=some x/\x.kind=0
 | 0,t,r,h,_=>by cases h
 | n+1,t,r,h,a=>by
  obtain⟨m,e,h⟩:=pY h;injection e with e
  subst e;rcases h with⟨h1,rfl⟩ | ⟨h1,x,h2,h3,h4⟩
  ·exact o5 a h1
  ·rcases h4 with⟨h5,rfl⟩ | ⟨h5,h6⟩
   ·exact⟨x,h2,h3,h5⟩
   ·exact rU h6 a
theorem MT {s:List Ty}{a b:Ty}{s':List Ty}(h:tI s a b (aQ (ql s') (.tup [])) (fun _=>False)):tI s a b (RE (some s')) (PE (some s')) :=
 CallsTX.imp h (fun Mo v ⟨d,c⟩=>⟨s',rfl,d,c⟩) fun v q=>q.elim
theorem Sg {s:List Ty}{a b:Ty}(h:tI s a b (fun _ _=>False) (PE none)):tI s a b (RE none) (PE none) :=
 CallsTX.imp h (fun Mo v q=>q.elim) fun v q=>q
theorem YM:∀(n:Nat) (s:List Ty) (a b:Ty) (r:Option (List Ty)),ld n s a b=some r->tI s a b (RE r) (PE r)
 | 0,s,a,b,r,h=>by cases h
 | n+1,s,a,b,r,h=>by
  rw[ld] at h;cases d:aP s n a with
  | none=>simp only[d] at h;cases h
  | some a' =>
   cases hb:aP s n b with
   | none=>simp only[d,hb] at h;cases h
   | some c =>
    simp only[d,hb] at h;have fa:=HZ s n a a' d;have fb:=HZ s n b c hb
    by_cases h1:a'.kind=9
    ·by_cases h2:c.kind=9
     ·rw[eu ⟨h1,h2⟩] at h
      by_cases h3:a'.id=c.id
      ·rw[eu h3] at h;injection h with h
       subst h;exact MT (MK s a b a' c fa fb h1 h2 h3)
      ·rw[fo h3] at h;injection h with h
       subst h;obtain⟨x,f,l,_⟩:=rU d h1;obtain⟨y,p,t,_⟩:=rU hb h2;refine MT ?_;rcases Int.le_total a'.id c.id with k | k
       ·have e:max a'.id c.id=c.id:=by omega
        exact BR s a b a' c y fa fb h1 h2 h3 (by omega) (by rw[e];exact t)
       ·have e:max a'.id c.id=a'.id:=by omega
        exact BR s a b a' c x fa fb h1 h2 h3 (by omega) (by rw[e];exact l)
     ·rw[fo (fun q=>h2 q.2),eu h1] at h;obtain⟨x,f,l,_⟩:=rU d h1;cases j:jT s a'.id n c with
      | none=>simp only[j] at h;cases h
      | some o =>
       have m:=t97 s a'.id n c o j;cases o
       ·simp only[j] at h;injection h with h
        subst h;exact MT (MN s a b a' c x fa fb h1 h2 m f l)
       ·simp only[j] at h;injection h with h
        subst h;exact Sg (QC s a b a' c fa fb h1 h2 m)
    ·rw[fo (fun q=>h1 q.1),fo h1] at h
     by_cases h2:c.kind=9
     ·rw[eu h2] at h;exact MO s a b a' c r fa fb h1 h2 (YM n s c a' r h)
     ·rw[fo h2] at h
      by_cases h3:a'.kind≠c.kind\/a'.id≠c.id\/a'.args.length≠c.args.length
      ·rw[eu h3] at h;injection h with h
       subst h;exact Sg (MP s a b a' c fa fb h1 h2 h3)
      ·rw[fo h3] at h;exact MR s a b a' c fa fb h1 h2 h3 (ld n) (fun s x y r q=>YM n s x y r q) r h
theorem sz3 (l:List Ty):∀es∈l.map aD,es.length=3:=by
 intro es h;obtain⟨t,_,rfl⟩:=abx.1 h;rw[iP];rfl
theorem t61 (l:List Ty) (e:l.length<=2 ^ 30):CallsT P 61 [.sl (l.map aD)] [] (aQ [.row 32 3 (l.map aD)] (.rw 1000)):=by
 cases l with
 | nil =>
  refine af Try.func61 HF rfl fun f _=>?_;intro b hb;refine aq (fun h=>?_) (fun h=>?_)
  ·exact Xx 5 32 3 rfl rfl
  ·refine xk.mk (fun es he=>by cases he) (show 0+0<=maxLen from abr _) (show(0+0)*40<=_ from abr _) ?_;exact bJ [5] rfl rfl rfl rfl
 | cons x l =>
  have c:(x::l).map aD≠[]:=by simp
  have a:=sz3 (x::l);have d:((x::l).map aD).length<=2 ^ 30:=by rw[vz];exact e
  generalize(x::l).map aD=els at c a d ⊢;refine af Try.func61 HF rfl fun f _=>?_;intro b hb;refine aq (fun h=>o5 (hb c) (fun q=>by rw[show b=true from h] at q;cases q)) (fun h=>?_);refine xk.mk a ?_ ?_ ?_
  ·show 0+els.length<=maxLen;simp only[maxLen];omega
  ·show(0+els.length)*40<=_;omega
  ·exact bJ [5] rfl rfl rfl rfl
theorem zH {k:IntKind}{n m:Int}{K:Int->Prop}(h:k.wrap n=m) (a:K m):Fit k n K:=⟨by rw[h];exact a⟩
theorem Sh {i:Int}{o:OM}{Y:C->Prop}{N:Prop}(h:bw o i=none\/bw o i=some false) (k1:Y (.bool false)) (a:N):yJ false (jt C.bool o) (IC i) Y N:=by
 rcases h with h | h
 ·exact zG h a
 ·exact zF h k1
def PD (r:Option (Int×DM×OM)):Value->Prop:=fun v=>r=none/\v=cV 1
theorem qb {f:Ty->DM->OM->Option (Option (Int×DM×OM))}{x:Ty}{l:List Ty}{k:Int}{d:DM}{o:OM}{r:Option (Int×DM×OM)}(h:eW f (x::l) k d o=some r) :
  ∃a,f x d o=some a/\(a=none->r=none)/\∀b c o',a=some (b,c,o')->eW f l (if b>k then b else k) c o'=some r:=by
 rw[eW] at h;cases hf:f x d o with
 | none=>simp only[hf] at h;cases h
 | some a =>
  refine⟨a,rfl,?_,?_⟩
  ·rintro rfl;simp only[hf] at h;injection h with h;exact h.symm
  ·rintro b c o' rfl;simp only[hf] at h;exact h
theorem BS {s:List Ty}{n:Nat}{t:Ty}{d:DM}{o:OM}{r:Option (Int×DM×OM)}(h:bL s (n+1) t d o=some r) :
  ∃x,(if t.kind=9 then bS s t else some (.mk 0 0 []))=some x /\
   (¬x.kind=0->(∃k,bw d t.id=some k/\r=some (k,d,o))\/(bw d t.id=none/\bw o t.id=some true/\r=none) \/
    (bw d t.id=none/\(bw o t.id=none\/bw o t.id=some false)/\∃a,bL s n x d (eX o t.id true)=some a/\(a=none->r=none)/\∀k c o',a=some (k,c,o')->r=some (k,eX c t.id k,o'))) /\
   (x.kind=0->∃a,eW (bL s n) t.args 0 d o=some a/\(a=none->r=none)/\∀k c o',a=some (k,c,o')->r=some (Au (k+1),c,o')):=by
 rw[bL] at h;split at h
 ·cases h
 rename_i x he;refine⟨x,he,fun f=>?_,fun f=>?_⟩
 ·rw[eu f] at h;split at h
  ·rename_i k hd;injection h with h
   exact .inl ⟨k,hd,h.symm⟩
  ·rename_i hd;split at h
   ·rename_i l;injection h with h
    exact .inr (.inl ⟨hd,l,h.symm⟩)
   ·rename_i l;have j:bw o t.id=none\/bw o t.id=some false:=by
     cases e:bw o t.id with
     | none=>exact .inl rfl
     | some b=>cases b with
      | true=>exact o5 e l
      | false=>exact .inr rfl
    refine .inr (.inr ⟨hd,j,?_⟩);cases h1:bL s n x d (eX o t.id true) with
    | none=>simp only[h1] at h;cases h
    | some a =>
     refine⟨a,rfl,?_,?_⟩
     ·rintro rfl;simp only[h1] at h;injection h with h;exact h.symm
     ·rintro k c o' rfl;simp only[h1] at h;injection h with h;exact h.symm
 ·rw[fo (fun q=>q f)] at h;cases h1:eW (bL s n) t.args 0 d o with
  | none=>simp only[h1] at h;cases h
  | some a =>
   refine⟨a,rfl,?_,?_⟩
   ·rintro rfl;simp only[h1] at h;injection h with h;exact h.symm
   ·rintro k c o' rfl;simp only[h1] at h;injection h with h;exact h.symm
abbrev J0 (s:List Ty) (d:DM) (o:OM):List TO:=SU s (jt IC d) (jt C.bool o)
def MU (s:List Ty) (r:Option (Int×DM×OM)):List TO->C->Prop:=fun Mo v=>∃k d o,r=some (k,d,o)/\Mo=J0 s d o/\v=IC k
abbrev QD (s:List Ty) (t:Ty) (d:DM) (o:OM) (R:List TO->C->Prop) (Pp:Value->Prop):Prop:=CallsTX P 64 [.own 1000 0,aK t] (J0 s d o) R Pp
section
variable {L:TL}{ρ:aG}
theorem Db (ks:List Nat) {PS:oE}{args a:List C}{K:TL->aG->C->Prop}{s:List Ty}{d:DM}{o:OM}{r:Option (Int×DM×OM)}{Lin:List TO}(h:CallsTX P 64 a (J0 s d o) (MU s r) (PD r)) (w:L.sub ks=some Lin)
  (j:(T.aU ks&&T.jP L ks ks&&aH Lin ks ks&&jQ L ks PS.hb)=true) (p:(args.map fun c=>c.aaw.ren (bn ks 1000))=a) (q:Lin.map (TO.aaq (C.ren (bn ks 1000)))=J0 s d o) (m:ks.length=4) (u:∀v,PD r v->PS.ps v)
  (k:∀b e o',r=some (b,e,o')->Wf (IC b)->K (((L.aas ks).kills (rowsOf L ks)).puts ks ((J0 s e o').map (TO.aaq (C.ren (aL ks))))) (dO (rowsOf L ks) ρ) (IC b)):lK P PS 64 args L ρ K:=by
 subst p;simp only[xo] at j;obtain⟨⟨⟨f,t⟩,c3⟩,c4⟩:=j;refine⟨[],ks,ks,L,Lin,_,_,.inl rfl,w,f,f,t,c3,c4,by rw[q];exact h,u,?_⟩;rintro v Mo ⟨b,e,o',n,rfl,rfl⟩ l x;exact⟨m,k b e o' n l⟩
theorem QE (ks:List Nat) {PS:oE}{fb:List Nat}{args a:List C}{K:TL->aG->C->Prop}{s:List Ty}{d:DM}{o:OM}{r:Option (Int×DM×OM)}{Lin:List TO}(h:CallsTX P 64 a (J0 s d o) (MU s r) (PD r)) (w:L.sub ks=some Lin)
  (f:(T.aU ks&&qN ks fb&&aH Lin ks ks&&jQ L ks PS.hb)=true) (n:(args.map fun c=>c.aaw.ren (bn ks 1000))=a) (p:Lin.map (TO.aaq (C.ren (bn ks 1000)))=J0 s d o) (l:ks.length=4) (t:∀v,PD r v->PS.ps v)
  (k:∀b e o',r=some (b,e,o')->Wf (IC b)->K (((L.aas ks).kills (rowsOf L ks)).puts ks ((J0 s e o').map (TO.aaq (C.ren (aL ks))))) (dO (rowsOf L ks) ρ) (IC b)):pJ P PS fb 64 args L ρ K:=by
 subst n;simp only[xo] at f;obtain⟨⟨⟨u,q⟩,c3⟩,c4⟩:=f;refine⟨ks,Lin,_,_,w,u,q,c3,c4,by rw[p];exact h,t,?_⟩;rintro v Mo ⟨b,e,o',m,rfl,rfl⟩ j x;exact⟨l,k b e o' m j⟩
end
theorem JA (s:List Ty) (t x:Ty) (d:DM) (o:OM) (k:Int) (c:t.kind=9) (h0:0<=t.id) (a:s[t.id.toNat]?=some x) (b:¬x.kind=0) (hd:bw d t.id=some k):QD s t d o (MU s (some (k,d,o))) (PD (some (k,d,o))):=by
 refine bg Try.func64 nM rfl fun e _=>?_;refine ah (fun _=>?_) (fun q=>o5 c q);refine Ao.mk h0 (Da h0 a) ?_;refine MH a ?_;refine aT (fun _=>?_) (fun q=>o5 q b);refine zF hd ?_;exact qa [1000,1001,1002,1003] rfl rfl rfl rfl ⟨k,d,o,rfl,rfl,rfl⟩
theorem JB (s:List Ty) (t x:Ty) (d:DM) (o:OM) (c:t.kind=9) (h0:0<=t.id) (a:s[t.id.toNat]?=some x) (b:¬x.kind=0) (hd:bw d t.id=none) (e:bw o t.id=some true):QD s t d o (MU s none) (PD none):=by
 refine bg Try.func64 nM rfl fun f _=>?_;refine ah (fun _=>?_) (fun q=>o5 c q);refine Ao.mk h0 (Da h0 a) ?_;refine MH a ?_;refine aT (fun _=>?_) (fun q=>o5 q b);refine zG hd ?_;refine zF e ?_;exact qo rfl ⟨rfl,rfl⟩
theorem MV (s:List Ty) (t x:Ty) (d:DM) (o:OM) (n:t.kind=9) (h0:0<=t.id) (b:s[t.id.toNat]?=some x) (l:¬x.kind=0) (hd:bw d t.id=none) (p:bw o t.id=none\/bw o t.id=some false)
  (r c:Option (Int×DM×OM)) (h:QD s x d (eX o t.id true) (MU s c) (PD c)) (j:c=none->r=none) (m:∀k a o',c=some (k,a,o')->r=some (k,eX a t.id k,o')):QD s t d o (MU s r) (PD r):=by
 refine bg Try.func64 nM rfl fun u _=>?_;refine ah (fun _=>?_) (fun q=>o5 n q);refine Ao.mk h0 (Da h0 b) ?_;refine MH b ?_;refine aT (fun _=>?_) (fun q=>o5 q l);refine zG hd ?_;refine Sh p ?_ ?_
 all_goals
  refine Jw (f:=C.bool) (x:=true) rfl ?_;refine Ao.mk h0 (Da h0 b) ?_;refine TJ b ?_;refine QE [1000,1001,1002,1003] h rfl rfl rfl rfl rfl (fun v q=>⟨j q.1,q.2⟩) fun k a o' e _=>?_;refine Jw (f:=IC) (x:=k) rfl ?_;exact qa [1000,1001,1002,1003] rfl rfl rfl rfl ⟨k,_,_,m k a o' e,rfl,rfl⟩
theorem JC (s:List Ty) (t:Ty) (d:DM) (o:OM) (h9:t.kind=9->∃x,0<=t.id/\s[t.id.toNat]?=some x/\x.kind=0)
  (f:Ty->DM->OM->Option (Option (Int×DM×OM))) (ih:∀x d o r,f x d o=some r->QD s x d o (MU s r) (PD r)) (r:Option (Int×DM×OM)) (r1:Option (Int×DM×OM)) (h:eW f t.args 0 d o=some r1) (ab:r1=none->r=none) (hr:∀k u o',r1=some (k,u,o')->r=some (Au (k+1),u,o')):QD s t d o (MU s r) (PD r):=by
 have n:(t.args.map aD).length=t.args.length:=vz _;refine bg Try.func64 nM rfl fun hw _=>?_;have ar:t.args.length<=9223372036854775807:=dU hw.2.1.2.2.1;refine ah (fun ag=>oP (h9 ag) fun x hh=>?_) (fun _=>?_)
 ·have h0:=hh.1;have hx:=hh.2.1;have hk:=hh.2.2;refine Ao.mk h0 (Da h0 hx) ?_;refine MH hx ?_;refine aT (fun q=>o5 hk q) (fun _=>?_);refine bA t.args.length 74 [8] ((0:Int),d,o) (fun x=>[IC x.1]) (fun x=>[(1000,.box 93 [.rw 1001,.mpr 1002,.mpr 1003]),(1001,.row 32 3 (s.map aD)),(1002,.map (jt IC x.2.1)),(1003,.map (jt C.bool x.2.2))]) (fun k x=>eW f (t.args.drop k) x.1 x.2.1 x.2.2=some r1) h (aj rfl) ⟨aj rfl,trivial⟩
   ⟨.inl ⟨_,rfl,.inl ⟨rfl,rfl⟩⟩,.inl ⟨_,rfl,.inl ⟨rfl,rfl⟩⟩,.inl ⟨_,rfl,.inl ⟨rfl,rfl⟩⟩,.inl ⟨_,rfl,.inl ⟨rfl,rfl⟩⟩,trivial⟩ (fun _=>rfl) (fun _=>rfl) ?_
  rintro k ⟨m,d,o⟩ ae c w _ _;refine ah (fun j=>?_) (fun l=>?_)
  ·have j:k<t.args.length:=by rw[n] at j;omega
   refine aX j fun x y ad z=>?_;have c:=c;rw[z] at c;refine oP (qb c) fun r2 h2=>?_;refine bW y ?_;refine Db [1000,1001,1002,1003] (ih x d o r2 h2.1) rfl rfl rfl rfl rfl (fun v q=>⟨ab (h2.2.1 q.1▸rfl),q.2⟩) fun p u o' e aa=>?_;refine⟨?_,?_⟩
   ·exact Gu (a:=m) (b:=p) w.1 aa
   refine Fit.aar (by omega) (by omega) ?_;exact⟨(k+1,((if p>m then p else m),u,o')),⟨j,h2.2.2 p u o' e⟩,⟨aZ,.inr (.inl ⟨rfl,rfl⟩),trivial⟩,⟨.inl ⟨_,rfl,.inl ⟨rfl,rfl⟩⟩,.inl ⟨_,rfl,.inl ⟨rfl,rfl⟩⟩,.inl ⟨_,rfl,.inl ⟨rfl,rfl⟩⟩,.inl ⟨_,rfl,.inl ⟨rfl,rfl⟩⟩,trivial⟩,bf j⟩
  ·have l:¬k<t.args.length:=by rw[n] at l;omega
   have c:=c;rw[bU l,eW] at c;refine zH (m:=Au (m+1)) rfl ?_;exact qa [1000,1001,1002,1003] rfl rfl rfl rfl ⟨Au (m+1),d,o,hr m d o (abK c).symm,rfl,rfl⟩
 ·skip
  refine bA t.args.length 74 [8] ((0:Int),d,o) (fun x=>[IC x.1]) (fun x=>[(1000,.box 93 [.rw 1001,.mpr 1002,.mpr 1003]),(1001,.row 32 3 (s.map aD)),(1002,.map (jt IC x.2.1)),(1003,.map (jt C.bool x.2.2))]) (fun k x=>eW f (t.args.drop k) x.1 x.2.1 x.2.2=some r1) h (aj rfl) ⟨aj rfl,trivial⟩
   ⟨.inl ⟨_,rfl,.inl ⟨rfl,rfl⟩⟩,.inl ⟨_,rfl,.inl ⟨rfl,rfl⟩⟩,.inl ⟨_,rfl,.inl ⟨rfl,rfl⟩⟩,.inl ⟨_,rfl,.inl ⟨rfl,rfl⟩⟩,trivial⟩ (fun _=>rfl) (fun _=>rfl) ?_
  rintro k ⟨m,d,o⟩ ae c w _ _;refine ah (fun j=>?_) (fun l=>?_)
  ·have j:k<t.args.length:=by rw[n] at j;omega
   refine aX j fun x y ad z=>?_;have c:=c;rw[z] at c;refine oP (qb c) fun r2 h2=>?_;refine bW y ?_;refine Db [1000,1001,1002,1003] (ih x d o r2 h2.1) rfl rfl rfl rfl rfl (fun v q=>⟨ab (h2.2.1 q.1▸rfl),q.2⟩) fun p u o' e aa=>?_;refine⟨?_,?_⟩
   ·exact Gu (a:=m) (b:=p) w.1 aa
   refine Fit.aar (by omega) (by omega) ?_;exact⟨(k+1,((if p>m then p else m),u,o')),⟨j,h2.2.2 p u o' e⟩,⟨aZ,.inr (.inl ⟨rfl,rfl⟩),trivial⟩,⟨.inl ⟨_,rfl,.inl ⟨rfl,rfl⟩⟩,.inl ⟨_,rfl,.inl ⟨rfl,rfl⟩⟩,.inl ⟨_,rfl,.inl ⟨rfl,rfl⟩⟩,.inl ⟨_,rfl,.inl ⟨rfl,rfl⟩⟩,trivial⟩,bf j⟩
  ·have l:¬k<t.args.length:=by rw[n] at l;omega
   have c:=c;rw[bU l,eW] at c;refine zH (m:=Au (m+1)) rfl ?_;exact qa [1000,1001,1002,1003] rfl rfl rfl rfl ⟨Au (m+1),d,o,hr m d o (abK c).symm,rfl,rfl⟩
theorem H6 (s:List Ty):∀(n:Nat) (t:Ty) (d:DM) (o:OM) (r:Option (Int×DM×OM)),bL s n t d o=some r->QD s t d o (MU s r) (PD r)
 | 0,t,d,o,r,h=>by cases h
 | n+1,t,d,o,r,h=>by
  obtain⟨x,he,h⟩:=BS h
  by_cases b:x.kind=0
  ·have h:=h.2 b;obtain⟨f,h1,h2,h3⟩:=h;refine JC s t d o (fun a=>?_) (bL s n) (fun x d o r q=>H6 s n x d o r q) r f h1 h2 h3;rw[eu a] at he;obtain⟨c,e,_⟩:=bD he;exact⟨x,c,e,b⟩
  ·have a:t.kind=9:=by
    by_cases a:t.kind=9
    ·exact a
    ·rw[fo a] at he;injection he with he
     rw[<-he] at b;exact o5 rfl b
   rw[eu a] at he;obtain⟨c,e,_⟩:=bD he;rcases h.1 b with⟨k,hd,rfl⟩ | ⟨hd,j,rfl⟩ | ⟨hd,j,f,h1,h2,h3⟩
   ·exact JA s t x d o k a c e b hd
   ·exact JB s t x d o a c e b hd j
   ·exact MV s t x d o a c e b hd j r f (H6 s n x d _ f h1) h2 h3
abbrev J1 (s:List Ty) (d:DM) (o:OM):List TO:=SF s (jt IC d) (jt C.bool o)
def NS (s:List Ty) (r:Option (Int×DM×OM)):List TO->C->Prop:=fun Mo v=>∃k d o,r=some (k,d,o)/\Mo=J1 s d o/\v=IC k
abbrev Si (s:List Ty) (t:Ty) (d:DM) (o:OM) (R:List TO->C->Prop) (Pp:Value->Prop):Prop:=CallsTX P 64 [.own 1000 0,aK t] (J1 s d o) R Pp
section
variable {L:TL}{ρ:aG}
theorem Gv (ks:List Nat) {PS:oE}{args a:List C}{K:TL->aG->C->Prop}{s:List Ty}{d:DM}{o:OM}{r:Option (Int×DM×OM)}{Lin:List TO}(h:CallsTX P 64 a (J1 s d o) (NS s r) (PD r)) (w:L.sub ks=some Lin)
  (j:(T.aU ks&&T.jP L ks ks&&aH Lin ks ks&&jQ L ks PS.hb)=true) (p:(args.map fun c=>c.aaw.ren (bn ks 1000))=a) (q:Lin.map (TO.aaq (C.ren (bn ks 1000)))=J1 s d o) (m:ks.length=3) (u:∀v,PD r v->PS.ps v)
  (k:∀b e o',r=some (b,e,o')->Wf (IC b)->K (((L.aas ks).kills (rowsOf L ks)).puts ks ((J1 s e o').map (TO.aaq (C.ren (aL ks))))) (dO (rowsOf L ks) ρ) (IC b)):lK P PS 64 args L ρ K:=by
 subst p;simp only[xo] at j;obtain⟨⟨⟨f,t⟩,c3⟩,c4⟩:=j;refine⟨[],ks,ks,L,Lin,_,_,.inl rfl,w,f,f,t,c3,c4,by rw[q];exact h,u,?_⟩;rintro v Mo ⟨b,e,o',n,rfl,rfl⟩ l x;exact⟨m,k b e o' n l⟩
theorem QF (ks:List Nat) {PS:oE}{fb:List Nat}{args a:List C}{K:TL->aG->C->Prop}{s:List Ty}{d:DM}{o:OM}{r:Option (Int×DM×OM)}{Lin:List TO}(h:CallsTX P 64 a (J1 s d o) (NS s r) (PD r)) (w:L.sub ks=some Lin)
  (f:(T.aU ks&&qN ks fb&&aH Lin ks ks&&jQ L ks PS.hb)=true) (n:(args.map fun c=>c.aaw.ren (bn ks 1000))=a) (p:Lin.map (TO.aaq (C.ren (bn ks 1000)))=J1 s d o) (l:ks.length=3) (t:∀v,PD r v->PS.ps v)
  (k:∀b e o',r=some (b,e,o')->Wf (IC b)->K (((L.aas ks).kills (rowsOf L ks)).puts ks ((J1 s e o').map (TO.aaq (C.ren (aL ks))))) (dO (rowsOf L ks) ρ) (IC b)):pJ P PS fb 64 args L ρ K:=by
 subst n;simp only[xo] at f;obtain⟨⟨⟨u,q⟩,c3⟩,c4⟩:=f;refine⟨ks,Lin,_,_,w,u,q,c3,c4,by rw[p];exact h,t,?_⟩;rintro v Mo ⟨b,e,o',m,rfl,rfl⟩ j x;exact⟨l,k b e o' m j⟩
end
theorem JD (s:List Ty) (t x:Ty) (d:DM) (o:OM) (k:Int) (c:t.kind=9) (h0:0<=t.id) (b:s[t.id.toNat]?=some x) (a:¬x.kind=0) (hd:bw d t.id=some k):Si s t d o (NS s (some (k,d,o))) (PD (some (k,d,o))):=by
 refine bg Try.func64 nM rfl fun e _=>?_;refine ah (fun _=>?_) (fun q=>o5 c q);refine kg h0 b ?_;refine aT (fun _=>?_) (fun q=>o5 q a);refine zF hd ?_;exact qa [1000,1001,1002] rfl rfl rfl rfl ⟨k,d,o,rfl,rfl,rfl⟩
theorem JE (s:List Ty) (t x:Ty) (d:DM) (o:OM) (c:t.kind=9) (h0:0<=t.id) (b:s[t.id.toNat]?=some x) (a:¬x.kind=0) (hd:bw d t.id=none) (e:bw o t.id=some true):Si s t d o (NS s none) (PD none):=by
 refine bg Try.func64 nM rfl fun f _=>?_;refine ah (fun _=>?_) (fun q=>o5 c q);refine kg h0 b ?_;refine aT (fun _=>?_) (fun q=>o5 q a);refine zG hd ?_;refine zF e ?_;exact qo rfl ⟨rfl,rfl⟩
theorem MW (s:List Ty) (t x:Ty) (d:DM) (o:OM) (n:t.kind=9) (h0:0<=t.id) (j:s[t.id.toNat]?=some x) (l:¬x.kind=0) (hd:bw d t.id=none) (p:bw o t.id=none\/bw o t.id=some false)
  (r b:Option (Int×DM×OM)) (h:Si s x d (eX o t.id true) (NS s b) (PD b)) (c:b=none->r=none) (m:∀k a o',b=some (k,a,o')->r=some (k,eX a t.id k,o')):Si s t d o (NS s r) (PD r):=by
 refine bg Try.func64 nM rfl fun u _=>?_;refine ah (fun _=>?_) (fun q=>o5 n q);refine kg h0 j ?_;refine aT (fun _=>?_) (fun q=>o5 q l);refine zG hd ?_;refine Sh p ?_ ?_
 all_goals
  refine Jw (f:=C.bool) (x:=true) rfl ?_;refine kg h0 j ?_;refine QF [1000,1001,1002] h rfl rfl rfl rfl rfl (fun v q=>⟨c q.1,q.2⟩) fun k a o' e _=>?_;refine Jw (f:=IC) (x:=k) rfl ?_;exact qa [1000,1001,1002] rfl rfl rfl rfl ⟨k,_,_,m k a o' e,rfl,rfl⟩
theorem JF (s:List Ty) (t:Ty) (d:DM) (o:OM) (h9:t.kind=9->∃x,0<=t.id/\s[t.id.toNat]?=some x/\x.kind=0)
  (f:Ty->DM->OM->Option (Option (Int×DM×OM))) (ih:∀x d o r,f x d o=some r->Si s x d o (NS s r) (PD r)) (r:Option (Int×DM×OM)) (r1:Option (Int×DM×OM)) (h:eW f t.args 0 d o=some r1) (ab:r1=none->r=none) (hr:∀k u o',r1=some (k,u,o')->r=some (Au (k+1),u,o')):Si s t d o (NS s r) (PD r):=by
 have n:(t.args.map aD).length=t.args.length:=vz _;refine bg Try.func64 nM rfl fun hw _=>?_;have ao:t.args.length<=9223372036854775807:=dU hw.2.1.2.2.1;refine ah (fun ag=>oP (h9 ag) fun x hh=>?_) (fun _=>?_)
 ·have h0:=hh.1;have hx:=hh.2.1;have hk:=hh.2.2;refine kg h0 hx ?_;refine aT (fun q=>o5 hk q) (fun _=>?_);refine bA t.args.length 74 [8] ((0:Int),d,o) (fun x=>[IC x.1]) (fun x=>[(1000,.box 93 [.sl (s.map aD),.mpr 1001,.mpr 1002]),(1001,.map (jt IC x.2.1)),(1002,.map (jt C.bool x.2.2))]) (fun k x=>eW f (t.args.drop k) x.1 x.2.1 x.2.2=some r1) h (aj rfl) ⟨aj rfl,trivial⟩
   ⟨.inl ⟨_,rfl,.inl ⟨rfl,rfl⟩⟩,.inl ⟨_,rfl,.inl ⟨rfl,rfl⟩⟩,.inl ⟨_,rfl,.inl ⟨rfl,rfl⟩⟩,trivial⟩ (fun _=>rfl) (fun _=>rfl) ?_
  rintro k ⟨m,d,o⟩ ae c w _ _;refine ah (fun j=>?_) (fun l=>?_)
  ·have j:k<t.args.length:=by rw[n] at j;omega
   refine aX j fun x y ad z=>?_;have c:=c;rw[z] at c;refine oP (qb c) fun r2 h2=>?_;refine bW y ?_;refine Gv [1000,1001,1002] (ih x d o r2 h2.1) rfl rfl rfl rfl rfl (fun v q=>⟨ab (h2.2.1 q.1▸rfl),q.2⟩) fun p u o' e aa=>?_;refine⟨?_,?_⟩
   ·exact Gu (a:=m) (b:=p) w.1 aa
   refine Fit.aar (by omega) (by omega) ?_;exact⟨(k+1,((if p>m then p else m),u,o')),⟨j,h2.2.2 p u o' e⟩,⟨aZ,.inr (.inl ⟨rfl,rfl⟩),trivial⟩,⟨.inl ⟨_,rfl,.inl ⟨rfl,rfl⟩⟩,.inl ⟨_,rfl,.inl ⟨rfl,rfl⟩⟩,.inl ⟨_,rfl,.inl ⟨rfl,rfl⟩⟩,trivial⟩,bf j⟩
  ·have l:¬k<t.args.length:=by rw[n] at l;omega
   have c:=c;rw[bU l,eW] at c;refine zH (m:=Au (m+1)) rfl ?_;exact qa [1000,1001,1002] rfl rfl rfl rfl ⟨Au (m+1),d,o,hr m d o (abK c).symm,rfl,rfl⟩
 ·skip
  refine bA t.args.length 74 [8] ((0:Int),d,o) (fun x=>[IC x.1]) (fun x=>[(1000,.box 93 [.sl (s.map aD),.mpr 1001,.mpr 1002]),(1001,.map (jt IC x.2.1)),(1002,.map (jt C.bool x.2.2))]) (fun k x=>eW f (t.args.drop k) x.1 x.2.1 x.2.2=some r1) h (aj rfl) ⟨aj rfl,trivial⟩
   ⟨.inl ⟨_,rfl,.inl ⟨rfl,rfl⟩⟩,.inl ⟨_,rfl,.inl ⟨rfl,rfl⟩⟩,.inl ⟨_,rfl,.inl ⟨rfl,rfl⟩⟩,trivial⟩ (fun _=>rfl) (fun _=>rfl) ?_
  rintro k ⟨m,d,o⟩ ae c w _ _;refine ah (fun j=>?_) (fun l=>?_)
  ·have j:k<t.args.length:=by rw[n] at j;omega
   refine aX j fun x y ad z=>?_;have c:=c;rw[z] at c;refine oP (qb c) fun r2 h2=>?_;refine bW y ?_;refine Gv [1000,1001,1002] (ih x d o r2 h2.1) rfl rfl rfl rfl rfl (fun v q=>⟨ab (h2.2.1 q.1▸rfl),q.2⟩) fun p u o' e aa=>?_;refine⟨?_,?_⟩
   ·exact Gu (a:=m) (b:=p) w.1 aa
   refine Fit.aar (by omega) (by omega) ?_;exact⟨(k+1,((if p>m then p else m),u,o')),⟨j,h2.2.2 p u o' e⟩,⟨aZ,.inr (.inl ⟨rfl,rfl⟩),trivial⟩,⟨.inl ⟨_,rfl,.inl ⟨rfl,rfl⟩⟩,.inl ⟨_,rfl,.inl ⟨rfl,rfl⟩⟩,.inl ⟨_,rfl,.inl ⟨rfl,rfl⟩⟩,trivial⟩,bf j⟩
  ·have l:¬k<t.args.length:=by rw[n] at l;omega
   have c:=c;rw[bU l,eW] at c;refine zH (m:=Au (m+1)) rfl ?_;exact qa [1000,1001,1002] rfl rfl rfl rfl ⟨Au (m+1),d,o,hr m d o (abK c).symm,rfl,rfl⟩
theorem MX (s:List Ty):∀(n:Nat) (t:Ty) (d:DM) (o:OM) (r:Option (Int×DM×OM)),bL s n t d o=some r->Si s t d o (NS s r) (PD r)
 | 0,t,d,o,r,h=>by cases h
 | n+1,t,d,o,r,h=>by
  obtain⟨x,he,h⟩:=BS h
  by_cases b:x.kind=0
  ·have h:=h.2 b;obtain⟨f,h1,h2,h3⟩:=h;refine JF s t d o (fun a=>?_) (bL s n) (fun x d o r q=>MX s n x d o r q) r f h1 h2 h3;rw[eu a] at he;obtain⟨c,e,_⟩:=bD he;exact⟨x,c,e,b⟩
  ·have a:t.kind=9:=by
    by_cases a:t.kind=9
    ·exact a
    ·rw[fo a] at he;injection he with he
     rw[<-he] at b;exact o5 rfl b
   rw[eu a] at he;obtain⟨c,e,_⟩:=bD he;rcases h.1 b with⟨k,hd,rfl⟩ | ⟨hd,j,rfl⟩ | ⟨hd,j,f,h1,h2,h3⟩
   ·exact JD s t x d o k a c e b hd
   ·exact JE s t x d o a c e b hd j
   ·exact MW s t x d o a c e b hd j r f (MX s n x d _ f h1) h2 h3
end Go.Fr.Try
