/- Part of the proofs of the statements of this seat. -/
import Derived.Test.YthfdbepkalpplaaUnV1G
set_option maxRecDepth 10000
set_option linter.unusedVariables false
set_option linter.unusedSimpArgs false
namespace Go.Fr.Try
open Go Go.RowKit Go.Proofs Go.Fr Go.Fr.T Go.Fr.Api
abbrev SU (s:List Ty) (D O:List (C×C)):List TO:=[.box 93 [.rw 1001,.mpr 1002,.mpr 1003],.row 32 3 (s.map aG),.map D,.map O]
abbrev SF (s:List Ty) (D O:List (C×C)):List TO:=[.box 93 [.sl (s.map aG),.mpr 1001,.mpr 1002],.map D,.map O]
abbrev SO (k:Nat) (D O:List (C×C)):List TO:=[.box 93 [.opq k,.mpr 1001,.mpr 1002],.map D,.map O]
abbrev o4 (s:List Ty):List TO:=[.box 93 [.rw 1001,.any,.any],.row 32 3 (s.map aG)]
abbrev um (s:List Ty):List TO:=[.box 93 [.sl (s.map aG),.any,.any]]
theorem Cb (n:Int) (t:Ty):ins n t=if t.kind<1\/9<t.kind then false else if t.kind=9 then decide (0<=t.id)&&decide (t.id<n)&&decide (t.args.length=0) else !t.args.any fun x=>!ins n x:=by
 rw[uX];congr 1;congr 1;rw[List.all_eq_not_any_not]
theorem QW (s:List Ty) (D O:List (C×C)) (l:List Ty) (q:Ty->Bool) (h:∀x∈l,CallsT P 94 [aR x,.own 1000 0] [.box 89 [.own 1001 0],.box 93 [.rw 1002,.mpr 1003,.mpr 1004],.row 32 3 (s.map aG),.map D,.map O] (aT [.box 89 [.own 1001 0],.box 93 [.rw 1002,.mpr 1003,.mpr 1004],.row 32 3 (s.map aG),.map D,.map O] (.bool (q x)))) :
  CallsT P 92 [.sl (l.map aG),.fn 94 [] [.own 1000 0]] [.box 89 [.own 1001 0],.box 93 [.rw 1002,.mpr 1003,.mpr 1004],.row 32 3 (s.map aG),.map D,.map O] (aT [.box 89 [.own 1001 0],.box 93 [.rw 1002,.mpr 1003,.mpr 1004],.row 32 3 (s.map aG),.map D,.map O] (IC (fidx q l 0))):=by
 have e:(l.map aG).length=l.length:=v5 _;refine af Try.func92 tH rfl fun n _=>?_;have m:l.length<=9223372036854775807:=fN n.1;refine cA l.length 8 [] () (fun _=>[]) (fun _=>[(1000,.box 89 [.own 1001 0]),(1001,.box 93 [.rw 1002,.mpr 1003,.mpr 1004]),(1002,.row 32 3 (s.map aG)),(1003,.map D),(1004,.map O)]) (fun k _=>fidx q (l.drop k) k=fidx q l 0) rfl (ak rfl) trivial ⟨.inl ⟨_,rfl,.inl ⟨rfl,rfl⟩⟩,.inl ⟨_,rfl,.inl ⟨rfl,rfl⟩⟩,.inl ⟨_,rfl,.inl ⟨rfl,rfl⟩⟩,.inl ⟨_,rfl,.inl ⟨rfl,rfl⟩⟩,.inl ⟨_,rfl,.inl ⟨rfl,rfl⟩⟩,trivial⟩ (fun _=>rfl) (fun _=>rfl) ?_;rintro k _ p a _ _ _;refine ah (fun b=>?_) (fun c=>?_)
 ·have b:k<l.length:=by rw[e] at b;omega
  refine aW b fun x o j d=>?_;refine cH o ?_;refine callO [1000,1001,1002,1003,1004] [1000,1001,1002,1003,1004] (h x j) rfl rfl rfl rfl rfl fun _ _=>?_;refine aq (fun f=>?_) (fun f=>?_)
  ·exact bq [1000,1001,1002,1003,1004] rfl rfl rfl (vv IC (qh d a f))
  ·refine Fit.aag (by omega) (by omega) ?_;exact⟨(k+1,()),⟨b,tP d a f⟩,⟨bU,trivial⟩,⟨.inl ⟨_,rfl,.inl ⟨rfl,rfl⟩⟩,.inl ⟨_,rfl,.inl ⟨rfl,rfl⟩⟩,.inl ⟨_,rfl,.inl ⟨rfl,rfl⟩⟩,.inl ⟨_,rfl,.inl ⟨rfl,rfl⟩⟩,.inl ⟨_,rfl,.inl ⟨rfl,rfl⟩⟩,trivial⟩,bX b⟩
 ·have c:¬k<l.length:=by rw[e] at c;omega
  exact bq [1000,1001,1002,1003,1004] rfl rfl rfl (vv IC (qi c a))
theorem QX (s:List Ty) (D O:List (C×C)) (l:List Ty) (q:Ty->Bool) (h:∀x∈l,CallsT P 94 [aR x,.own 1000 0] [.box 89 [.own 1001 0],.box 93 [.rw 1002,.mpr 1003,.mpr 1004],.row 32 3 (s.map aG),.map D,.map O] (aT [.box 89 [.own 1001 0],.box 93 [.rw 1002,.mpr 1003,.mpr 1004],.row 32 3 (s.map aG),.map D,.map O] (.bool (q x)))) :
  CallsT P 49 [.sl (l.map aG),.fn 94 [] [.own 1000 0]] [.box 89 [.own 1001 0],.box 93 [.rw 1002,.mpr 1003,.mpr 1004],.row 32 3 (s.map aG),.map D,.map O] (aT [.box 89 [.own 1001 0],.box 93 [.rw 1002,.mpr 1003,.mpr 1004],.row 32 3 (s.map aG),.map D,.map O] (.bool (l.any q))):=by
 have a:=QW s D O l q h;have e:=qj q l;generalize fidx q l 0=n at a e;refine af Try.func49 tF rfl fun b _=>?_;refine callO [1000,1001,1002,1003,1004] [1000,1001,1002,1003,1004] a rfl rfl rfl rfl rfl fun _ _=>?_;exact bq [1000,1001,1002,1003,1004] rfl rfl rfl (vv C.bool e)
theorem SL (s:List Ty) (D O:List (C×C)) (x:Ty) (b:Bool) (h:CallsT P 59 [.own 1000 0,aR x] (SU s D O) (aT (SU s D O) (.bool b))) :
  CallsT P 94 [aR x,.own 1000 0] [.box 89 [.own 1001 0],.box 93 [.rw 1002,.mpr 1003,.mpr 1004],.row 32 3 (s.map aG),.map D,.map O] (aT [.box 89 [.own 1001 0],.box 93 [.rw 1002,.mpr 1003,.mpr 1004],.row 32 3 (s.map aG),.map D,.map O] (.bool (!b))):=by
 refine af Try.func94 BP rfl fun a _=>?_;refine callO [1001,1002,1003,1004] [1001,1002,1003,1004] h rfl rfl rfl rfl rfl fun _ _=>?_;exact bq [1000,1001,1002,1003,1004] rfl rfl rfl rfl
theorem PA (s:List Ty) (D O:List (C×C)):∀t:Ty,CallsT P 59 [.own 1000 0,aR t] (SU s D O) (aT (SU s D O) (.bool (ins s.length t))):=dJ fun t k=>by
 have h49:=QX s D O t.args (fun x=>!ins s.length x) fun x l=>SL s D O x _ (k x l);rw[Cb];generalize(t.args.any fun x=>!ins s.length x)=b at h49 ⊢;have c:(s.map aG).length=s.length:=v5 _;have h:(t.args.map aG).length=t.args.length:=v5 _;refine af Try.func59 BM rfl fun m _=>?_;refine ah (fun h1=>?_) (fun h1=>?_)
 ·exact bq [1000,1001,1002,1003] rfl rfl rfl (vv C.bool (by rw[fo (Or.inl h1)]))
 refine ah (fun f=>?_) (fun f=>?_)
 ·exact bq [1000,1001,1002,1003] rfl rfl rfl (vv C.bool (by rw[fo (Or.inr f)]))
 have a:¬(t.kind<1\/9<t.kind):=fun q=>q.elim (fun q=>h1 q) (fun q=>f q);refine ah (fun e=>?_) (fun e=>?_)
 ·refine ah (fun j=>?_) (fun j=>?_)
  ·skip
   refine ah (fun d=>?_) (fun d=>?_)
   ·exact bq [1000,1001,1002,1003] rfl rfl rfl (vv C.bool (by rw[fL a,fo e,aaQ (show(0:Int)<=t.id from j),aaQ (show t.id<(s.length:Int) from by rw[c] at d;exact d),aaS,aaS];exact decide_eq_decide.2 (by rw[h];omega)))
   ·exact bq [1000,1001,1002,1003] rfl rfl rfl (vv C.bool (by rw[fL a,fo e,aaP (show¬t.id<(s.length:Int) from by rw[c] at d;exact d),abh,aaV]))
  ·exact bq [1000,1001,1002,1003] rfl rfl rfl (vv C.bool (by rw[fL a,fo e,aaP (show¬(0:Int)<=t.id from j),aaV,aaV]))
 refine callO [2,1000,1001,1002,1003] [2,1000,1001,1002,1003] h49 rfl rfl rfl rfl rfl fun _ _=>?_;exact bq [1000,1001,1002,1003] rfl rfl rfl (vv C.bool (by rw[fL a,fL e]))
theorem QY (s:List Ty) (D O:List (C×C)) (l:List Ty) (q:Ty->Bool) (h:∀x∈l,CallsT P 94 [aR x,.own 1000 0] [.box 89 [.own 1001 0],.box 93 [.sl (s.map aG),.mpr 1002,.mpr 1003],.map D,.map O] (aT [.box 89 [.own 1001 0],.box 93 [.sl (s.map aG),.mpr 1002,.mpr 1003],.map D,.map O] (.bool (q x)))) :
  CallsT P 92 [.sl (l.map aG),.fn 94 [] [.own 1000 0]] [.box 89 [.own 1001 0],.box 93 [.sl (s.map aG),.mpr 1002,.mpr 1003],.map D,.map O] (aT [.box 89 [.own 1001 0],.box 93 [.sl (s.map aG),.mpr 1002,.mpr 1003],.map D,.map O] (IC (fidx q l 0))):=by
 have e:(l.map aG).length=l.length:=v5 _;refine af Try.func92 tH rfl fun n _=>?_;have m:l.length<=9223372036854775807:=fN n.1;refine cA l.length 8 [] () (fun _=>[]) (fun _=>[(1000,.box 89 [.own 1001 0]),(1001,.box 93 [.sl (s.map aG),.mpr 1002,.mpr 1003]),(1002,.map D),(1003,.map O)]) (fun k _=>fidx q (l.drop k) k=fidx q l 0) rfl (ak rfl) trivial ⟨.inl ⟨_,rfl,.inl ⟨rfl,rfl⟩⟩,.inl ⟨_,rfl,.inl ⟨rfl,rfl⟩⟩,.inl ⟨_,rfl,.inl ⟨rfl,rfl⟩⟩,.inl ⟨_,rfl,.inl ⟨rfl,rfl⟩⟩,trivial⟩ (fun _=>rfl) (fun _=>rfl) ?_;rintro k _ p a _ _ _;refine ah (fun b=>?_) (fun c=>?_)
 ·have b:k<l.length:=by rw[e] at b;omega
  refine aW b fun x o j d=>?_;refine cH o ?_;refine callO [1000,1001,1002,1003] [1000,1001,1002,1003] (h x j) rfl rfl rfl rfl rfl fun _ _=>?_;refine aq (fun f=>?_) (fun f=>?_)
  ·exact bq [1000,1001,1002,1003] rfl rfl rfl (vv IC (qh d a f))
  ·refine Fit.aag (by omega) (by omega) ?_;exact⟨(k+1,()),⟨b,tP d a f⟩,⟨bU,trivial⟩,⟨.inl ⟨_,rfl,.inl ⟨rfl,rfl⟩⟩,.inl ⟨_,rfl,.inl ⟨rfl,rfl⟩⟩,.inl ⟨_,rfl,.inl ⟨rfl,rfl⟩⟩,.inl ⟨_,rfl,.inl ⟨rfl,rfl⟩⟩,trivial⟩,bX b⟩
 ·have c:¬k<l.length:=by rw[e] at c;omega
  exact bq [1000,1001,1002,1003] rfl rfl rfl (vv IC (qi c a))
theorem QZ (s:List Ty) (D O:List (C×C)) (l:List Ty) (q:Ty->Bool) (h:∀x∈l,CallsT P 94 [aR x,.own 1000 0] [.box 89 [.own 1001 0],.box 93 [.sl (s.map aG),.mpr 1002,.mpr 1003],.map D,.map O] (aT [.box 89 [.own 1001 0],.box 93 [.sl (s.map aG),.mpr 1002,.mpr 1003],.map D,.map O] (.bool (q x)))) :
  CallsT P 49 [.sl (l.map aG),.fn 94 [] [.own 1000 0]] [.box 89 [.own 1001 0],.box 93 [.sl (s.map aG),.mpr 1002,.mpr 1003],.map D,.map O] (aT [.box 89 [.own 1001 0],.box 93 [.sl (s.map aG),.mpr 1002,.mpr 1003],.map D,.map O] (.bool (l.any q))):=by
 have a:=QY s D O l q h;have e:=qj q l;generalize fidx q l 0=n at a e;refine af Try.func49 tF rfl fun b _=>?_;refine callO [1000,1001,1002,1003] [1000,1001,1002,1003] a rfl rfl rfl rfl rfl fun _ _=>?_;exact bq [1000,1001,1002,1003] rfl rfl rfl (vv C.bool e)
theorem SM (s:List Ty) (D O:List (C×C)) (x:Ty) (b:Bool) (h:CallsT P 59 [.own 1000 0,aR x] (SF s D O) (aT (SF s D O) (.bool b))) :
  CallsT P 94 [aR x,.own 1000 0] [.box 89 [.own 1001 0],.box 93 [.sl (s.map aG),.mpr 1002,.mpr 1003],.map D,.map O] (aT [.box 89 [.own 1001 0],.box 93 [.sl (s.map aG),.mpr 1002,.mpr 1003],.map D,.map O] (.bool (!b))):=by
 refine af Try.func94 BP rfl fun a _=>?_;refine callO [1001,1002,1003] [1001,1002,1003] h rfl rfl rfl rfl rfl fun _ _=>?_;exact bq [1000,1001,1002,1003] rfl rfl rfl rfl
theorem KF (s:List Ty) (D O:List (C×C)):∀t:Ty,CallsT P 59 [.own 1000 0,aR t] (SF s D O) (aT (SF s D O) (.bool (ins s.length t))):=dJ fun t k=>by
 have h49:=QZ s D O t.args (fun x=>!ins s.length x) fun x l=>SM s D O x _ (k x l);rw[Cb];generalize(t.args.any fun x=>!ins s.length x)=b at h49 ⊢;have c:(s.map aG).length=s.length:=v5 _;have h:(t.args.map aG).length=t.args.length:=v5 _;refine af Try.func59 BM rfl fun m _=>?_;refine ah (fun h1=>?_) (fun h1=>?_)
 ·exact bq [1000,1001,1002] rfl rfl rfl (vv C.bool (by rw[fo (Or.inl h1)]))
 refine ah (fun f=>?_) (fun f=>?_)
 ·exact bq [1000,1001,1002] rfl rfl rfl (vv C.bool (by rw[fo (Or.inr f)]))
 have a:¬(t.kind<1\/9<t.kind):=fun q=>q.elim (fun q=>h1 q) (fun q=>f q);refine ah (fun e=>?_) (fun e=>?_)
 ·refine ah (fun j=>?_) (fun j=>?_)
  ·skip
   refine ah (fun d=>?_) (fun d=>?_)
   ·exact bq [1000,1001,1002] rfl rfl rfl (vv C.bool (by rw[fL a,fo e,aaQ (show(0:Int)<=t.id from j),aaQ (show t.id<(s.length:Int) from by rw[c] at d;exact d),aaS,aaS];exact decide_eq_decide.2 (by rw[h];omega)))
   ·exact bq [1000,1001,1002] rfl rfl rfl (vv C.bool (by rw[fL a,fo e,aaP (show¬t.id<(s.length:Int) from by rw[c] at d;exact d),abh,aaV]))
  ·exact bq [1000,1001,1002] rfl rfl rfl (vv C.bool (by rw[fL a,fo e,aaP (show¬(0:Int)<=t.id from j),aaV,aaV]))
 refine callO [2,1000,1001,1002] [2,1000,1001,1002] h49 rfl rfl rfl rfl rfl fun _ _=>?_;exact bq [1000,1001,1002] rfl rfl rfl (vv C.bool (by rw[fL a,fL e]))
theorem Q0 (k n:Nat) (D O:List (C×C)) (l:List Ty) (q:Ty->Bool) (h:∀x∈l,CallsT P 94 [aR x,.own 1000 0] [.box 89 [.own 1001 0],.box 93 [.opq k,.mpr 1002,.mpr 1003],.map D,.map O] (aT [.box 89 [.own 1001 0],.box 93 [.opq k,.mpr 1002,.mpr 1003],.map D,.map O] (.bool (q x)))) :
  CallsT P 92 [.sl (l.map aG),.fn 94 [] [.own 1000 0]] [.box 89 [.own 1001 0],.box 93 [.opq k,.mpr 1002,.mpr 1003],.map D,.map O] (aT [.box 89 [.own 1001 0],.box 93 [.opq k,.mpr 1002,.mpr 1003],.map D,.map O] (IC (fidx q l 0))):=by
 have e:(l.map aG).length=l.length:=v5 _;refine af Try.func92 tH rfl fun o _=>?_;have m:l.length<=9223372036854775807:=fN o.1;refine cA l.length 8 [] () (fun _=>[]) (fun _=>[(1000,.box 89 [.own 1001 0]),(1001,.box 93 [.opq k,.mpr 1002,.mpr 1003]),(1002,.map D),(1003,.map O)]) (fun k _=>fidx q (l.drop k) k=fidx q l 0) rfl (ak rfl) trivial ⟨.inl ⟨_,rfl,.inl ⟨rfl,rfl⟩⟩,.inl ⟨_,rfl,.inl ⟨rfl,rfl⟩⟩,.inl ⟨_,rfl,.inl ⟨rfl,rfl⟩⟩,.inl ⟨_,rfl,.inl ⟨rfl,rfl⟩⟩,trivial⟩ (fun _=>rfl) (fun _=>rfl) ?_;rintro k _ r a _ _ _;refine ah (fun b=>?_) (fun c=>?_)
 ·have b:k<l.length:=by rw[e] at b;omega
  refine aW b fun x p j d=>?_;refine cH p ?_;refine callO [1000,1001,1002,1003] [1000,1001,1002,1003] (h x j) rfl rfl rfl rfl rfl fun _ _=>?_;refine aq (fun f=>?_) (fun f=>?_)
  ·exact bq [1000,1001,1002,1003] rfl rfl rfl (vv IC (qh d a f))
  ·refine Fit.aag (by omega) (by omega) ?_;exact⟨(k+1,()),⟨b,tP d a f⟩,⟨bU,trivial⟩,⟨.inl ⟨_,rfl,.inl ⟨rfl,rfl⟩⟩,.inl ⟨_,rfl,.inl ⟨rfl,rfl⟩⟩,.inl ⟨_,rfl,.inl ⟨rfl,rfl⟩⟩,.inl ⟨_,rfl,.inl ⟨rfl,rfl⟩⟩,trivial⟩,bX b⟩
 ·have c:¬k<l.length:=by rw[e] at c;omega
  exact bq [1000,1001,1002,1003] rfl rfl rfl (vv IC (qi c a))
theorem Q5 (k n:Nat) (D O:List (C×C)) (l:List Ty) (q:Ty->Bool) (h:∀x∈l,CallsT P 94 [aR x,.own 1000 0] [.box 89 [.own 1001 0],.box 93 [.opq k,.mpr 1002,.mpr 1003],.map D,.map O] (aT [.box 89 [.own 1001 0],.box 93 [.opq k,.mpr 1002,.mpr 1003],.map D,.map O] (.bool (q x)))) :
  CallsT P 49 [.sl (l.map aG),.fn 94 [] [.own 1000 0]] [.box 89 [.own 1001 0],.box 93 [.opq k,.mpr 1002,.mpr 1003],.map D,.map O] (aT [.box 89 [.own 1001 0],.box 93 [.opq k,.mpr 1002,.mpr 1003],.map D,.map O] (.bool (l.any q))):=by
 have a:=Q0 k n D O l q h;have e:=qj q l;generalize fidx q l 0=n at a e;refine af Try.func49 tF rfl fun b _=>?_;refine callO [1000,1001,1002,1003] [1000,1001,1002,1003] a rfl rfl rfl rfl rfl fun _ _=>?_;exact bq [1000,1001,1002,1003] rfl rfl rfl (vv C.bool e)
theorem SN (k n:Nat) (D O:List (C×C)) (x:Ty) (b:Bool) (h:CallsT P 59 [.own 1000 0,aR x] (SO k D O) (aT (SO k D O) (.bool b))) :
  CallsT P 94 [aR x,.own 1000 0] [.box 89 [.own 1001 0],.box 93 [.opq k,.mpr 1002,.mpr 1003],.map D,.map O] (aT [.box 89 [.own 1001 0],.box 93 [.opq k,.mpr 1002,.mpr 1003],.map D,.map O] (.bool (!b))):=by
 refine af Try.func94 BP rfl fun a _=>?_;refine callO [1001,1002,1003] [1001,1002,1003] h rfl rfl rfl rfl rfl fun _ _=>?_;exact bq [1000,1001,1002,1003] rfl rfl rfl rfl
theorem SQ (k n:Nat) (D O:List (C×C)) (p:rC k=some n) (l:n<=9223372036854775807):∀t:Ty,CallsT P 59 [.own 1000 0,aR t] (SO k D O) (aT (SO k D O) (.bool (ins n t))):=dJ fun t j=>by
 have h49:=Q5 k n D O t.args (fun x=>!ins n x) fun x o=>SN k n D O x _ (j x o);rw[Cb];generalize(t.args.any fun x=>!ins n x)=b at h49 ⊢;have m:n=n:=rfl;have f:(t.args.map aG).length=t.args.length:=v5 _;refine af Try.func59 BM rfl fun r _=>?_;refine ah (fun h1=>?_) (fun h1=>?_)
 ·exact bq [1000,1001,1002] rfl rfl rfl (vv C.bool (by rw[fo (Or.inl h1)]))
 refine ah (fun d=>?_) (fun d=>?_)
 ·exact bq [1000,1001,1002] rfl rfl rfl (vv C.bool (by rw[fo (Or.inr d)]))
 have a:¬(t.kind<1\/9<t.kind):=fun q=>q.elim (fun q=>h1 q) (fun q=>d q);refine ah (fun c=>?_) (fun c=>?_)
 ·refine ah (fun h=>?_) (fun h=>?_)
  ·skip
   refine Jz.mk ⟨n,p,l,?_⟩;refine ah (fun e=>?_) (fun e=>?_)
   ·exact bq [1000,1001,1002] rfl rfl rfl (vv C.bool (by rw[fL a,fo c,aaQ (show(0:Int)<=t.id from h),aaQ (show t.id<(n:Int) from e),aaS,aaS];exact decide_eq_decide.2 (by rw[f];omega)))
   ·exact bq [1000,1001,1002] rfl rfl rfl (vv C.bool (by rw[fL a,fo c,aaP (show¬t.id<(n:Int) from e),abh,aaV]))
  ·exact bq [1000,1001,1002] rfl rfl rfl (vv C.bool (by rw[fL a,fo c,aaP (show¬(0:Int)<=t.id from h),aaV,aaV]))
 refine callO [2,1000,1001,1002] [2,1000,1001,1002] h49 rfl rfl rfl rfl rfl fun _ _=>?_;exact bq [1000,1001,1002] rfl rfl rfl (vv C.bool (by rw[fL a,fL c]))
theorem KG {s:List Ty}{i:Nat}{x:Ty}{K:List C->Prop}(a:s[i]?=some x) (h:K [IC x.kind]):EA (s.map aG) i 0 1 K :=
 ⟨[IC x.kind,IC x.id,.sl (x.args.map aG)],by rw[aa5,a,abl,f8],rfl,h⟩
theorem Oe {s:List Ty}{i:Nat}{x:Ty}{K:List C->Prop}(a:s[i]?=some x) (h:K [IC x.kind,IC x.id,.sl (x.args.map aG)]):EA (s.map aG) i 0 3 K :=
 ⟨[IC x.kind,IC x.id,.sl (x.args.map aG)],by rw[aa5,a,abl,f8],rfl,h⟩
theorem yx {s:List Ty}{z:Int}{x:Ty}{K:List C->Prop}(h0:0<=z) (a:s[z.toNat]?=some x) (h:K [IC x.kind,IC x.id,.sl (x.args.map aG)]):uE (s.map aG) z 3 K :=
 ⟨_,h0,by rw[aa5,a,abl,f8],rfl,h⟩
theorem Cc {s:List Ty}{z:Int}{x:Ty}(h0:0<=z) (a:s[z.toNat]?=some x):z<((s.map aG).length:Int):=by
 have:=(aaR.1 a).1;rw[v5];omega
theorem r9 {s:List Ty}{n:Nat}{c r:Ty}(h:aO s n c=some r):∃m,n=m+1/\((c.kind≠9/\r=c)\/(c.kind=9/\∃x,0<=c.id/\s[c.id.toNat]?=some x/\((x.kind=0/\r=c)\/(x.kind≠0/\aO s m x=some r)))):=by
 cases n with
 | zero=>cases h
 | succ m =>
  refine⟨m,rfl,?_⟩;rw[aO] at h
  by_cases a:c.kind=9
  ·rw[fo a] at h;refine .inr ⟨a,?_⟩;cases b:bQ s c with
   | none=>rw[b] at h;cases h
   | some x =>
    rw[b] at h;obtain⟨d,e,_⟩:=bG b;refine⟨x,d,e,?_⟩
    by_cases h0:x.kind=0
    ·refine .inl ⟨h0,?_⟩;simp only[h0,fo] at h;injection h with h;exact h.symm
    ·refine .inr ⟨h0,?_⟩;simp only[h0,abP] at h;exact h
  ·rw[fL a] at h;injection h with h
   exact .inl ⟨a,h.symm⟩
theorem Gm (s:List Ty) (n:Nat) (t r:Ty) (h:aO s n t=some r):CallsT P 96 [.own 1000 0,aR t] (o4 s) (aT (o4 s) (aR r)):=by
 refine af Try.func96 Ga rfl fun o _=>?_;refine zY.mk ⟨Nat×Ty,(n,t),fun x=>aO s x.1 x.2=some r,[],fun _=>[],fun x=>[(3,.box 32 [IC x.2.kind,IC x.2.id,.sl (x.2.args.map aG)]),(4,.box 32 [IC 0,IC 0,.nils]),(1000,.box 93 [.rw 1001,.any,.any]),(1001,.row 32 3 (s.map aG))],fun x=>x.1,h,trivial,
  ⟨.inl ⟨_,rfl,.inl ⟨rfl,rfl⟩⟩,.inl ⟨_,rfl,.inl ⟨rfl,rfl⟩⟩,.inl ⟨_,rfl,.inl ⟨rfl,rfl⟩⟩,.inl ⟨_,rfl,.inl ⟨rfl,rfl⟩⟩,trivial⟩,fun _=>rfl,fun _=>rfl,?_⟩
 rintro⟨n,c⟩ a _ _;refine vP (r9 a) fun m j=>?_;refine ah (fun k=>?_) (fun k=>?_)
 ·refine vP (j.2.resolve_left fun q=>q.1 k).2 fun x d=>?_;have h0:=d.1;have f:=d.2.1;refine Bc.mk (by simpa using h0) (Cc h0 f) ?_;refine KG f ?_;refine aS (fun l=>?_) (fun l=>?_)
  ·have b:=d.2.2.resolve_left fun q=>l q.1;refine Bc.mk (by simpa using h0) (Cc h0 f) ?_;refine Oe f ?_;exact⟨(m,x),b.2,trivial,⟨.inl ⟨_,rfl,.inl ⟨rfl,rfl⟩⟩,.inl ⟨_,rfl,.inl ⟨rfl,rfl⟩⟩,.inl ⟨_,rfl,.inl ⟨rfl,rfl⟩⟩,.inl ⟨_,rfl,.inl ⟨rfl,rfl⟩⟩,trivial⟩,by have e:n=m+1:=j.1;show m<n;omega⟩
  ·have b:=d.2.2.resolve_right fun q=>q.1 l;exact bq [1000,1001] rfl rfl rfl (by rw[b.2];rfl)
 ·have b:=j.2.resolve_right fun q=>k q.1;exact bq [1000,1001] rfl rfl rfl (by rw[b.2];rfl)
theorem SR (s:List Ty) (n:Nat) (t r:Ty) (h:aO s n t=some r):CallsT P 96 [.own 1000 0,aR t] (um s) (aT (um s) (aR r)):=by
 refine af Try.func96 Ga rfl fun o _=>?_;refine zY.mk ⟨Nat×Ty,(n,t),fun x=>aO s x.1 x.2=some r,[],fun _=>[],fun x=>[(3,.box 32 [IC x.2.kind,IC x.2.id,.sl (x.2.args.map aG)]),(4,.box 32 [IC 0,IC 0,.nils]),(1000,.box 93 [.sl (s.map aG),.any,.any])],fun x=>x.1,h,trivial,
  ⟨.inl ⟨_,rfl,.inl ⟨rfl,rfl⟩⟩,.inl ⟨_,rfl,.inl ⟨rfl,rfl⟩⟩,.inl ⟨_,rfl,.inl ⟨rfl,rfl⟩⟩,trivial⟩,fun _=>rfl,fun _=>rfl,?_⟩
 rintro⟨n,c⟩ a _ _;refine vP (r9 a) fun m f=>?_;refine ah (fun j=>?_) (fun j=>?_)
 ·refine vP (f.2.resolve_left fun q=>q.1 j).2 fun x d=>?_;have h0:=d.1;have l:=d.2.1;refine yx h0 l ?_;refine aS (fun k=>?_) (fun k=>?_)
  ·have b:=d.2.2.resolve_left fun q=>k q.1;refine yx h0 l ?_;exact⟨(m,x),b.2,trivial,⟨.inl ⟨_,rfl,.inl ⟨rfl,rfl⟩⟩,.inl ⟨_,rfl,.inl ⟨rfl,rfl⟩⟩,.inl ⟨_,rfl,.inl ⟨rfl,rfl⟩⟩,trivial⟩,by have e:n=m+1:=f.1;show m<n;omega⟩
  ·have b:=d.2.2.resolve_right fun q=>q.1 k;exact bq [1000] rfl rfl rfl (by rw[b.2];rfl)
 ·have b:=f.2.resolve_right fun q=>j q.1;exact bq [1000] rfl rfl rfl (by rw[b.2];rfl)
theorem SS (s:List Ty) (v:Int) (l:List Ty) (q:Ty->Bool) (h:∀x∈l,CallsT P 113 [aR x,.own 1000 0,.pt [IC v] 0] [.box 89 [.own 1001 0],.box 93 [.rw 1002,.any,.any],.row 32 3 (s.map aG)] (aT [.box 89 [.own 1001 0],.box 93 [.rw 1002,.any,.any],.row 32 3 (s.map aG)] (.bool (q x)))) :
  CallsT P 92 [.sl (l.map aG),.fn 113 [] [.own 1000 0,.pt [IC v] 0]] [.box 89 [.own 1001 0],.box 93 [.rw 1002,.any,.any],.row 32 3 (s.map aG)] (aT [.box 89 [.own 1001 0],.box 93 [.rw 1002,.any,.any],.row 32 3 (s.map aG)] (IC (fidx q l 0))):=by
 have e:(l.map aG).length=l.length:=v5 _;refine af Try.func92 tH rfl fun n _=>?_;have m:l.length<=9223372036854775807:=fN n.1;refine cA l.length 8 [] () (fun _=>[]) (fun _=>[(1000,.box 89 [.own 1001 0]),(1001,.box 93 [.rw 1002,.any,.any]),(1002,.row 32 3 (s.map aG))]) (fun k _=>fidx q (l.drop k) k=fidx q l 0) rfl (ak rfl) trivial ⟨.inl ⟨_,rfl,.inl ⟨rfl,rfl⟩⟩,.inl ⟨_,rfl,.inl ⟨rfl,rfl⟩⟩,.inl ⟨_,rfl,.inl ⟨rfl,rfl⟩⟩,trivial⟩ (fun _=>rfl) (fun _=>rfl) ?_;rintro k _ p a _ _ _;refine ah (fun b=>?_) (fun c=>?_)
 ·have b:k<l.length:=by rw[e] at b;omega
  refine aW b fun x o j d=>?_;refine cH o ?_;refine callO [1000,1001,1002] [1000,1001,1002] (h x j) rfl rfl rfl rfl rfl fun _ _=>?_;refine aq (fun f=>?_) (fun f=>?_)
  ·exact bq [1000,1001,1002] rfl rfl rfl (vv IC (qh d a f))
  ·refine Fit.aag (by omega) (by omega) ?_;exact⟨(k+1,()),⟨b,tP d a f⟩,⟨bU,trivial⟩,⟨.inl ⟨_,rfl,.inl ⟨rfl,rfl⟩⟩,.inl ⟨_,rfl,.inl ⟨rfl,rfl⟩⟩,.inl ⟨_,rfl,.inl ⟨rfl,rfl⟩⟩,trivial⟩,bX b⟩
 ·have c:¬k<l.length:=by rw[e] at c;omega
  exact bq [1000,1001,1002] rfl rfl rfl (vv IC (qi c a))
theorem SW (s:List Ty) (v:Int) (l:List Ty) (q:Ty->Bool) (h:∀x∈l,CallsT P 113 [aR x,.own 1000 0,.pt [IC v] 0] [.box 89 [.own 1001 0],.box 93 [.rw 1002,.any,.any],.row 32 3 (s.map aG)] (aT [.box 89 [.own 1001 0],.box 93 [.rw 1002,.any,.any],.row 32 3 (s.map aG)] (.bool (q x)))) :
  CallsT P 49 [.sl (l.map aG),.fn 113 [] [.own 1000 0,.pt [IC v] 0]] [.box 89 [.own 1001 0],.box 93 [.rw 1002,.any,.any],.row 32 3 (s.map aG)] (aT [.box 89 [.own 1001 0],.box 93 [.rw 1002,.any,.any],.row 32 3 (s.map aG)] (.bool (l.any q))):=by
 have a:=SS s v l q h;have e:=qj q l;generalize fidx q l 0=n at a e;refine af Try.func49 tF rfl fun b _=>?_;refine callO [1000,1001,1002] [1000,1001,1002] a rfl rfl rfl rfl rfl fun _ _=>?_;exact bq [1000,1001,1002] rfl rfl rfl (vv C.bool e)
theorem qN {f:Ty->Option Bool}:∀{l:List Ty}{b:Bool},vR f l=some b->(∀x∈l,f x=some ((f x).getD false))/\l.any (fun x=>(f x).getD false)=b
 | [],b,h=>by
  rw[vR] at h;injection h with h
  exact⟨by simp,by rw[<-h];rfl⟩
 | x::l,b,h=>by
  rw[vR] at h;cases c:f x with
  | none=>rw[c] at h;cases h
  | some a =>
   rw[c] at h;cases d:vR f l with
   | none=>rw[d] at h;cases h
   | some j =>
    rw[d] at h;injection h with h
    obtain⟨i1,i2⟩:=qN d;refine⟨fun y e=>?_,?_⟩
    ·rcases aaT.1 e with rfl | e
     ·rw[c];rfl
     ·exact i1 y e
    ·rw[abI,i2,c];exact h
theorem VP (s:List Ty) (v:Int) (x:Ty) (b:Bool) (h:CallsT P 97 [.own 1000 0,IC v,aR x] (o4 s) (aT (o4 s) (.bool b))) :
  CallsT P 113 [aR x,.own 1000 0,.pt [IC v] 0] [.box 89 [.own 1001 0],.box 93 [.rw 1002,.any,.any],.row 32 3 (s.map aG)] (aT [.box 89 [.own 1001 0],.box 93 [.rw 1002,.any,.any],.row 32 3 (s.map aG)] (.bool b)):=by
 refine af Try.func113 Kn rfl fun a _=>?_;refine callO [1001,1002] [1001,1002] h rfl rfl rfl rfl rfl fun _ _=>?_;exact bq [1000,1001,1002] rfl rfl rfl rfl
theorem VQ (s:List Ty) (v:Int) (t r:Ty) (h:CallsT P 96 [.own 1000 0,aR t] (o4 s) (aT (o4 s) (aR r))) (a:r.kind=9) :
  CallsT P 97 [.own 1000 0,IC v,aR t] (o4 s) (aT (o4 s) (.bool (decide (r.id=v)))):=by
 refine af Try.func97 Gb rfl fun b _=>?_;refine callO [1000,1001] [1000,1001] h rfl rfl rfl rfl rfl fun _ _=>?_;refine ah (fun _=>?_) (fun q=>o5 a q);exact bq [1000,1001] rfl rfl rfl rfl
theorem VR (s:List Ty) (v:Int) (t r:Ty) (b:Bool) (h:CallsT P 96 [.own 1000 0,aR t] (o4 s) (aT (o4 s) (aR r))) (a:¬r.kind=9)
  (h49:CallsT P 49 [.sl (r.args.map aG),.fn 113 [] [.own 1000 0,.pt [IC v] 0]] [.box 89 [.own 1001 0],.box 93 [.rw 1002,.any,.any],.row 32 3 (s.map aG)] (aT [.box 89 [.own 1001 0],.box 93 [.rw 1002,.any,.any],.row 32 3 (s.map aG)] (.bool b))) :
  CallsT P 97 [.own 1000 0,IC v,aR t] (o4 s) (aT (o4 s) (.bool b)):=by
 refine af Try.func97 Gb rfl fun c _=>?_;refine callO [1000,1001] [1000,1001] h rfl rfl rfl rfl rfl fun _ _=>?_;refine ah (fun q=>o5 q a) (fun _=>?_);refine callO [3,1000,1001] [3,1000,1001] h49 rfl rfl rfl rfl rfl fun _ _=>?_;exact bq [1000,1001] rfl rfl rfl rfl
theorem XD (s:List Ty) (v:Int):∀(n:Nat) (t:Ty) (b:Bool),kQ s v n t=some b->CallsT P 97 [.own 1000 0,IC v,aR t] (o4 s) (aT (o4 s) (.bool b))
 | 0,t,b,h=>by cases h
 | n+1,t,b,h=>by
  rw[kQ] at h;cases a:aO s n t with
  | none=>rw[a] at h;cases h
  | some r =>
   simp only[a] at h
   by_cases c:r.kind=9
   ·rw[fo c] at h;injection h with h
    rw[<-h];exact VQ s v t r (Gm s n t r a) c
   ·rw[fL c] at h;obtain⟨h1,d⟩:=qN h;have h49:=SW s v r.args (fun x=>(kQ s v n x).getD false) fun x e=>VP s v x _ (XD s v n x _ (h1 x e));rw[d] at h49;exact VR s v t r b (Gm s n t r a) c h49
section
variable {P:Program}{L:TL}{ρ:aK}
theorem pu {R:List TO->C->Prop}(ko:List Nat) {Lin Mo Lo:List TO}{v x:C}(b:L.sub ko=some Mo) (a:(T.aP ko&&aI Lin (List.range' 1000 Lin.length) ko)=true) (c:Mo.map (TO.aad (C.ren (bh ko 1000)))=Lo) (e:v.aat.ren (bh ko 1000)=x) (h:R Lo x):f9 Lin L v R:=by
 simp only[xo] at a;exact⟨[],ko,L,v,v,Mo,rfl,.inl ⟨rfl,rfl⟩,b,a.1,a.2,fun _=>by rw[c,e];exact h⟩
theorem nX.imp {P:Program}{f:FuncId}{args:Array Value}{F:au}{Lin:List Own}{R R':au->List Own->Value->Prop}{Pp Pp':Value->Prop}(h:nX P f args F Lin R Pp)
  (m:∀F G L v,F.le G->R' F L v->R' G L v) (p:∀F L v,R F L v->R' F L v) (n:∀v,Pp v->Pp' v):nX P f args F Lin R' Pp' :=
 ⟨h.ent,m,fun w l=>(h.run w l).mono fun e w' k=>by
  rcases k with⟨v,F',Lo,h1,a,b,c⟩ | ⟨v,q,F',Lo,h1,d,a,b,c,j,o⟩
  ·exact .inl ⟨v,F',Lo,h1,a,b,p _ _ _ c⟩
  ·exact .inr ⟨v,q,F',Lo,h1,d,a,b,c,j,n v o⟩⟩
theorem CallsTX.imp {P:Program}{f:Nat}{args:List C}{Lin:List TO}{R R':List TO->C->Prop}{Pp Pp':Value->Prop}(h:CallsTX P f args Lin R Pp)
  (n:∀Mo c,R Mo c->R' Mo c) (j:∀v,Pp v->Pp' v):CallsTX P f args Lin R' Pp' :=
 ⟨fun F Li k h1 d l=>nX.imp (h.out F Li k h1 d l) gC.aao (fun F L v ⟨Mo,c,m,e,o,a,b⟩=>⟨Mo,c,m,e,o,a,n _ _ b⟩) j⟩
theorem iK (ks:List Nat) {PS:nD}{Pp:Value->Prop}{e:List Nat}{f:Nat}{args a:List C}{K:TL->aK->C->Prop}{x:C}{Lin Lin' Lo:List TO}(h:CallsTX P f a Lin' (aT Lo x) Pp) (n:L.sub ks=some Lin)
  (d:(T.aP ks&&pW ks e&&aI Lin ks ks&&ju L ks PS.hb)=true) (j:(args.map fun c=>c.aaj.ren (bh ks 1000))=a) (r:Lin.map (TO.aad (C.ren (bh ks 1000)))=Lin') (l:ks.length=Lo.length) (p:∀v,Pp v->PS.ps v)
  (k:Wf x->(∀o∈Lo,o.Wf)->K (((L.aae ks).kills (rowsOf L ks)).puts ks (Lo.map (TO.aad (C.ren (aH ks))))) (dh (rowsOf L ks) ρ) (x.ren (aH ks)).slt):oC P PS e f args L ρ K:=by
 subst j r;simp only[xo] at d;obtain⟨⟨⟨s,q⟩,c3⟩,c4⟩:=d;exact⟨ks,Lin,_,_,n,s,q,c3,c4,h,p,fun v Mo ⟨t,u⟩ m b=>by subst t u;exact⟨l,k m b⟩⟩
end
theorem Aw {els:List (List C)}{j off n:Nat}{a:List C}{K:List C->Prop}(h:els[j]?=some a) (c:eW ((a.drop off).take n) n=true) (k:K a):EA els j off n fun _=>∀es,els[j]?=some es->K es :=
 ⟨a,h,c,fun es b=>by rw[h] at b;injection b with b;rw[<-b];exact k⟩
theorem KH {s:List Ty}{j:Nat}{t:Ty}:(s.map aG).set j [IC t.kind,IC t.id,.sl (t.args.map aG)]=(s.set j t).map aG:=by
 rw[List.map_set,f8]
theorem Gn {s:List Ty}{i:Nat}{x:Ty}(a:s[i]?=some x):(s.map aG)[i]?=some [IC x.kind,IC x.id,.sl (x.args.map aG)]:=by rw[aa5,a,abl,f8]
def cB (e:Int):Value:=.iface 98 (.agg #[.int .i64 e])
abbrev tT (s:List Ty) (t r:Ty):Prop:=CallsT P 96 [.own 1000 0,aR t] (o4 s) (aT (o4 s) (aR r))
abbrev si (s:List Ty) (a b:Ty) (R:List TO->C->Prop) (Pp:Value->Prop):Prop:=CallsTX P 63 [.own 1000 0,aR a,aR b] (o4 s) R Pp
theorem KI (s:List Ty) (a b a' c:Ty) (f:tT s a a') (hb:tT s b c) (h1:a'.kind=9) (d:c.kind=9) (e:a'.id=c.id):si s a b (aT (o4 s) (.tup [])) (fun _=>False):=by
 refine aU Try.func63 oI rfl fun j _=>?_;refine iK [1000,1001] f.toX rfl rfl rfl rfl rfl (fun _ h=>h) fun _ _=>?_;refine iK [1000,1001] hb.toX rfl rfl rfl rfl rfl (fun _ h=>h) fun _ _=>?_;refine ah (fun _=>?_) (fun q=>o5 h1 q);refine ah (fun _=>?_) (fun q=>o5 d q);refine aS (fun q=>o5 e q) (fun _=>?_);exact bq [1000,1001] rfl rfl rfl rfl
def RE (r:Option (List Ty)):List TO->C->Prop:=fun Mo v=>∃s',r=some s'/\Mo=o4 s'/\v=.tup []
def PE (r:Option (List Ty)):Value->Prop:=fun v=>r=none/\v=cB 8
section
variable {L:TL}{ρ:aK}
theorem PG (ks:List Nat) {PS:nD}{args a:List C}{K:TL->aK->C->Prop}{s:List Ty}{r:Option (List Ty)}{Lin:List TO}(h:CallsTX P 63 a (o4 s) (RE r) (PE r)) (l:L.sub ks=some Lin)
  (b:(T.aP ks&&T.jt L ks ks&&aI Lin ks ks&&ju L ks PS.hb)=true) (e:(args.map fun c=>c.aaj.ren (bh ks 1000))=a) (o:Lin.map (TO.aad (C.ren (bh ks 1000)))=o4 s) (f:ks.length=2) (m:∀v,PE r v->PS.ps v)
  (k:∀s',r=some s'->K (((L.aae ks).kills (rowsOf L ks)).puts ks ((o4 s').map (TO.aad (C.ren (aH ks))))) (dh (rowsOf L ks) ρ) (.tup [])):kR P PS 63 args L ρ K:=by
 subst e;simp only[xo] at b;obtain⟨⟨⟨d,n⟩,c3⟩,c4⟩:=b;refine⟨[],ks,ks,L,Lin,_,_,.inl rfl,l,d,d,n,c3,c4,by rw[o];exact h,m,?_⟩;rintro v Mo ⟨s',p,rfl,rfl⟩ q j;exact⟨f,k s' p⟩
theorem Q6 (ks:List Nat) {PS:nD}{d:List Nat}{args a:List C}{K:TL->aK->C->Prop}{s:List Ty}{r:Option (List Ty)}{Lin:List TO}(h:CallsTX P 63 a (o4 s) (RE r) (PE r)) (l:L.sub ks=some Lin)
  (b:(T.aP ks&&pW ks d&&aI Lin ks ks&&ju L ks PS.hb)=true) (e:(args.map fun c=>c.aaj.ren (bh ks 1000))=a) (o:Lin.map (TO.aad (C.ren (bh ks 1000)))=o4 s) (f:ks.length=2) (m:∀v,PE r v->PS.ps v)
  (k:∀s',r=some s'->K (((L.aae ks).kills (rowsOf L ks)).puts ks ((o4 s').map (TO.aad (C.ren (aH ks))))) (dh (rowsOf L ks) ρ) (.tup [])):oC P PS d 63 args L ρ K:=by
 subst e;simp only[xo] at b;obtain⟨⟨⟨p,n⟩,c3⟩,c4⟩:=b;refine⟨ks,Lin,_,_,l,p,n,c3,c4,by rw[o];exact h,m,?_⟩;rintro v Mo ⟨s',q,rfl,rfl⟩ t j;exact⟨f,k s' q⟩
end
theorem E4 {a b:Int}(h:Wf (IC a)) (k:Wf (IC b)):Wf (IC (if b>a then b else a)):=by split<;>assumption
theorem Q7 {a b:Int}(h:Wf (IC a)) (k:Wf (IC b)):Wf (IC (if b<a then b else a)):=by split<;>assumption
theorem mmV (h:True) (a b:Int):(if b>a then b else a)=max a b:=by split<;>omega
theorem mmN (h:True) (a b:Int):(if b<a then b else a)=min a b:=by split<;>omega
theorem Ay (s:List Ty) (a b a' d x:Ty) (p:tT s a a') (hb:tT s b d) (h1:a'.kind=9) (r:d.kind=9) (u:¬a'.id=d.id) (h0:0<=max a'.id d.id) (o:s[(max a'.id d.id).toNat]?=some x) :
  si s a b (aT (o4 (s.set (max a'.id d.id).toNat (.mk 9 (min a'.id d.id) []))) (.tup [])) (fun _=>False):=by
 have m:=mmV trivial a'.id d.id;have n:=mmN trivial a'.id d.id;have c:=KH (s:=s) (j:=(max a'.id d.id).toNat) (t:=.mk 9 (min a'.id d.id) []);have e:=Gn o;have f:=Cc h0 o;generalize s.set (max a'.id d.id).toNat (.mk 9 (min a'.id d.id) [])=s' at c ⊢;rw[<-m] at c e h0 f;rw[<-n] at c;refine aU Try.func63 oI rfl fun v _=>?_;refine iK [1000,1001] p.toX rfl rfl rfl rfl rfl (fun _ h=>h) fun l _=>?_;refine iK [1000,1001] hb.toX rfl rfl rfl rfl rfl (fun _ h=>h) fun k _=>?_;refine ah (fun _=>?_) (fun q=>o5 h1 q);refine ah (fun _=>?_) (fun q=>o5 r q);refine aS (fun _=>?_) (fun q=>o5 q u);refine⟨?_,⟨?_,?_⟩⟩
 ·exact E4 l.2.1 k.2.1
 ·exact Q7 l.2.1 k.2.1
 refine Bc.mk h0 f ?_;refine⟨rfl,Aw e rfl ?_⟩;exact bq [1000,1001] rfl rfl (vv (fun q=>[TO.box 93 [.rw 1001,.any,.any],.row 32 3 q]) c) rfl
theorem Og (s:List Ty) (a b a' c:Ty) (f:tT s a a') (hb:tT s b c) (h1:a'.kind=9) (e:¬c.kind=9) (d:CallsT P 97 [.own 1000 0,IC a'.id,aR c] (o4 s) (aT (o4 s) (.bool true))) :
  si s a b (fun _ _=>False) (PE none):=by
 refine aU Try.func63 oI rfl fun j _=>?_;refine iK (Pp:=fun _=>False) [1000,1001] f.toX rfl rfl rfl rfl rfl (fun _ h=>False.elim h) fun _ _=>?_;refine iK (Pp:=fun _=>False) [1000,1001] hb.toX rfl rfl rfl rfl rfl (fun _ h=>False.elim h) fun _ _=>?_;refine ah (fun _=>?_) (fun q=>o5 h1 q);refine ah (fun q=>o5 q e) (fun _=>?_);refine ah (fun _=>?_) (fun q=>o5 h1 q);refine callO [1000,1001] [1000,1001] d rfl rfl rfl rfl rfl fun _ _=>?_;exact o7 rfl ⟨rfl,rfl⟩
theorem KJ (s:List Ty) (a b a' d x:Ty) (l:tT s a a') (hb:tT s b d) (h1:a'.kind=9) (m:¬d.kind=9) (n:CallsT P 97 [.own 1000 0,IC a'.id,aR d] (o4 s) (aT (o4 s) (.bool false)))
  (h0:0<=a'.id) (k:s[a'.id.toNat]?=some x):si s a b (aT (o4 (s.set a'.id.toNat d)) (.tup [])) (fun _=>False):=by
 have c:=KH (s:=s) (j:=a'.id.toNat) (t:=d);have e:=Gn k;have f:=Cc h0 k;generalize s.set a'.id.toNat d=s' at c ⊢;refine aU Try.func63 oI rfl fun o _=>?_;refine iK [1000,1001] l.toX rfl rfl rfl rfl rfl (fun _ h=>h) fun _ _=>?_;refine iK [1000,1001] hb.toX rfl rfl rfl rfl rfl (fun _ h=>h) fun _ _=>?_;refine ah (fun _=>?_) (fun q=>o5 h1 q);refine ah (fun q=>o5 q m) (fun _=>?_);refine ah (fun _=>?_) (fun q=>o5 h1 q);refine callO [1000,1001] [1000,1001] n rfl rfl rfl rfl rfl fun _ _=>?_;refine Bc.mk h0 f ?_;refine⟨rfl,Aw e rfl ?_⟩;exact bq [1000,1001] rfl rfl (vv (fun q=>[TO.box 93 [.rw 1001,.any,.any],.row 32 3 q]) c) rfl
theorem KL (s:List Ty) (a b a' c:Ty) (r:Option (List Ty)) (f:tT s a a') (hb:tT s b c) (h1:¬a'.kind=9) (d:c.kind=9) (j:si s c a' (RE r) (PE r)):si s a b (RE r) (PE r):=by
 refine aU Try.func63 oI rfl fun k _=>?_;refine iK (Pp:=fun _=>False) [1000,1001] f.toX rfl rfl rfl rfl rfl (fun _ h=>False.elim h) fun _ _=>?_;refine iK (Pp:=fun _=>False) [1000,1001] hb.toX rfl rfl rfl rfl rfl (fun _ h=>False.elim h) fun _ _=>?_;refine ah (fun q=>o5 q h1) (fun _=>?_);refine ah (fun q=>o5 q h1) (fun _=>?_);refine ah (fun _=>?_) (fun q=>o5 d q);refine PG [1000,1001] j rfl rfl rfl rfl rfl (fun _ h=>h) fun s' e=>?_;exact pu [1000,1001] rfl rfl rfl rfl ⟨s',e,rfl,rfl⟩
theorem KM (s:List Ty) (a b a' c:Ty) (j:tT s a a') (hb:tT s b c) (h1:¬a'.kind=9) (l:¬c.kind=9) (m:a'.kind≠c.kind\/a'.id≠c.id\/a'.args.length≠c.args.length):si s a b (fun _ _=>False) (PE none):=by
 have e:(a'.args.map aG).length=a'.args.length:=v5 _;have d:(c.args.map aG).length=c.args.length:=v5 _;refine aU Try.func63 oI rfl fun o _=>?_;refine iK (Pp:=fun _=>False) [1000,1001] j.toX rfl rfl rfl rfl rfl (fun _ h=>False.elim h) fun _ _=>?_;refine iK (Pp:=fun _=>False) [1000,1001] hb.toX rfl rfl rfl rfl rfl (fun _ h=>False.elim h) fun _ _=>?_;refine ah (fun q=>o5 q h1) (fun _=>?_);refine ah (fun q=>o5 q h1) (fun _=>?_);refine ah (fun q=>o5 q l) (fun _=>?_);refine aS (fun n=>?_) (fun n=>?_)
 ·exact o7 rfl ⟨rfl,rfl⟩
 refine aS (fun k=>?_) (fun k=>?_)
 ·exact o7 rfl ⟨rfl,rfl⟩
 refine aS (fun f=>?_) (fun f=>o5 m (by rw[e,d] at f;omega));exact o7 rfl ⟨rfl,rfl⟩
theorem HZ {f:List Ty->Ty->Ty->Option (Option (List Ty))}{s:List Ty}{x y:Ty}{l c:List Ty}{r:Option (List Ty)}(h:j9 f s (x::l) (y::c)=some r):∃a,f s x y=some a/\(a=none->r=none)/\∀s',a=some s'->j9 f s' l c=some r:=by
 rw[j9] at h;cases b:f s x y with
 | none=>simp only[b] at h;cases h
 | some a =>
  refine⟨a,rfl,?_,?_⟩
  ·rintro rfl;simp only[b] at h;injection h with h;exact h.symm
  ·rintro s' rfl;simp only[b] at h;exact h
theorem KN (s:List Ty) (a b a' d:Ty) (ha:tT s a a') (hb:tT s b d) (h1:¬a'.kind=9) (h2:¬d.kind=9) (z:¬(a'.kind≠d.kind\/a'.id≠d.id\/a'.args.length≠d.args.length))
  (f:List Ty->Ty->Ty->Option (Option (List Ty))) (ih:∀s x y r,f s x y=some r->si s x y (RE r) (PE r)) (r:Option (List Ty)) (hr:j9 f s a'.args d.args=some r):si s a b (RE r) (PE r):=by
 have m:(a'.args.map aG).length=a'.args.length:=v5 _;have o:(d.args.map aG).length=d.args.length:=v5 _;have ar:a'.args.length=d.args.length:=by omega
 refine aU Try.func63 oI rfl fun hw _=>?_;refine iK (Pp:=fun _=>False) [1000,1001] ha.toX rfl rfl rfl rfl rfl (fun _ h=>False.elim h) fun p _=>?_;refine iK (Pp:=fun _=>False) [1000,1001] hb.toX rfl rfl rfl rfl rfl (fun _ h=>False.elim h) fun ag _=>?_;have ac:a'.args.length<=9223372036854775807:=fN p.2.2.1;refine ah (fun q=>o5 q h1) (fun _=>?_);refine ah (fun q=>o5 q h1) (fun _=>?_);refine ah (fun q=>o5 q h2) (fun _=>?_);refine aS (fun h4=>o5 (Or.inl h4) z) (fun h4=>?_);refine aS (fun w=>o5 (Or.inr (Or.inl w)) z) (fun w=>?_);refine aS (fun h6=>o5 (by rw[m,o];omega) h6) (fun h6=>?_);refine cA a'.args.length 39 [] s (fun _=>[]) (fun s=>[(4,.box 32 [IC a'.kind,IC a'.id,.sl (a'.args.map aG)]),(5,.box 32 [IC d.kind,IC d.id,.sl (d.args.map aG)]),(1000,.box 93 [.rw 1001,.any,.any]),(1001,.row 32 3 (s.map aG))]) (fun k s=>j9 f s (a'.args.drop k) (d.args.drop k)=some r) hr (ak rfl) trivial
  ⟨.inl ⟨_,rfl,.inl ⟨rfl,rfl⟩⟩,.inl ⟨_,rfl,.inl ⟨rfl,rfl⟩⟩,.inl ⟨_,rfl,.inl ⟨rfl,rfl⟩⟩,.inl ⟨_,rfl,.inl ⟨rfl,rfl⟩⟩,trivial⟩ (fun _=>rfl) (fun _=>rfl) ?_
 rintro k s hk c _ _ _;refine ah (fun j=>?_) (fun n=>?_)
 ·have j:k<a'.args.length:=by rw[m] at j;omega
  refine aW j fun x hx am t=>?_;refine aW (l:=d.args) (k:=k) (by omega) fun y hy _ u=>?_;have c:=c;rw[t,u] at c;refine vP (HZ c) fun r1 h1=>?_;refine cH hx ?_;refine cH hy ?_;refine Q6 [1000,1001] (ih s x y r1 h1.1) rfl rfl rfl rfl rfl (fun v q=>⟨h1.2.1 q.1,q.2⟩) fun s' e=>?_;refine Fit.aag (by omega) (by omega) ?_;exact⟨(k+1,s'),⟨j,h1.2.2 s' e⟩,⟨bU,trivial⟩,⟨.inl ⟨_,rfl,.inl ⟨rfl,rfl⟩⟩,.inl ⟨_,rfl,.inl ⟨rfl,rfl⟩⟩,.inl ⟨_,rfl,.inl ⟨rfl,rfl⟩⟩,.inl ⟨_,rfl,.inl ⟨rfl,rfl⟩⟩,trivial⟩,bX j⟩
 ·have n:¬k<a'.args.length:=by rw[m] at n;omega
  have c:=c;rw[bS n,j9] at c;exact pu [1000,1001] rfl rfl rfl rfl ⟨s,(abr c).symm,rfl,rfl⟩
theorem qO {s:List Ty}:∀{n:Nat}{t r:Ty},aO s n t=some r->r.kind=9->∃x,0<=r.id/\s[r.id.toNat]?=some x/\x.kind=0
 | 0,t,r,h,_=>by cases h
 | n+1,t,r,h,b=>by
  obtain⟨m,e,h⟩:=r9 h;injection e with e
  subst e;rcases h with⟨h1,rfl⟩ | ⟨h1,x,c,d,f⟩
  ·exact o5 b h1
  ·rcases f with⟨a,rfl⟩ | ⟨a,j⟩
   ·exact⟨x,c,d,a⟩
   ·exact qO j b
theorem KO {s:List Ty}{a b:Ty}{s':List Ty}(h:si s a b (aT (o4 s') (.tup [])) (fun _=>False)):si s a b (RE (some s')) (PE (some s')) :=
 CallsTX.imp h (fun Mo v ⟨c,d⟩=>⟨s',rfl,c,d⟩) fun v q=>q.elim
theorem PI {s:List Ty}{a b:Ty}(h:si s a b (fun _ _=>False) (PE none)):si s a b (RE none) (PE none) :=
 CallsTX.imp h (fun Mo v q=>q.elim) fun v q=>q
theorem VS:∀(n:Nat) (s:List Ty) (a b:Ty) (r:Option (List Ty)),lD n s a b=some r->si s a b (RE r) (PE r)
 | 0,s,a,b,r,h=>by cases h
 | n+1,s,a,b,r,h=>by
  rw[lD] at h;cases l:aO s n a with
  | none=>simp only[l] at h;cases h
  | some a' =>
   cases hb:aO s n b with
   | none=>simp only[l,hb] at h;cases h
   | some c =>
    simp only[l,hb] at h;have j:=Gm s n a a' l;have k:=Gm s n b c hb
    by_cases h1:a'.kind=9
    ·by_cases d:c.kind=9
     ·rw[fo ⟨h1,d⟩] at h
      by_cases f:a'.id=c.id
      ·rw[fo f] at h;injection h with h
       subst h;exact KO (KI s a b a' c j k h1 d f)
      ·rw[fL f] at h;injection h with h
       subst h;obtain⟨x,m,u,_⟩:=qO l h1;obtain⟨y,w,z,_⟩:=qO hb d;refine KO ?_;rcases Int.le_total a'.id c.id with t | t
       ·have e:max a'.id c.id=c.id:=by omega
        exact Ay s a b a' c y j k h1 d f (by omega) (by rw[e];exact z)
       ·have e:max a'.id c.id=a'.id:=by omega
        exact Ay s a b a' c x j k h1 d f (by omega) (by rw[e];exact u)
     ·rw[fL (fun q=>d q.2),fo h1] at h;obtain⟨x,m,u,_⟩:=qO l h1;cases p:kQ s a'.id n c with
      | none=>simp only[p] at h;cases h
      | some o =>
       have v:=XD s a'.id n c o p;cases o
       ·simp only[p] at h;injection h with h
        subst h;exact KO (KJ s a b a' c x j k h1 d v m u)
       ·simp only[p] at h;injection h with h
        subst h;exact PI (Og s a b a' c j k h1 d v)
    ·rw[fL (fun q=>h1 q.1),fL h1] at h
     by_cases d:c.kind=9
     ·rw[fo d] at h;exact KL s a b a' c r j k h1 d (VS n s c a' r h)
     ·rw[fL d] at h
      by_cases f:a'.kind≠c.kind\/a'.id≠c.id\/a'.args.length≠c.args.length
      ·rw[fo f] at h;injection h with h
       subst h;exact PI (KM s a b a' c j k h1 d f)
      ·rw[fL f] at h;exact KN s a b a' c j k h1 d f (lD n) (fun s x y r q=>VS n s x y r q) r h
theorem sz3 (l:List Ty):∀es∈l.map aG,es.length=3:=by
 intro es h;obtain⟨t,_,rfl⟩:=abq.1 h;rw[f8];rfl
theorem t61 (l:List Ty) (j:l.length<=2 ^ 30):CallsT P 61 [.sl (l.map aG)] [] (aT [.row 32 3 (l.map aG)] (.rw 1000)):=by
 cases l with
 | nil =>
  refine af Try.func61 F4 rfl fun e _=>?_;intro b hb;refine aq (fun h=>?_) (fun h=>?_)
  ·exact UZ 5 32 3 rfl rfl
  ·refine xj.mk (fun es f=>by cases f) (show 0+0<=maxLen from aa9 _) (show(0+0)*40<=_ from aa9 _) ?_;exact bq [5] rfl rfl rfl rfl
 | cons x l =>
  have a:(x::l).map aG≠[]:=by simp
  have c:=sz3 (x::l);have d:((x::l).map aG).length<=2 ^ 30:=by rw[v5];exact j
  generalize(x::l).map aG=els at a c d ⊢;refine af Try.func61 F4 rfl fun e _=>?_;intro b hb;refine aq (fun h=>o5 (hb a) (fun q=>by rw[show b=true from h] at q;cases q)) (fun h=>?_);refine xj.mk c ?_ ?_ ?_
  ·show 0+els.length<=maxLen;simp only[maxLen];omega
  ·show(0+els.length)*40<=_;omega
  ·exact bq [5] rfl rfl rfl rfl
theorem Az {k:IntKind}{n m:Int}{K:Int->Prop}(h:k.wrap n=m) (a:K m):Fit k n K:=⟨by rw[h];exact a⟩
theorem PJ {i:Int}{o:OM}{Y:C->Prop}{N:Prop}(h:bM o i=none\/bM o i=some false) (k1:Y (.bool false)) (a:N):xk false (iU C.bool o) (IC i) Y N:=by
 rcases h with h | h
 ·exact yw h a
 ·exact yu h k1
def PD (r:Option (Int×DM×OM)):Value->Prop:=fun v=>r=none/\v=cB 1
theorem oL {f:Ty->DM->OM->Option (Option (Int×DM×OM))}{x:Ty}{l:List Ty}{k:Int}{d:DM}{o:OM}{r:Option (Int×DM×OM)}(h:dX f (x::l) k d o=some r) :
  ∃a,f x d o=some a/\(a=none->r=none)/\∀b c o',a=some (b,c,o')->dX f l (if b>k then b else k) c o'=some r:=by
 rw[dX] at h;cases e:f x d o with
 | none=>simp only[e] at h;cases h
 | some a =>
  refine⟨a,rfl,?_,?_⟩
  ·rintro rfl;simp only[e] at h;injection h with h;exact h.symm
  ·rintro b c o' rfl;simp only[e] at h;exact h
theorem AA {s:List Ty}{n:Nat}{t:Ty}{d:DM}{o:OM}{r:Option (Int×DM×OM)}(h:bw s (n+1) t d o=some r) :
  ∃x,(if t.kind=9 then bQ s t else some (.mk 0 0 []))=some x /\
   (¬x.kind=0->(∃k,bM d t.id=some k/\r=some (k,d,o))\/(bM d t.id=none/\bM o t.id=some true/\r=none) \/
    (bM d t.id=none/\(bM o t.id=none\/bM o t.id=some false)/\∃a,bw s n x d (eD o t.id true)=some a/\(a=none->r=none)/\∀k c o',a=some (k,c,o')->r=some (k,eD c t.id k,o'))) /\
   (x.kind=0->∃a,dX (bw s n) t.args 0 d o=some a/\(a=none->r=none)/\∀k c o',a=some (k,c,o')->r=some (yZ (k+1),c,o')):=by
 rw[bw] at h;split at h
 ·cases h
 rename_i x p;refine⟨x,p,fun m=>?_,fun m=>?_⟩
 ·rw[fo m] at h;split at h
  ·rename_i k f;injection h with h
   exact .inl ⟨k,f,h.symm⟩
  ·rename_i f;split at h
   ·rename_i l;injection h with h
    exact .inr (.inl ⟨f,l,h.symm⟩)
   ·rename_i l;have j:bM o t.id=none\/bM o t.id=some false:=by
     cases e:bM o t.id with
     | none=>exact .inl rfl
     | some b=>cases b with
      | true=>exact o5 e l
      | false=>exact .inr rfl
    refine .inr (.inr ⟨f,j,?_⟩);cases h1:bw s n x d (eD o t.id true) with
    | none=>simp only[h1] at h;cases h
    | some a =>
     refine⟨a,rfl,?_,?_⟩
     ·rintro rfl;simp only[h1] at h;injection h with h;exact h.symm
     ·rintro k c o' rfl;simp only[h1] at h;injection h with h;exact h.symm
 ·rw[fL (fun q=>q m)] at h;cases h1:dX (bw s n) t.args 0 d o with
  | none=>simp only[h1] at h;cases h
  | some a =>
   refine⟨a,rfl,?_,?_⟩
   ·rintro rfl;simp only[h1] at h;injection h with h;exact h.symm
   ·rintro k c o' rfl;simp only[h1] at h;injection h with h;exact h.symm
abbrev Iy (s:List Ty) (d:DM) (o:OM):List TO:=SU s (iU IC d) (iU C.bool o)
def KP (s:List Ty) (r:Option (Int×DM×OM)):List TO->C->Prop:=fun Mo v=>∃k d o,r=some (k,d,o)/\Mo=Iy s d o/\v=IC k
abbrev Oh (s:List Ty) (t:Ty) (d:DM) (o:OM) (R:List TO->C->Prop) (Pp:Value->Prop):Prop:=CallsTX P 64 [.own 1000 0,aR t] (Iy s d o) R Pp
section
variable {L:TL}{ρ:aK}
theorem Cd (ks:List Nat) {PS:nD}{args a:List C}{K:TL->aK->C->Prop}{s:List Ty}{d:DM}{o:OM}{r:Option (Int×DM×OM)}{Lin:List TO}(h:CallsTX P 64 a (Iy s d o) (KP s r) (PD r)) (q:L.sub ks=some Lin)
  (f:(T.aP ks&&T.jt L ks ks&&aI Lin ks ks&&ju L ks PS.hb)=true) (l:(args.map fun c=>c.aaj.ren (bh ks 1000))=a) (w:Lin.map (TO.aad (C.ren (bh ks 1000)))=Iy s d o) (m:ks.length=4) (t:∀v,PD r v->PS.ps v)
  (k:∀b e o',r=some (b,e,o')->Wf (IC b)->K (((L.aae ks).kills (rowsOf L ks)).puts ks ((Iy s e o').map (TO.aad (C.ren (aH ks))))) (dh (rowsOf L ks) ρ) (IC b)):kR P PS 64 args L ρ K:=by
 subst l;simp only[xo] at f;obtain⟨⟨⟨j,u⟩,c3⟩,c4⟩:=f;refine⟨[],ks,ks,L,Lin,_,_,.inl rfl,q,j,j,u,c3,c4,by rw[w];exact h,t,?_⟩;rintro v Mo ⟨b,e,o',x,rfl,rfl⟩ n p;exact⟨m,k b e o' x n⟩
theorem Oi (ks:List Nat) {PS:nD}{j:List Nat}{args a:List C}{K:TL->aK->C->Prop}{s:List Ty}{d:DM}{o:OM}{r:Option (Int×DM×OM)}{Lin:List TO}(h:CallsTX P 64 a (Iy s d o) (KP s r) (PD r)) (q:L.sub ks=some Lin)
  (f:(T.aP ks&&pW ks j&&aI Lin ks ks&&ju L ks PS.hb)=true) (l:(args.map fun c=>c.aaj.ren (bh ks 1000))=a) (w:Lin.map (TO.aad (C.ren (bh ks 1000)))=Iy s d o) (m:ks.length=4) (t:∀v,PD r v->PS.ps v)
  (k:∀b e o',r=some (b,e,o')->Wf (IC b)->K (((L.aae ks).kills (rowsOf L ks)).puts ks ((Iy s e o').map (TO.aad (C.ren (aH ks))))) (dh (rowsOf L ks) ρ) (IC b)):oC P PS j 64 args L ρ K:=by
 subst l;simp only[xo] at f;obtain⟨⟨⟨x,u⟩,c3⟩,c4⟩:=f;refine⟨ks,Lin,_,_,q,x,u,c3,c4,by rw[w];exact h,t,?_⟩;rintro v Mo ⟨b,e,o',y,rfl,rfl⟩ n p;exact⟨m,k b e o' y n⟩
end
theorem H6 (s:List Ty) (t x:Ty) (d:DM) (o:OM) (k:Int) (e:t.kind=9) (h0:0<=t.id) (a:s[t.id.toNat]?=some x) (c:¬x.kind=0) (b:bM d t.id=some k):Oh s t d o (KP s (some (k,d,o))) (PD (some (k,d,o))):=by
 refine aU Try.func64 mK rfl fun f _=>?_;refine ah (fun _=>?_) (fun q=>o5 e q);refine Bc.mk h0 (Cc h0 a) ?_;refine KG a ?_;refine aS (fun _=>?_) (fun q=>o5 q c);refine yu b ?_;exact pu [1000,1001,1002,1003] rfl rfl rfl rfl ⟨k,d,o,rfl,rfl,rfl⟩
theorem H7 (s:List Ty) (t x:Ty) (d:DM) (o:OM) (f:t.kind=9) (h0:0<=t.id) (a:s[t.id.toNat]?=some x) (e:¬x.kind=0) (c:bM d t.id=none) (b:bM o t.id=some true):Oh s t d o (KP s none) (PD none):=by
 refine aU Try.func64 mK rfl fun h _=>?_;refine ah (fun _=>?_) (fun q=>o5 f q);refine Bc.mk h0 (Cc h0 a) ?_;refine KG a ?_;refine aS (fun _=>?_) (fun q=>o5 q e);refine yw c ?_;refine yu b ?_;exact o7 rfl ⟨rfl,rfl⟩
theorem KQ (s:List Ty) (t x:Ty) (d:DM) (o:OM) (m:t.kind=9) (h0:0<=t.id) (c:s[t.id.toNat]?=some x) (u:¬x.kind=0) (l:bM d t.id=none) (p:bM o t.id=none\/bM o t.id=some false)
  (r b:Option (Int×DM×OM)) (h:Oh s x d (eD o t.id true) (KP s b) (PD b)) (j:b=none->r=none) (n:∀k a o',b=some (k,a,o')->r=some (k,eD a t.id k,o')):Oh s t d o (KP s r) (PD r):=by
 refine aU Try.func64 mK rfl fun w _=>?_;refine ah (fun _=>?_) (fun q=>o5 m q);refine Bc.mk h0 (Cc h0 c) ?_;refine KG c ?_;refine aS (fun _=>?_) (fun q=>o5 q u);refine yw l ?_;refine PJ p ?_ ?_
 all_goals
  refine HY (f:=C.bool) (x:=true) rfl ?_;refine Bc.mk h0 (Cc h0 c) ?_;refine Oe c ?_;refine Oi [1000,1001,1002,1003] h rfl rfl rfl rfl rfl (fun v q=>⟨j q.1,q.2⟩) fun k a o' e _=>?_;refine HY (f:=IC) (x:=k) rfl ?_;exact pu [1000,1001,1002,1003] rfl rfl rfl rfl ⟨k,_,_,n k a o' e,rfl,rfl⟩
theorem H8 (s:List Ty) (t:Ty) (d:DM) (o:OM) (h9:t.kind=9->∃x,0<=t.id/\s[t.id.toNat]?=some x/\x.kind=0)
  (f:Ty->DM->OM->Option (Option (Int×DM×OM))) (ih:∀x d o r,f x d o=some r->Oh s x d o (KP s r) (PD r)) (r:Option (Int×DM×OM)) (r1:Option (Int×DM×OM)) (h:dX f t.args 0 d o=some r1) (ac:r1=none->r=none) (hr:∀k u o',r1=some (k,u,o')->r=some (yZ (k+1),u,o')):Oh s t d o (KP s r) (PD r):=by
 have n:(t.args.map aG).length=t.args.length:=v5 _;refine aU Try.func64 mK rfl fun hw _=>?_;have aw:t.args.length<=9223372036854775807:=fN hw.2.1.2.2.1;refine ah (fun ae=>vP (h9 ae) fun x hh=>?_) (fun _=>?_)
 ·have h0:=hh.1;have hx:=hh.2.1;have hk:=hh.2.2;refine Bc.mk h0 (Cc h0 hx) ?_;refine KG hx ?_;refine aS (fun q=>o5 hk q) (fun _=>?_);refine cA t.args.length 74 [8] ((0:Int),d,o) (fun x=>[IC x.1]) (fun x=>[(1000,.box 93 [.rw 1001,.mpr 1002,.mpr 1003]),(1001,.row 32 3 (s.map aG)),(1002,.map (iU IC x.2.1)),(1003,.map (iU C.bool x.2.2))]) (fun k x=>dX f (t.args.drop k) x.1 x.2.1 x.2.2=some r1) h (ak rfl) ⟨ak rfl,trivial⟩
   ⟨.inl ⟨_,rfl,.inl ⟨rfl,rfl⟩⟩,.inl ⟨_,rfl,.inl ⟨rfl,rfl⟩⟩,.inl ⟨_,rfl,.inl ⟨rfl,rfl⟩⟩,.inl ⟨_,rfl,.inl ⟨rfl,rfl⟩⟩,trivial⟩ (fun _=>rfl) (fun _=>rfl) ?_
  rintro k ⟨m,d,o⟩ am c w _ _;refine ah (fun j=>?_) (fun l=>?_)
  ·have j:k<t.args.length:=by rw[n] at j;omega
   refine aW j fun x aa al ab=>?_;have c:=c;rw[ab] at c;refine vP (oL c) fun r2 y=>?_;refine cH aa ?_;refine Cd [1000,1001,1002,1003] (ih x d o r2 y.1) rfl rfl rfl rfl rfl (fun v q=>⟨ac (y.2.1 q.1▸rfl),q.2⟩) fun p u o' e z=>?_;refine⟨?_,?_⟩
   ·exact E4 (a:=m) (b:=p) w.1 z
   refine Fit.aag (by omega) (by omega) ?_;exact⟨(k+1,((if p>m then p else m),u,o')),⟨j,y.2.2 p u o' e⟩,⟨bU,.inr (.inl ⟨rfl,rfl⟩),trivial⟩,⟨.inl ⟨_,rfl,.inl ⟨rfl,rfl⟩⟩,.inl ⟨_,rfl,.inl ⟨rfl,rfl⟩⟩,.inl ⟨_,rfl,.inl ⟨rfl,rfl⟩⟩,.inl ⟨_,rfl,.inl ⟨rfl,rfl⟩⟩,trivial⟩,bX j⟩
  ·have l:¬k<t.args.length:=by rw[n] at l;omega
   have c:=c;rw[bS l,dX] at c;refine Az (m:=yZ (m+1)) rfl ?_;exact pu [1000,1001,1002,1003] rfl rfl rfl rfl ⟨yZ (m+1),d,o,hr m d o (abr c).symm,rfl,rfl⟩
 ·skip
  refine cA t.args.length 74 [8] ((0:Int),d,o) (fun x=>[IC x.1]) (fun x=>[(1000,.box 93 [.rw 1001,.mpr 1002,.mpr 1003]),(1001,.row 32 3 (s.map aG)),(1002,.map (iU IC x.2.1)),(1003,.map (iU C.bool x.2.2))]) (fun k x=>dX f (t.args.drop k) x.1 x.2.1 x.2.2=some r1) h (ak rfl) ⟨ak rfl,trivial⟩
   ⟨.inl ⟨_,rfl,.inl ⟨rfl,rfl⟩⟩,.inl ⟨_,rfl,.inl ⟨rfl,rfl⟩⟩,.inl ⟨_,rfl,.inl ⟨rfl,rfl⟩⟩,.inl ⟨_,rfl,.inl ⟨rfl,rfl⟩⟩,trivial⟩ (fun _=>rfl) (fun _=>rfl) ?_
  rintro k ⟨m,d,o⟩ am c w _ _;refine ah (fun j=>?_) (fun l=>?_)
  ·have j:k<t.args.length:=by rw[n] at j;omega
   refine aW j fun x aa al ab=>?_;have c:=c;rw[ab] at c;refine vP (oL c) fun r2 y=>?_;refine cH aa ?_;refine Cd [1000,1001,1002,1003] (ih x d o r2 y.1) rfl rfl rfl rfl rfl (fun v q=>⟨ac (y.2.1 q.1▸rfl),q.2⟩) fun p u o' e z=>?_;refine⟨?_,?_⟩
   ·exact E4 (a:=m) (b:=p) w.1 z
   refine Fit.aag (by omega) (by omega) ?_;exact⟨(k+1,((if p>m then p else m),u,o')),⟨j,y.2.2 p u o' e⟩,⟨bU,.inr (.inl ⟨rfl,rfl⟩),trivial⟩,⟨.inl ⟨_,rfl,.inl ⟨rfl,rfl⟩⟩,.inl ⟨_,rfl,.inl ⟨rfl,rfl⟩⟩,.inl ⟨_,rfl,.inl ⟨rfl,rfl⟩⟩,.inl ⟨_,rfl,.inl ⟨rfl,rfl⟩⟩,trivial⟩,bX j⟩
  ·have l:¬k<t.args.length:=by rw[n] at l;omega
   have c:=c;rw[bS l,dX] at c;refine Az (m:=yZ (m+1)) rfl ?_;exact pu [1000,1001,1002,1003] rfl rfl rfl rfl ⟨yZ (m+1),d,o,hr m d o (abr c).symm,rfl,rfl⟩
theorem Gp (s:List Ty):∀(n:Nat) (t:Ty) (d:DM) (o:OM) (r:Option (Int×DM×OM)),bw s n t d o=some r->Oh s t d o (KP s r) (PD r)
 | 0,t,d,o,r,h=>by cases h
 | n+1,t,d,o,r,h=>by
  obtain⟨x,b,h⟩:=AA h
  by_cases c:x.kind=0
  ·have h:=h.2 c;obtain⟨l,h1,m,p⟩:=h;refine H8 s t d o (fun a=>?_) (bw s n) (fun x d o r q=>Gp s n x d o r q) r l h1 m p;rw[fo a] at b;obtain⟨f,j,_⟩:=bG b;exact⟨x,f,j,c⟩
  ·have a:t.kind=9:=by
    by_cases a:t.kind=9
    ·exact a
    ·rw[fL a] at b;injection b with b
     rw[<-b] at c;exact o5 rfl c
   rw[fo a] at b;obtain⟨f,j,_⟩:=bG b;rcases h.1 c with⟨k,e,rfl⟩ | ⟨e,u,rfl⟩ | ⟨e,u,l,h1,m,p⟩
   ·exact H6 s t x d o k a f j c e
   ·exact H7 s t x d o a f j c e u
   ·exact KQ s t x d o a f j c e u r l (Gp s n x d _ l h1) m p
abbrev Iz (s:List Ty) (d:DM) (o:OM):List TO:=SF s (iU IC d) (iU C.bool o)
def LC (s:List Ty) (r:Option (Int×DM×OM)):List TO->C->Prop:=fun Mo v=>∃k d o,r=some (k,d,o)/\Mo=Iz s d o/\v=IC k
abbrev PK (s:List Ty) (t:Ty) (d:DM) (o:OM) (R:List TO->C->Prop) (Pp:Value->Prop):Prop:=CallsTX P 64 [.own 1000 0,aR t] (Iz s d o) R Pp
section
variable {L:TL}{ρ:aK}
theorem E5 (ks:List Nat) {PS:nD}{args a:List C}{K:TL->aK->C->Prop}{s:List Ty}{d:DM}{o:OM}{r:Option (Int×DM×OM)}{Lin:List TO}(h:CallsTX P 64 a (Iz s d o) (LC s r) (PD r)) (q:L.sub ks=some Lin)
  (f:(T.aP ks&&T.jt L ks ks&&aI Lin ks ks&&ju L ks PS.hb)=true) (l:(args.map fun c=>c.aaj.ren (bh ks 1000))=a) (w:Lin.map (TO.aad (C.ren (bh ks 1000)))=Iz s d o) (m:ks.length=3) (t:∀v,PD r v->PS.ps v)
  (k:∀b e o',r=some (b,e,o')->Wf (IC b)->K (((L.aae ks).kills (rowsOf L ks)).puts ks ((Iz s e o').map (TO.aad (C.ren (aH ks))))) (dh (rowsOf L ks) ρ) (IC b)):kR P PS 64 args L ρ K:=by
 subst l;simp only[xo] at f;obtain⟨⟨⟨j,u⟩,c3⟩,c4⟩:=f;refine⟨[],ks,ks,L,Lin,_,_,.inl rfl,q,j,j,u,c3,c4,by rw[w];exact h,t,?_⟩;rintro v Mo ⟨b,e,o',x,rfl,rfl⟩ n p;exact⟨m,k b e o' x n⟩
theorem Oj (ks:List Nat) {PS:nD}{j:List Nat}{args a:List C}{K:TL->aK->C->Prop}{s:List Ty}{d:DM}{o:OM}{r:Option (Int×DM×OM)}{Lin:List TO}(h:CallsTX P 64 a (Iz s d o) (LC s r) (PD r)) (q:L.sub ks=some Lin)
  (f:(T.aP ks&&pW ks j&&aI Lin ks ks&&ju L ks PS.hb)=true) (l:(args.map fun c=>c.aaj.ren (bh ks 1000))=a) (w:Lin.map (TO.aad (C.ren (bh ks 1000)))=Iz s d o) (m:ks.length=3) (t:∀v,PD r v->PS.ps v)
  (k:∀b e o',r=some (b,e,o')->Wf (IC b)->K (((L.aae ks).kills (rowsOf L ks)).puts ks ((Iz s e o').map (TO.aad (C.ren (aH ks))))) (dh (rowsOf L ks) ρ) (IC b)):oC P PS j 64 args L ρ K:=by
 subst l;simp only[xo] at f;obtain⟨⟨⟨x,u⟩,c3⟩,c4⟩:=f;refine⟨ks,Lin,_,_,q,x,u,c3,c4,by rw[w];exact h,t,?_⟩;rintro v Mo ⟨b,e,o',y,rfl,rfl⟩ n p;exact⟨m,k b e o' y n⟩
end
theorem H9 (s:List Ty) (t x:Ty) (d:DM) (o:OM) (k:Int) (e:t.kind=9) (h0:0<=t.id) (b:s[t.id.toNat]?=some x) (c:¬x.kind=0) (a:bM d t.id=some k):PK s t d o (LC s (some (k,d,o))) (PD (some (k,d,o))):=by
 refine aU Try.func64 mK rfl fun f _=>?_;refine ah (fun _=>?_) (fun q=>o5 e q);refine yx h0 b ?_;refine aS (fun _=>?_) (fun q=>o5 q c);refine yu a ?_;exact pu [1000,1001,1002] rfl rfl rfl rfl ⟨k,d,o,rfl,rfl,rfl⟩
theorem Ia (s:List Ty) (t x:Ty) (d:DM) (o:OM) (f:t.kind=9) (h0:0<=t.id) (c:s[t.id.toNat]?=some x) (e:¬x.kind=0) (b:bM d t.id=none) (a:bM o t.id=some true):PK s t d o (LC s none) (PD none):=by
 refine aU Try.func64 mK rfl fun h _=>?_;refine ah (fun _=>?_) (fun q=>o5 f q);refine yx h0 c ?_;refine aS (fun _=>?_) (fun q=>o5 q e);refine yw b ?_;refine yu a ?_;exact o7 rfl ⟨rfl,rfl⟩
theorem KR (s:List Ty) (t x:Ty) (d:DM) (o:OM) (m:t.kind=9) (h0:0<=t.id) (j:s[t.id.toNat]?=some x) (u:¬x.kind=0) (l:bM d t.id=none) (p:bM o t.id=none\/bM o t.id=some false)
  (r b:Option (Int×DM×OM)) (h:PK s x d (eD o t.id true) (LC s b) (PD b)) (c:b=none->r=none) (n:∀k a o',b=some (k,a,o')->r=some (k,eD a t.id k,o')):PK s t d o (LC s r) (PD r):=by
 refine aU Try.func64 mK rfl fun w _=>?_;refine ah (fun _=>?_) (fun q=>o5 m q);refine yx h0 j ?_;refine aS (fun _=>?_) (fun q=>o5 q u);refine yw l ?_;refine PJ p ?_ ?_
 all_goals
  refine HY (f:=C.bool) (x:=true) rfl ?_;refine yx h0 j ?_;refine Oj [1000,1001,1002] h rfl rfl rfl rfl rfl (fun v q=>⟨c q.1,q.2⟩) fun k a o' e _=>?_;refine HY (f:=IC) (x:=k) rfl ?_;exact pu [1000,1001,1002] rfl rfl rfl rfl ⟨k,_,_,n k a o' e,rfl,rfl⟩
theorem Ib (s:List Ty) (t:Ty) (d:DM) (o:OM) (h9:t.kind=9->∃x,0<=t.id/\s[t.id.toNat]?=some x/\x.kind=0)
  (f:Ty->DM->OM->Option (Option (Int×DM×OM))) (ih:∀x d o r,f x d o=some r->PK s x d o (LC s r) (PD r)) (r:Option (Int×DM×OM)) (r1:Option (Int×DM×OM)) (h:dX f t.args 0 d o=some r1) (ac:r1=none->r=none) (hr:∀k u o',r1=some (k,u,o')->r=some (yZ (k+1),u,o')):PK s t d o (LC s r) (PD r):=by
 have n:(t.args.map aG).length=t.args.length:=v5 _;refine aU Try.func64 mK rfl fun hw _=>?_;have av:t.args.length<=9223372036854775807:=fN hw.2.1.2.2.1;refine ah (fun ae=>vP (h9 ae) fun x hh=>?_) (fun _=>?_)
 ·have h0:=hh.1;have hx:=hh.2.1;have hk:=hh.2.2;refine yx h0 hx ?_;refine aS (fun q=>o5 hk q) (fun _=>?_);refine cA t.args.length 74 [8] ((0:Int),d,o) (fun x=>[IC x.1]) (fun x=>[(1000,.box 93 [.sl (s.map aG),.mpr 1001,.mpr 1002]),(1001,.map (iU IC x.2.1)),(1002,.map (iU C.bool x.2.2))]) (fun k x=>dX f (t.args.drop k) x.1 x.2.1 x.2.2=some r1) h (ak rfl) ⟨ak rfl,trivial⟩
   ⟨.inl ⟨_,rfl,.inl ⟨rfl,rfl⟩⟩,.inl ⟨_,rfl,.inl ⟨rfl,rfl⟩⟩,.inl ⟨_,rfl,.inl ⟨rfl,rfl⟩⟩,trivial⟩ (fun _=>rfl) (fun _=>rfl) ?_
  rintro k ⟨m,d,o⟩ am c w _ _;refine ah (fun j=>?_) (fun l=>?_)
  ·have j:k<t.args.length:=by rw[n] at j;omega
   refine aW j fun x aa al ab=>?_;have c:=c;rw[ab] at c;refine vP (oL c) fun r2 y=>?_;refine cH aa ?_;refine E5 [1000,1001,1002] (ih x d o r2 y.1) rfl rfl rfl rfl rfl (fun v q=>⟨ac (y.2.1 q.1▸rfl),q.2⟩) fun p u o' e z=>?_;refine⟨?_,?_⟩
   ·exact E4 (a:=m) (b:=p) w.1 z
   refine Fit.aag (by omega) (by omega) ?_;exact⟨(k+1,((if p>m then p else m),u,o')),⟨j,y.2.2 p u o' e⟩,⟨bU,.inr (.inl ⟨rfl,rfl⟩),trivial⟩,⟨.inl ⟨_,rfl,.inl ⟨rfl,rfl⟩⟩,.inl ⟨_,rfl,.inl ⟨rfl,rfl⟩⟩,.inl ⟨_,rfl,.inl ⟨rfl,rfl⟩⟩,trivial⟩,bX j⟩
  ·have l:¬k<t.args.length:=by rw[n] at l;omega
   have c:=c;rw[bS l,dX] at c;refine Az (m:=yZ (m+1)) rfl ?_;exact pu [1000,1001,1002] rfl rfl rfl rfl ⟨yZ (m+1),d,o,hr m d o (abr c).symm,rfl,rfl⟩
 ·skip
  refine cA t.args.length 74 [8] ((0:Int),d,o) (fun x=>[IC x.1]) (fun x=>[(1000,.box 93 [.sl (s.map aG),.mpr 1001,.mpr 1002]),(1001,.map (iU IC x.2.1)),(1002,.map (iU C.bool x.2.2))]) (fun k x=>dX f (t.args.drop k) x.1 x.2.1 x.2.2=some r1) h (ak rfl) ⟨ak rfl,trivial⟩
   ⟨.inl ⟨_,rfl,.inl ⟨rfl,rfl⟩⟩,.inl ⟨_,rfl,.inl ⟨rfl,rfl⟩⟩,.inl ⟨_,rfl,.inl ⟨rfl,rfl⟩⟩,trivial⟩ (fun _=>rfl) (fun _=>rfl) ?_
  rintro k ⟨m,d,o⟩ am c w _ _;refine ah (fun j=>?_) (fun l=>?_)
  ·have j:k<t.args.length:=by rw[n] at j;omega
   refine aW j fun x aa al ab=>?_;have c:=c;rw[ab] at c;refine vP (oL c) fun r2 y=>?_;refine cH aa ?_;refine E5 [1000,1001,1002] (ih x d o r2 y.1) rfl rfl rfl rfl rfl (fun v q=>⟨ac (y.2.1 q.1▸rfl),q.2⟩) fun p u o' e z=>?_;refine⟨?_,?_⟩
   ·exact E4 (a:=m) (b:=p) w.1 z
   refine Fit.aag (by omega) (by omega) ?_;exact⟨(k+1,((if p>m then p else m),u,o')),⟨j,y.2.2 p u o' e⟩,⟨bU,.inr (.inl ⟨rfl,rfl⟩),trivial⟩,⟨.inl ⟨_,rfl,.inl ⟨rfl,rfl⟩⟩,.inl ⟨_,rfl,.inl ⟨rfl,rfl⟩⟩,.inl ⟨_,rfl,.inl ⟨rfl,rfl⟩⟩,trivial⟩,bX j⟩
  ·have l:¬k<t.args.length:=by rw[n] at l;omega
   have c:=c;rw[bS l,dX] at c;refine Az (m:=yZ (m+1)) rfl ?_;exact pu [1000,1001,1002] rfl rfl rfl rfl ⟨yZ (m+1),d,o,hr m d o (abr c).symm,rfl,rfl⟩
theorem KS (s:List Ty):∀(n:Nat) (t:Ty) (d:DM) (o:OM) (r:Option (Int×DM×OM)),bw s n t d o=some r->PK s t d o (LC s r) (PD r)
 | 0,t,d,o,r,h=>by cases h
 | n+1,t,d,o,r,h=>by
  obtain⟨x,b,h⟩:=AA h
  by_cases c:x.kind=0
  ·have h:=h.2 c;obtain⟨l,h1,m,p⟩:=h;refine Ib s t d o (fun a=>?_) (bw s n) (fun x d o r q=>KS s n x d o r q) r l h1 m p;rw[fo a] at b;obtain⟨f,j,_⟩:=bG b;exact⟨x,f,j,c⟩
  ·have a:t.kind=9:=by
    by_cases a:t.kind=9
    ·exact a
    ·rw[fL a] at b;injection b with b
     rw[<-b] at c;exact o5 rfl c
   rw[fo a] at b;obtain⟨f,j,_⟩:=bG b;rcases h.1 c with⟨k,e,rfl⟩ | ⟨e,u,rfl⟩ | ⟨e,u,l,h1,m,p⟩
   ·exact H9 s t x d o k a f j c e
   ·exact Ia s t x d o a f j c e u
   ·exact KR s t x d o a f j c e u r l (KS s n x d _ l h1) m p
end Go.Fr.Try
