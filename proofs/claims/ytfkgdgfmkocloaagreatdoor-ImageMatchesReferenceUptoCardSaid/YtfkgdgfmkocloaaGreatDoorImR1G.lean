/- Part of the proofs of the statements of this seat. -/
import Derived.Test.YtfkgdgfmkocloaaGreatDoorImE1G
set_option maxRecDepth 10000
set_option linter.unusedVariables false
set_option linter.unusedSimpArgs false
namespace Go.Fr.Tryz
open Go Go.RowKit Go.Proofs Go.Fr Go.Fr.T Go.Fr.Api
theorem ndT {p:Prop} [Decidable p] (h:(!decide p) = true):¬ p:=by simpa using h
theorem ndF {p:Prop} [Decidable p] (h:(!decide p) = false):p:=by simpa using h
theorem ntT {p:Prop} (h:(!tru p) = true):¬ p:=tru_f (by simpa using h)
theorem ntF {p:Prop} (h:(!tru p) = false):p:=tru_t (by simpa using h)
theorem wf_mem {α:Type} {f:α → List C} {l:List α} (h:Wf (.sl (l.map f))) {x:α} (hx:x ∈ l):WfS (f x):=by
 simp only [Wf] at h
 exact WfSS_iff.1 h.2 _ (List.mem_map.2 ⟨x,hx,rfl⟩)
theorem lenM {α:Type} {f:α → List C} {l:List α}:(l.map f).length = l.length:=by simp
theorem lenI {l:List Int}:(ics l).length = l.length:=by simp [ics]
theorem lenMEq {α β:Type} {f:α → List C} {g:β → List C} {a:List α} {b:List β} (h:(!decide (((a.map f).length:Int) = ((b.map g).length:Int))) = false):a.length = b.length:=by
 have q:=ndF h
 rw [lenM,lenM] at q
 omega
theorem lenIEq {a b:List Int} (h:(!decide (((ics a).length:Int) = ((ics b).length:Int))) = false):a.length = b.length:=by
 have q:=ndF h
 rw [lenI,lenI] at q
 omega
theorem lenNe {a b:Nat} (h:¬ (a:Int) = b):¬ a = b:=fun e => h (by rw [e])
theorem t99n:∀ (n:Nat) (x y:Ty),SizeOf.sizeOf x < n → EqOk 99 [tyA x,tyA y] (x = y)
 | 0,x,y,h => absurd h (by omega)
 | n + 1,x,y,h => by
  have ih:∀ z ∈ x.args,∀ w,EqOk 99 [tyA z,tyA w] (z = w):=fun z hz w => t99n n z w (by have:=ty_lt hz; omega)
  refine callsT_facts Tryz.func99 facts99 rfl fun hw _ => ?_
  have hw1:Wf (.sl (x.args.map tyC)):=by have h:=hw.1; simp only [tyA,Wf,WfS] at h; exact h.2.2.1
  refine brn_split (fun h0 => ?_) (fun h0 => ?_)
  ·exact retP rfl (congrArg C.bool (tru_no fun e => (ndT h0) (by rw [e])))
  refine brn_split (fun h1 => ?_) (fun h1 => ?_)
  ·exact retP rfl (congrArg C.bool (tru_no fun e => (ndT h1) (by rw [e])))
  refine brn_split (fun h2 => ?_) (fun h2 => ?_)
  ·exact retP rfl (congrArg C.bool (tru_no fun e => (lenNe (by have q:=ndT h2; rwa [lenM,lenM] at q)) (by rw [e])))
  have h2:=lenMEq h2
  refine loopN x.args.length 5 [] () (fun _ => []) (fun _ => []) (fun k _ => ∀ j < k,x.args[j]? = y.args[j]?) (fun j hj => absurd hj (by omega)) (same_keys rfl) trivial trivial (fun _ => rfl) (fun _ => rfl) ?_
  rintro kA ⟨⟩ hkA invA _ _ _
  refine brn_p (fun ltA => ?_) (fun geA => ?_)
  ·have ltA:kA < x.args.length:=by rw [lenM] at ltA; omega
   have mxA:=wf_lenM hw1
   obtain ⟨xA,hxA⟩:=get_of ltA
   obtain ⟨yA,hyA⟩:=get_of (l:=y.args) (k:=kA) (by omega)
   refine idxTy hxA ?_
   refine idxTy hyA ?_
   refine callPD (ih xA (List.mem_of_getElem? hxA) yA) rfl fun _ => ?_
   refine brn_split (fun h3 => ?_) (fun h3 => ?_)
   ·exact retP rfl (congrArg C.bool (tru_no fun e => get_ne hxA hyA (ntT h3) (by rw [e])))
   refine Fit.in64 (by omega) (by omega) ?_
   exact ⟨(kA + 1,()),⟨ltA,get_step invA hxA hyA (ntF h3)⟩,⟨nextI,trivial⟩,trivial,nextM ltA⟩
  ·have geA:¬ kA < x.args.length:=by rw [lenM] at geA; omega
   have eA:x.args = y.args:=lists_eq (n:=kA) (by omega) (by omega) invA
   exact retP rfl (congrArg C.bool (tru_yes (ty_eq (ndF h0) (ndF h1) eA)))
theorem t99 (x y:Ty):EqOk 99 [tyA x,tyA y] (x = y):=t99n _ x y (Nat.lt_succ_self _)
theorem t98 (a b:List Ty):EqOk 98 [.sl (a.map tyC),.sl (b.map tyC)] (a = b):=by
 refine callsT_facts Tryz.func98 facts98 rfl fun hw _ => ?_
 refine brn_split (fun h0 => ?_) (fun h0 => ?_)
 ·exact retP rfl (congrArg C.bool (tru_no fun e => (lenNe (by have q:=ndT h0; rwa [lenM,lenM] at q)) (by rw [e])))
 have h0:=lenMEq h0
 refine loopN a.length 5 [] () (fun _ => []) (fun _ => []) (fun k _ => ∀ j < k,a[j]? = b[j]?) (fun j hj => absurd hj (by omega)) (same_keys rfl) trivial trivial (fun _ => rfl) (fun _ => rfl) ?_
 rintro kA ⟨⟩ hkA invA _ _ _
 refine brn_p (fun ltA => ?_) (fun geA => ?_)
 ·have ltA:kA < a.length:=by rw [lenM] at ltA; omega
  have mxA:=wf_lenM hw.1
  obtain ⟨xA,hxA⟩:=get_of ltA
  obtain ⟨yA,hyA⟩:=get_of (l:=b) (k:=kA) (by omega)
  refine idxTy hxA ?_
  refine idxTy hyA ?_
  refine callPD (t99 xA yA) rfl fun _ => ?_
  refine brn_split (fun h3 => ?_) (fun h3 => ?_)
  ·exact retP rfl (congrArg C.bool (tru_no fun e => get_ne hxA hyA (ntT h3) (by rw [e])))
  refine Fit.in64 (by omega) (by omega) ?_
  exact ⟨(kA + 1,()),⟨ltA,get_step invA hxA hyA (ntF h3)⟩,⟨nextI,trivial⟩,trivial,nextM ltA⟩
 ·have geA:¬ kA < a.length:=by rw [lenM] at geA; omega
  have eA:a = b:=lists_eq (n:=kA) (by omega) (by omega) invA
  exact retP rfl (congrArg C.bool (tru_yes eA))
theorem t100 (a b:List Int):EqOk 100 [.sl (ics a),.sl (ics b)] (a = b):=by
 refine callsT_facts Tryz.func100 facts100 rfl fun hw _ => ?_
 refine brn_split (fun h0 => ?_) (fun h0 => ?_)
 ·exact retP rfl (congrArg C.bool (tru_no fun e => (lenNe (by have q:=ndT h0; rwa [lenI,lenI] at q)) (by rw [e])))
 have h0:=lenIEq h0
 refine loopN a.length 5 [] () (fun _ => []) (fun _ => []) (fun k _ => ∀ j < k,a[j]? = b[j]?) (fun j hj => absurd hj (by omega)) (same_keys rfl) trivial trivial (fun _ => rfl) (fun _ => rfl) ?_
 rintro kA ⟨⟩ hkA invA _ _ _
 refine brn_p (fun ltA => ?_) (fun geA => ?_)
 ·have ltA:kA < a.length:=by rw [lenI] at ltA; omega
  have mxA:=(wf_lenM hw.1:a.length ≤ _)
  obtain ⟨xA,hxA⟩:=get_of ltA
  obtain ⟨yA,hyA⟩:=get_of (l:=b) (k:=kA) (by omega)
  refine idxI hxA ?_
  refine idxI hyA ?_
  refine brn_split (fun h3 => ?_) (fun h3 => ?_)
  ·exact retP rfl (congrArg C.bool (tru_no fun e => get_ne hxA hyA (ndT h3) (by rw [e])))
  refine Fit.in64 (by omega) (by omega) ?_
  exact ⟨(kA + 1,()),⟨ltA,get_step invA hxA hyA (ndF h3)⟩,⟨nextI,trivial⟩,trivial,nextM ltA⟩
 ·have geA:¬ kA < a.length:=by rw [lenI] at geA; omega
  have eA:a = b:=lists_eq (n:=kA) (by omega) (by omega) invA
  exact retP rfl (congrArg C.bool (tru_yes eA))
theorem t50 (x y:Api.Data):EqOk 50 [.agg (dataC x),.agg (dataC y)] (x = y):=by
 refine callsT_facts Tryz.func50 facts50 rfl fun hw _ => ?_
 have hw1:Wf (.sl (x.variants.map variantC)):=by have h:=hw.1; simp only [dataC,Wf,WfS] at h; simp only [Wf]; exact h.2.2.2.1
 refine brn_split (fun h0 => ?_) (fun h0 => ?_)
 ·exact retP rfl (congrArg C.bool (tru_no fun e => (ndT h0) (by rw [e])))
 refine brn_split (fun h1 => ?_) (fun h1 => ?_)
 ·exact retP rfl (congrArg C.bool (tru_no fun e => (ndT h1) (by rw [e])))
 refine brn_split (fun h2 => ?_) (fun h2 => ?_)
 ·exact retP rfl (congrArg C.bool (tru_no fun e => (ndT h2) (by rw [e])))
 refine brn_split (fun h3 => ?_) (fun h3 => ?_)
 ·exact retP rfl (congrArg C.bool (tru_no fun e => (ndT h3) (by rw [e])))
 refine brn_split (fun h4 => ?_) (fun h4 => ?_)
 ·exact retP rfl (congrArg C.bool (tru_no fun e => (lenNe (by have q:=ndT h4; rwa [lenM,lenM] at q)) (by rw [e])))
 have h4:=lenMEq h4
 refine loopN x.variants.length 5 [] () (fun _ => []) (fun _ => []) (fun k _ => ∀ j < k,x.variants[j]? = y.variants[j]?) (fun j hj => absurd hj (by omega)) (same_keys rfl) trivial trivial (fun _ => rfl) (fun _ => rfl) ?_
 rintro kA ⟨⟩ hkA invA _ _ _
 refine brn_p (fun ltA => ?_) (fun geA => ?_)
 ·have ltA:kA < x.variants.length:=by rw [lenM] at ltA; omega
  have mxA:=wf_lenM hw1
  obtain ⟨xA,hxA⟩:=get_of ltA
  obtain ⟨yA,hyA⟩:=get_of (l:=y.variants) (k:=kA) (by omega)
  refine idxT hxA rfl rfl ?_
  refine idxT hyA rfl rfl ?_
  refine brn_split (fun h5 => ?_) (fun h5 => ?_)
  ·exact retP rfl (congrArg C.bool (tru_no fun e => get_ne hxA hyA (fun e2 => (ndT h5) (by rw [e2])) (by rw [e])))
  refine idxT hxA rfl rfl ?_
  refine idxT hyA rfl rfl ?_
  refine callPD (t98 xA.fields yA.fields) rfl fun _ => ?_
  refine brn_split (fun h6 => ?_) (fun h6 => ?_)
  ·exact retP rfl (congrArg C.bool (tru_no fun e => get_ne hxA hyA (fun e2 => (ntT h6) (by rw [e2])) (by rw [e])))
  refine Fit.in64 (by omega) (by omega) ?_
  exact ⟨(kA + 1,()),⟨ltA,get_step invA hxA hyA (var_eq (str_ext (ndF h5)) (ntF h6))⟩,⟨nextI,trivial⟩,trivial,nextM ltA⟩
 ·have geA:¬ kA < x.variants.length:=by rw [lenM] at geA; omega
  have eA:x.variants = y.variants:=lists_eq (n:=kA) (by omega) (by omega) invA
  exact retP rfl (congrArg C.bool (tru_yes (data_eq (str_ext (ndF h0)) (ndF h1) (ndF h2) (ndF h3) eA)))
theorem t139 (x y:Ins):EqOk 139 [.agg (insC x),.agg (insC y)] (x = y):=by
 refine callsT_facts Tryz.func139 facts139 rfl fun hw _ => ?_
 refine brn_p (fun h0 => ?_) (fun h0 => retP rfl (congrArg C.bool (tru_no fun e => h0 (by rw [e]))))
 refine brn_p (fun h1 => ?_) (fun h1 => retP rfl (congrArg C.bool (tru_no fun e => h1 (by rw [e]))))
 refine brn_p (fun h2 => ?_) (fun h2 => retP rfl (congrArg C.bool (tru_no fun e => h2 (by rw [e]))))
 refine brn_p (fun h3 => ?_) (fun h3 => retP rfl (congrArg C.bool (tru_no fun e => h3 (by rw [e]))))
 refine brn_p (fun h4 => ?_) (fun h4 => retP rfl (congrArg C.bool (tru_no fun e => h4 (by rw [e]))))
 refine callP (t100 x.args y.args) rfl fun _ => ?_
 refine brn_split (fun h5 => ?_) (fun h5 => retP rfl (congrArg C.bool (tru_no fun e => tru_f h5 (by rw [e]))))
 refine callP (t98 x.types y.types) rfl fun _ => ?_
 exact retP rfl (congrArg C.bool (tru_congr ⟨fun h => ins_eq h0 h1 h2 h3 h4 (tru_t h5) h,fun e => by rw [e]⟩))
theorem t101 (a b:List Block):EqOk 101 [.sl (a.map blockC),.sl (b.map blockC)] (a = b):=by
 refine callsT_facts Tryz.func101 facts101 rfl fun hw _ => ?_
 refine brn_split (fun h0 => ?_) (fun h0 => ?_)
 ·exact retP rfl (congrArg C.bool (tru_no fun e => (lenNe (by have q:=ndT h0; rwa [lenM,lenM] at q)) (by rw [e])))
 have h0:=lenMEq h0
 refine loopN a.length 5 [] () (fun _ => []) (fun _ => []) (fun k _ => ∀ j < k,a[j]? = b[j]?) (fun j hj => absurd hj (by omega)) (same_keys rfl) trivial trivial (fun _ => rfl) (fun _ => rfl) ?_
 rintro kA ⟨⟩ hkA invA _ _ _
 refine brn_p (fun ltA => ?_) (fun geA => ?_)
 ·have ltA:kA < a.length:=by rw [lenM] at ltA; omega
  have mxA:=wf_lenM hw.1
  obtain ⟨xA,hxA⟩:=get_of ltA
  obtain ⟨yA,hyA⟩:=get_of (l:=b) (k:=kA) (by omega)
  have hwA:Wf (.sl (xA.code.map insC)):=(wf_mem hw.1 (List.mem_of_getElem? hxA)).1
  refine idxT hxA rfl rfl ?_
  refine idxT hyA rfl rfl ?_
  refine brn_split (fun h1 => ?_) (fun h1 => ?_)
  ·exact retP rfl (congrArg C.bool (tru_no fun e => get_ne hxA hyA (fun e2 => (lenNe (by have q:=ndT h1; rwa [lenM,lenM] at q)) (by rw [e2])) (by rw [e])))
  have h1:=lenMEq h1
  refine idxT hxA rfl rfl ?_
  refine idxT hyA rfl rfl ?_
  refine brn_split (fun h2 => ?_) (fun h2 => ?_)
  ·exact retP rfl (congrArg C.bool (tru_no fun e => get_ne hxA hyA (fun e2 => (ndT h2) (by rw [e2])) (by rw [e])))
  refine idxT hxA rfl rfl ?_
  refine idxT hyA rfl rfl ?_
  refine brn_split (fun h3 => ?_) (fun h3 => ?_)
  ·exact retP rfl (congrArg C.bool (tru_no fun e => get_ne hxA hyA (fun e2 => (ndT h3) (by rw [e2])) (by rw [e])))
  refine idxT hxA rfl rfl ?_
  refine idxT hyA rfl rfl ?_
  refine callPD (t100 xA.fin.targets yA.fin.targets) rfl fun _ => ?_
  refine brn_split (fun h4 => ?_) (fun h4 => ?_)
  ·exact retP rfl (congrArg C.bool (tru_no fun e => get_ne hxA hyA (fun e2 => (ntT h4) (by rw [e2])) (by rw [e])))
  refine loopN xA.code.length 6 [] () (fun _ => []) (fun _ => []) (fun k _ => ∀ j < k,xA.code[j]? = yA.code[j]?) (fun j hj => absurd hj (by omega)) (same_keys rfl) trivial trivial (fun _ => rfl) (fun _ => rfl) ?_
  rintro kB ⟨⟩ hkB invB _ _ _
  refine idxT hxA rfl rfl ?_
  refine brn_p (fun ltB => ?_) (fun geB => ?_)
  ·have ltB:kB < xA.code.length:=by rw [lenM] at ltB; omega
   have mxB:=wf_lenM hwA
   obtain ⟨xB,hxB⟩:=get_of ltB
   obtain ⟨yB,hyB⟩:=get_of (l:=yA.code) (k:=kB) (by omega)
   refine idxT hxA rfl rfl ?_
   refine idxT hxB rfl rfl ?_
   refine idxT hyA rfl rfl ?_
   refine idxT hyB rfl rfl ?_
   refine callPD (t139 xB yB) rfl fun _ => ?_
   refine brn_split (fun h5 => ?_) (fun h5 => ?_)
   ·exact retP rfl (congrArg C.bool (tru_no fun e => get_ne hxA hyA (fun e2 => get_ne hxB hyB (ntT h5) (by rw [e2])) (by rw [e])))
   refine Fit.in64 (by omega) (by omega) ?_
   exact ⟨(kB + 1,()),⟨ltB,get_step invB hxB hyB (ntF h5)⟩,⟨nextI,trivial⟩,trivial,nextM ltB⟩
  ·have geB:¬ kB < xA.code.length:=by rw [lenM] at geB; omega
   have eB:xA.code = yA.code:=lists_eq (n:=kB) (by omega) (by omega) invB
   refine Fit.in64 (by omega) (by omega) ?_
   exact ⟨(kA + 1,()),⟨ltA,get_step invA hxA hyA (block_eq eB (ndF h2) (ndF h3) (ntF h4))⟩,⟨nextI,trivial⟩,trivial,nextM ltA⟩
 ·have geA:¬ kA < a.length:=by rw [lenM] at geA; omega
  have eA:a = b:=lists_eq (n:=kA) (by omega) (by omega) invA
  exact retP rfl (congrArg C.bool (tru_yes eA))
theorem t102 (a b:List Slot):EqOk 102 [.sl (a.map slotC),.sl (b.map slotC)] (a = b):=by
 refine callsT_facts Tryz.func102 facts102 rfl fun hw _ => ?_
 refine brn_split (fun h0 => ?_) (fun h0 => ?_)
 ·exact retP rfl (congrArg C.bool (tru_no fun e => (lenNe (by have q:=ndT h0; rwa [lenM,lenM] at q)) (by rw [e])))
 have h0:=lenMEq h0
 refine loopN a.length 5 [] () (fun _ => []) (fun _ => []) (fun k _ => ∀ j < k,a[j]? = b[j]?) (fun j hj => absurd hj (by omega)) (same_keys rfl) trivial trivial (fun _ => rfl) (fun _ => rfl) ?_
 rintro kA ⟨⟩ hkA invA _ _ _
 refine brn_p (fun ltA => ?_) (fun geA => ?_)
 ·have ltA:kA < a.length:=by rw [lenM] at ltA; omega
  have mxA:=wf_lenM hw.1
  obtain ⟨xA,hxA⟩:=get_of ltA
  obtain ⟨yA,hyA⟩:=get_of (l:=b) (k:=kA) (by omega)
  have hwA:Wf (.sl (xA.lent.map lentC)):=(wf_mem hw.1 (List.mem_of_getElem? hxA)).2.2.2.2.2.2.1
  refine idxT hxA rfl rfl ?_
  refine idxT hyA rfl rfl ?_
  refine brn_split (fun h1 => ?_) (fun h1 => ?_)
  ·exact retP rfl (congrArg C.bool (tru_no fun e => get_ne hxA hyA (fun e2 => (ndT h1) (by rw [e2])) (by rw [e])))
  refine idxT hxA rfl rfl ?_
  refine idxT hyA rfl rfl ?_
  refine callPD (t99 xA.type yA.type) rfl fun _ => ?_
  refine brn_split (fun h2 => ?_) (fun h2 => ?_)
  ·exact retP rfl (congrArg C.bool (tru_no fun e => get_ne hxA hyA (fun e2 => (ntT h2) (by rw [e2])) (by rw [e])))
  refine idxT hxA rfl rfl ?_
  refine idxT hyA rfl rfl ?_
  refine brn_split (fun h3 => ?_) (fun h3 => ?_)
  ·exact retP rfl (congrArg C.bool (tru_no fun e => get_ne hxA hyA (fun e2 => (ndT h3) (by rw [e2])) (by rw [e])))
  refine idxT hxA rfl rfl ?_
  refine idxT hyA rfl rfl ?_
  refine brn_split (fun h4 => ?_) (fun h4 => ?_)
  ·exact retP rfl (congrArg C.bool (tru_no fun e => get_ne hxA hyA (fun e2 => (ndT h4) (by rw [e2])) (by rw [e])))
  refine idxT hxA rfl rfl ?_
  refine idxT hyA rfl rfl ?_
  refine brn_split (fun h5 => ?_) (fun h5 => ?_)
  ·exact retP rfl (congrArg C.bool (tru_no fun e => get_ne hxA hyA (fun e2 => (lenNe (by have q:=ndT h5; rwa [lenM,lenM] at q)) (by rw [e2])) (by rw [e])))
  have h5:=lenMEq h5
  refine loopN xA.lent.length 6 [] () (fun _ => []) (fun _ => []) (fun k _ => ∀ j < k,xA.lent[j]? = yA.lent[j]?) (fun j hj => absurd hj (by omega)) (same_keys rfl) trivial trivial (fun _ => rfl) (fun _ => rfl) ?_
  rintro kB ⟨⟩ hkB invB _ _ _
  refine idxT hxA rfl rfl ?_
  refine brn_p (fun ltB => ?_) (fun geB => ?_)
  ·have ltB:kB < xA.lent.length:=by rw [lenM] at ltB; omega
   have mxB:=wf_lenM hwA
   obtain ⟨xB,hxB⟩:=get_of ltB
   obtain ⟨yB,hyB⟩:=get_of (l:=yA.lent) (k:=kB) (by omega)
   refine idxT hxA rfl rfl ?_
   refine idxT hxB rfl rfl ?_
   refine idxT hyA rfl rfl ?_
   refine idxT hyB rfl rfl ?_
   refine brn_split (fun h6 => ?_) (fun h6 => ?_)
   ·exact retP rfl (congrArg C.bool (tru_no fun e => get_ne hxA hyA (fun e2 => get_ne hxB hyB ((fun e => by subst e; simp [ngb] at h6)) (by rw [e2])) (by rw [e])))
   refine Fit.in64 (by omega) (by omega) ?_
   exact ⟨(kB + 1,()),⟨ltB,get_step invB hxB hyB (by rcases xB with ⟨⟩; rcases yB with ⟨⟩; simp [ngb] at h6; simp [h6])⟩,⟨nextI,trivial⟩,trivial,nextM ltB⟩
  ·have geB:¬ kB < xA.lent.length:=by rw [lenM] at geB; omega
   have eB:xA.lent = yA.lent:=lists_eq (n:=kB) (by omega) (by omega) invB
   refine Fit.in64 (by omega) (by omega) ?_
   exact ⟨(kA + 1,()),⟨ltA,get_step invA hxA hyA (slot_eq (ndF h1) (ntF h2) (ndF h3) (ndF h4) eB)⟩,⟨nextI,trivial⟩,trivial,nextM ltA⟩
 ·have geA:¬ kA < a.length:=by rw [lenM] at geA; omega
  have eA:a = b:=lists_eq (n:=kA) (by omega) (by omega) invA
  exact retP rfl (congrArg C.bool (tru_yes eA))
theorem t51 (x y:Rout):EqOk 51 [.agg (routC x),.agg (routC y)] (x = y):=by
 refine callsT_facts Tryz.func51 facts51 rfl fun hw _ => ?_
 have hw1:Wf (.sl (x.entry.map slotsC)):=hw.1.2.2.2.2.2.2.2.2.1
 refine brn_split (fun h0 => ?_) (fun h0 => ?_)
 ·exact retP rfl (congrArg C.bool (tru_no fun e => (ndT h0) (by rw [e])))
 refine callP (t98 x.params y.params) rfl fun _ => ?_
 refine brn_split (fun h1 => ?_) (fun h1 => ?_)
 ·exact retP rfl (congrArg C.bool (tru_no fun e => (ntT h1) (by rw [e])))
 refine callP (t99 x.result y.result) rfl fun _ => ?_
 refine brn_split (fun h2 => ?_) (fun h2 => ?_)
 ·exact retP rfl (congrArg C.bool (tru_no fun e => (ntT h2) (by rw [e])))
 refine callP (t100 x.ties y.ties) rfl fun _ => ?_
 refine brn_split (fun h3 => ?_) (fun h3 => ?_)
 ·exact retP rfl (congrArg C.bool (tru_no fun e => (ntT h3) (by rw [e])))
 refine brn_split (fun h4 => ?_) (fun h4 => ?_)
 ·exact retP rfl (congrArg C.bool (tru_no fun e => (ndT h4) (by rw [e])))
 refine callP (t101 x.blocks y.blocks) rfl fun _ => ?_
 refine brn_split (fun h5 => ?_) (fun h5 => ?_)
 ·exact retP rfl (congrArg C.bool (tru_no fun e => (ntT h5) (by rw [e])))
 refine brn_split (fun h6 => ?_) (fun h6 => ?_)
 ·exact retP rfl (congrArg C.bool (tru_no fun e => (lenNe (by have q:=ndT h6; rwa [lenM,lenM] at q)) (by rw [e])))
 have h6:=lenMEq h6
 refine loopN x.entry.length 5 [] () (fun _ => []) (fun _ => []) (fun k _ => ∀ j < k,x.entry[j]? = y.entry[j]?) (fun j hj => absurd hj (by omega)) (same_keys rfl) trivial trivial (fun _ => rfl) (fun _ => rfl) ?_
 rintro kA ⟨⟩ hkA invA _ _ _
 refine brn_p (fun ltA => ?_) (fun geA => ?_)
 ·have ltA:kA < x.entry.length:=by rw [lenM] at ltA; omega
  have mxA:=wf_lenM hw1
  obtain ⟨xA,hxA⟩:=get_of ltA
  obtain ⟨yA,hyA⟩:=get_of (l:=y.entry) (k:=kA) (by omega)
  refine idxT hxA rfl rfl ?_
  refine idxT hyA rfl rfl ?_
  refine callPD (t102 xA yA) rfl fun _ => ?_
  refine brn_split (fun h7 => ?_) (fun h7 => ?_)
  ·exact retP rfl (congrArg C.bool (tru_no fun e => get_ne hxA hyA (ntT h7) (by rw [e])))
  refine Fit.in64 (by omega) (by omega) ?_
  exact ⟨(kA + 1,()),⟨ltA,get_step invA hxA hyA (ntF h7)⟩,⟨nextI,trivial⟩,trivial,nextM ltA⟩
 ·have geA:¬ kA < x.entry.length:=by rw [lenM] at geA; omega
  have eA:x.entry = y.entry:=lists_eq (n:=kA) (by omega) (by omega) invA
  exact retP rfl (congrArg C.bool (tru_yes (rout_eq (str_ext (ndF h0)) (ntF h1) (ntF h2) (ntF h3) (ndF h4) (ntF h5) eA)))
theorem t15 (x y:Img):EqOk 15 [.agg (imgC x),.agg (imgC y)] (x = y):=by
 refine callsT_facts Tryz.func15 facts15 rfl fun hw _ => ?_
 have hw1:Wf (.sl (x.datas.map dataC)):=hw.1.1
 have hw2:Wf (.sl (x.routs.map routC)):=hw.1.2.1
 refine brn_split (fun h0 => ?_) (fun h0 => ?_)
 ·exact retP rfl (congrArg C.bool (tru_no fun e => (ndT h0) (by rw [e])))
 refine brn_split (fun h1 => ?_) (fun h1 => ?_)
 ·exact retP rfl (congrArg C.bool (tru_no fun e => (lenNe (by have q:=ndT h1; rwa [lenM,lenM] at q)) (by rw [e])))
 have h1:=lenMEq h1
 refine brn_split (fun h2 => ?_) (fun h2 => ?_)
 ·exact retP rfl (congrArg C.bool (tru_no fun e => (lenNe (by have q:=ndT h2; rwa [lenM,lenM] at q)) (by rw [e])))
 have h2:=lenMEq h2
 refine loopN x.datas.length 5 [] () (fun _ => []) (fun _ => []) (fun k _ => ∀ j < k,x.datas[j]? = y.datas[j]?) (fun j hj => absurd hj (by omega)) (same_keys rfl) trivial trivial (fun _ => rfl) (fun _ => rfl) ?_
 rintro kA ⟨⟩ hkA invA _ _ _
 refine brn_p (fun ltA => ?_) (fun geA => ?_)
 ·have ltA:kA < x.datas.length:=by rw [lenM] at ltA; omega
  have mxA:=wf_lenM hw1
  obtain ⟨xA,hxA⟩:=get_of ltA
  obtain ⟨yA,hyA⟩:=get_of (l:=y.datas) (k:=kA) (by omega)
  refine idxT hxA rfl rfl ?_
  refine idxT hyA rfl rfl ?_
  refine callPD (t50 xA yA) rfl fun _ => ?_
  refine brn_split (fun h3 => ?_) (fun h3 => ?_)
  ·exact retP rfl (congrArg C.bool (tru_no fun e => get_ne hxA hyA (ntT h3) (by rw [e])))
  refine Fit.in64 (by omega) (by omega) ?_
  exact ⟨(kA + 1,()),⟨ltA,get_step invA hxA hyA (ntF h3)⟩,⟨nextI,trivial⟩,trivial,nextM ltA⟩
 ·have geA:¬ kA < x.datas.length:=by rw [lenM] at geA; omega
  have eA:x.datas = y.datas:=lists_eq (n:=kA) (by omega) (by omega) invA
  refine loopN x.routs.length 6 [] () (fun _ => []) (fun _ => []) (fun k _ => ∀ j < k,x.routs[j]? = y.routs[j]?) (fun j hj => absurd hj (by omega)) (same_keys rfl) trivial trivial (fun _ => rfl) (fun _ => rfl) ?_
  rintro kB ⟨⟩ hkB invB _ _ _
  refine brn_p (fun ltB => ?_) (fun geB => ?_)
  ·have ltB:kB < x.routs.length:=by rw [lenM] at ltB; omega
   have mxB:=wf_lenM hw2
   obtain ⟨xB,hxB⟩:=get_of ltB
   obtain ⟨yB,hyB⟩:=get_of (l:=y.routs) (k:=kB) (by omega)
   refine idxT hxB rfl rfl ?_
   refine idxT hyB rfl rfl ?_
   refine callPD (t51 xB yB) rfl fun _ => ?_
   refine brn_split (fun h4 => ?_) (fun h4 => ?_)
   ·exact retP rfl (congrArg C.bool (tru_no fun e => get_ne hxB hyB (ntT h4) (by rw [e])))
   refine Fit.in64 (by omega) (by omega) ?_
   exact ⟨(kB + 1,()),⟨ltB,get_step invB hxB hyB (ntF h4)⟩,⟨nextI,trivial⟩,trivial,nextM ltB⟩
  ·have geB:¬ kB < x.routs.length:=by rw [lenM] at geB; omega
   have eB:x.routs = y.routs:=lists_eq (n:=kB) (by omega) (by omega) invB
   exact retP rfl (congrArg C.bool (tru_yes (img_eq (ndF h0) eA eB)))
def AnyI (f:Nat) (args:List C):Prop:=CallsT PZ f args [] (fun Mo v => Mo = [] ∧ ∃ n:Int,v = IC n)
section
variable {L:TL} {ρ:TEnv}
theorem callI {f:Nat} {args args':List C} {K:TL → TEnv → C → Prop} (h:AnyI f args') (ha:(args.map fun c => c.canA.ren (toIn [] 1000)) = args') (k:∀ n:Int,K L ρ (IC n)):CallT PZ f args L ρ K:=by
 subst ha
 exact ⟨[],[],[],L,[],_,.inl rfl,rfl,rfl,rfl,rfl,rfl,h,fun v Mo ⟨e1,n,e2⟩ hw _ => by subst e1 e2; exact ⟨rfl,k n⟩⟩
theorem callID {f:Nat} {args args':List C} {K:TL → TEnv → C → Prop} {d:Option Nat} (h:AnyI f args') (ha:(args.map fun c => c.canA.ren (toIn [] 1000)) = args') (k:∀ n:Int,K L ρ (IC n)):CallDT PZ f args L ρ d K:=by
 subst ha
 exact .frz _ h fun v Mo ⟨e1,n,e2⟩ hw => by subst e1 e2; exact ⟨rfl,k n⟩
theorem retI {Lin:List TO} {v:C} (n:Int) (hb:boxesAt Lin (List.range' 1000 Lin.length) [] = true) (e:v.canR.ren (toIn [] 1000) = IC n):RetT Lin L v (fun Mo v => Mo = [] ∧ ∃ n:Int,v = IC n) :=
 ⟨[],[],L,v,v,[],rfl,.inl ⟨rfl,rfl⟩,rfl,rfl,hb,fun _ => ⟨rfl,n,e⟩⟩
end
theorem t59n:∀ (n:Nat) (x:Ty) (l:Int),SizeOf.sizeOf x < n → AnyI 59 [tyA x,IC l]
 | 0,x,l,h => absurd h (by omega)
 | n + 1,x,l,h => by
  have ih:∀ z ∈ x.args,∀ m,AnyI 59 [tyA z,IC m]:=fun z hz m => t59n n z m (by have:=ty_lt hz; omega)
  refine callsT_facts Tryz.func59 facts59 rfl fun hw _ => ?_
  have hw1:Wf (.sl (x.args.map tyC)):=by have h:=hw.1; simp only [tyA,Wf,WfS] at h; exact h.2.2.1
  refine Fit.mk ?_
  refine Fit.mk ?_
  refine loopN x.args.length 5 [1] (_:Int) (fun n => [IC n]) (fun _ => []) (fun _ _ => True) trivial (same_keys rfl) ⟨same_keys rfl,trivial⟩ trivial (fun _ => rfl) (fun _ => rfl) ?_
  rintro kA lA hkA _ _ _ _
  refine brn_p (fun ltA => ?_) (fun geA => ?_)
  ·refine brn_p (fun gtA => ?_) (fun gtA => ?_)
   ·have ltA:kA < x.args.length:=by rw [lenM] at ltA; omega
    have mxA:=wf_lenM hw1
    obtain ⟨xA,hxA⟩:=get_of ltA
    refine idxTy hxA ?_
    refine callI (ih xA (List.mem_of_getElem? hxA) _) rfl fun m => ?_
    refine Fit.in64 (by omega) (by omega) ?_
    exact ⟨(kA + 1,_),⟨ltA,trivial⟩,⟨nextI,⟨same_keys rfl,trivial⟩⟩,trivial,nextM ltA⟩
   skip
   exact retI _ rfl rfl
  ·skip
   exact retI _ rfl rfl
theorem t59 (x:Ty) (l:Int):AnyI 59 [tyA x,IC l]:=t59n _ x l (Nat.lt_succ_self _)
theorem t20 (a:List Ty) (l:Int):AnyI 20 [.sl (a.map tyC),IC l]:=by
 refine callsT_facts Tryz.func20 facts20 rfl fun hw _ => ?_
 refine Fit.mk ?_
 refine loopN a.length 5 [1] (_:Int) (fun n => [IC n]) (fun _ => []) (fun _ _ => True) trivial (same_keys rfl) ⟨same_keys rfl,trivial⟩ trivial (fun _ => rfl) (fun _ => rfl) ?_
 rintro kA lA hkA _ _ _ _
 refine brn_p (fun ltA => ?_) (fun geA => ?_)
 ·refine brn_p (fun gtA => ?_) (fun gtA => ?_)
  ·have ltA:kA < a.length:=by rw [lenM] at ltA; omega
   have mxA:=wf_lenM hw.1
   obtain ⟨xA,hxA⟩:=get_of ltA
   refine idxTy hxA ?_
   refine callI (t59 xA _) rfl fun m => ?_
   refine Fit.in64 (by omega) (by omega) ?_
   exact ⟨(kA + 1,_),⟨ltA,trivial⟩,⟨nextI,⟨same_keys rfl,trivial⟩⟩,trivial,nextM ltA⟩
  skip
  exact retI _ rfl rfl
 ·skip
  exact retI _ rfl rfl
theorem t21 (x:Rout) (l:Int):AnyI 21 [.agg (routC x),IC l]:=by
 refine callsT_facts Tryz.func21 facts21 rfl fun hw _ => ?_
 have hw1:Wf (.sl (x.blocks.map blockC)):=hw.1.2.2.2.2.2.2.2.1
 have hw2:Wf (.sl (x.entry.map slotsC)):=hw.1.2.2.2.2.2.2.2.2.1
 refine Fit.mk ?_
 refine Fit.mk ?_
 refine Fit.mk ?_
 refine Fit.mk ?_
 refine callID (t59 x.result _) rfl fun m1 => ?_
 refine callID (t20 x.params _) rfl fun m2 => ?_
 refine loopN x.blocks.length 5 [1] (_:Int) (fun n => [IC n]) (fun _ => []) (fun _ _ => True) trivial (same_keys rfl) ⟨same_keys rfl,trivial⟩ trivial (fun _ => rfl) (fun _ => rfl) ?_
 rintro kA lA hkA _ _ _ _
 refine brn_p (fun ltA => ?_) (fun geA => ?_)
 ·refine brn_p (fun gtA => ?_) (fun gtA => ?_)
  ·have ltA:kA < x.blocks.length:=by rw [lenM] at ltA; omega
   have mxA:=wf_lenM hw1
   obtain ⟨xA,hxA⟩:=get_of ltA
   have hwA:Wf (.sl (xA.code.map insC)):=(wf_mem hw1 (List.mem_of_getElem? hxA)).1
   refine idxT hxA rfl rfl ?_
   refine Fit.mk ?_
   refine idxT hxA rfl rfl ?_
   refine Fit.mk ?_
   refine loopN xA.code.length 6 [1] (_:Int) (fun n => [IC n]) (fun _ => []) (fun _ _ => True) trivial (same_keys rfl) ⟨same_keys rfl,trivial⟩ trivial (fun _ => rfl) (fun _ => rfl) ?_
   rintro kB lB hkB _ _ _ _
   refine idxT hxA rfl rfl ?_
   refine brn_p (fun ltB => ?_) (fun geB => ?_)
   ·refine brn_p (fun gtB => ?_) (fun gtB => ?_)
    ·have ltB:kB < xA.code.length:=by rw [lenM] at ltB; omega
     have mxB:=wf_lenM hwA
     obtain ⟨xB,hxB⟩:=get_of ltB
     refine idxT hxA rfl rfl ?_
     refine idxT hxB rfl rfl ?_
     refine idxT hxA rfl rfl ?_
     refine idxT hxB rfl rfl ?_
     refine Fit.mk ?_
     refine callID (t20 xB.types _) rfl fun m3 => ?_
     refine Fit.in64 (by omega) (by omega) ?_
     exact ⟨(kB + 1,_),⟨ltB,trivial⟩,⟨nextI,⟨same_keys rfl,trivial⟩⟩,trivial,nextM ltB⟩
    skip
    refine Fit.in64 (by omega) (by omega) ?_
    exact ⟨(kA + 1,_),⟨ltA,trivial⟩,⟨nextI,⟨same_keys rfl,trivial⟩⟩,trivial,nextM ltA⟩
   ·skip
    refine Fit.in64 (by omega) (by omega) ?_
    exact ⟨(kA + 1,_),⟨ltA,trivial⟩,⟨nextI,⟨same_keys rfl,trivial⟩⟩,trivial,nextM ltA⟩
  skip
  refine loopN x.entry.length 7 [1] (_:Int) (fun n => [IC n]) (fun _ => []) (fun _ _ => True) trivial (same_keys rfl) ⟨same_keys rfl,trivial⟩ trivial (fun _ => rfl) (fun _ => rfl) ?_
  rintro kC lC hkC _ _ _ _
  refine brn_p (fun ltC => ?_) (fun geC => ?_)
  ·refine brn_p (fun gtC => ?_) (fun gtC => ?_)
   ·have ltC:kC < x.entry.length:=by rw [lenM] at ltC; omega
    have mxC:=wf_lenM hw2
    obtain ⟨xC,hxC⟩:=get_of ltC
    have hwC:Wf (.sl (xC.map slotC)):=(wf_mem hw2 (List.mem_of_getElem? hxC)).1
    refine idxT hxC rfl rfl ?_
    refine Fit.mk ?_
    refine loopN xC.length 8 [1] (_:Int) (fun n => [IC n]) (fun _ => []) (fun _ _ => True) trivial (same_keys rfl) ⟨same_keys rfl,trivial⟩ trivial (fun _ => rfl) (fun _ => rfl) ?_
    rintro kD lD hkD _ _ _ _
    refine idxT hxC rfl rfl ?_
    refine brn_p (fun ltD => ?_) (fun geD => ?_)
    ·refine brn_p (fun gtD => ?_) (fun gtD => ?_)
     ·have ltD:kD < xC.length:=by rw [lenM] at ltD; omega
      have mxD:=wf_lenM hwC
      obtain ⟨xD,hxD⟩:=get_of ltD
      refine idxT hxC rfl rfl ?_
      refine idxT hxD rfl rfl ?_
      refine idxT hxC rfl rfl ?_
      refine idxT hxD rfl rfl ?_
      refine Fit.mk ?_
      refine callID (t59 xD.type _) rfl fun m3 => ?_
      refine Fit.in64 (by omega) (by omega) ?_
      exact ⟨(kD + 1,_),⟨ltD,trivial⟩,⟨nextI,⟨same_keys rfl,trivial⟩⟩,trivial,nextM ltD⟩
     skip
     refine Fit.in64 (by omega) (by omega) ?_
     exact ⟨(kC + 1,_),⟨ltC,trivial⟩,⟨nextI,⟨same_keys rfl,trivial⟩⟩,trivial,nextM ltC⟩
    ·skip
     refine Fit.in64 (by omega) (by omega) ?_
     exact ⟨(kC + 1,_),⟨ltC,trivial⟩,⟨nextI,⟨same_keys rfl,trivial⟩⟩,trivial,nextM ltC⟩
   skip
   exact retI _ rfl rfl
  ·skip
   exact retI _ rfl rfl
 ·skip
  refine loopN x.entry.length 7 [1] (_:Int) (fun n => [IC n]) (fun _ => []) (fun _ _ => True) trivial (same_keys rfl) ⟨same_keys rfl,trivial⟩ trivial (fun _ => rfl) (fun _ => rfl) ?_
  rintro kC lC hkC _ _ _ _
  refine brn_p (fun ltC => ?_) (fun geC => ?_)
  ·refine brn_p (fun gtC => ?_) (fun gtC => ?_)
   ·have ltC:kC < x.entry.length:=by rw [lenM] at ltC; omega
    have mxC:=wf_lenM hw2
    obtain ⟨xC,hxC⟩:=get_of ltC
    have hwC:Wf (.sl (xC.map slotC)):=(wf_mem hw2 (List.mem_of_getElem? hxC)).1
    refine idxT hxC rfl rfl ?_
    refine Fit.mk ?_
    refine loopN xC.length 8 [1] (_:Int) (fun n => [IC n]) (fun _ => []) (fun _ _ => True) trivial (same_keys rfl) ⟨same_keys rfl,trivial⟩ trivial (fun _ => rfl) (fun _ => rfl) ?_
    rintro kD lD hkD _ _ _ _
    refine idxT hxC rfl rfl ?_
    refine brn_p (fun ltD => ?_) (fun geD => ?_)
    ·refine brn_p (fun gtD => ?_) (fun gtD => ?_)
     ·have ltD:kD < xC.length:=by rw [lenM] at ltD; omega
      have mxD:=wf_lenM hwC
      obtain ⟨xD,hxD⟩:=get_of ltD
      refine idxT hxC rfl rfl ?_
      refine idxT hxD rfl rfl ?_
      refine idxT hxC rfl rfl ?_
      refine idxT hxD rfl rfl ?_
      refine Fit.mk ?_
      refine callID (t59 xD.type _) rfl fun m3 => ?_
      refine Fit.in64 (by omega) (by omega) ?_
      exact ⟨(kD + 1,_),⟨ltD,trivial⟩,⟨nextI,⟨same_keys rfl,trivial⟩⟩,trivial,nextM ltD⟩
     skip
     refine Fit.in64 (by omega) (by omega) ?_
     exact ⟨(kC + 1,_),⟨ltC,trivial⟩,⟨nextI,⟨same_keys rfl,trivial⟩⟩,trivial,nextM ltC⟩
    ·skip
     refine Fit.in64 (by omega) (by omega) ?_
     exact ⟨(kC + 1,_),⟨ltC,trivial⟩,⟨nextI,⟨same_keys rfl,trivial⟩⟩,trivial,nextM ltC⟩
   skip
   exact retI _ rfl rfl
  ·skip
   exact retI _ rfl rfl
theorem t10 (x:Img):CallsT PZ 10 [.agg (imgC x)] [] (Such True):=by
 refine callsT_facts Tryz.func10 facts10 rfl fun hw _ => ?_
 have hw1:Wf (.sl (x.datas.map dataC)):=hw.1.1
 have hw2:Wf (.sl (x.routs.map routC)):=hw.1.2.1
 refine Fit.mk ?_
 refine Fit.mk ?_
 refine loopN x.datas.length 4 [3] (_:Int) (fun n => [IC n]) (fun _ => []) (fun _ _ => True) trivial (same_keys rfl) ⟨same_keys rfl,trivial⟩ trivial (fun _ => rfl) (fun _ => rfl) ?_
 rintro kA lA hkA _ _ _ _
 refine brn_p (fun ltA => ?_) (fun geA => ?_)
 ·refine brn_p (fun gtA => ?_) (fun gtA => ?_)
  ·have ltA:kA < x.datas.length:=by rw [lenM] at ltA; omega
   have mxA:=wf_lenM hw1
   obtain ⟨xA,hxA⟩:=get_of ltA
   have hwA:Wf (.sl (xA.variants.map variantC)):=(wf_mem hw1 (List.mem_of_getElem? hxA)).2.2.2.1
   refine idxT hxA rfl rfl ?_
   refine Fit.mk ?_
   refine idxT hxA rfl rfl ?_
   refine Fit.mk ?_
   refine loopN xA.variants.length 5 [3] (_:Int) (fun n => [IC n]) (fun _ => []) (fun _ _ => True) trivial (same_keys rfl) ⟨same_keys rfl,trivial⟩ trivial (fun _ => rfl) (fun _ => rfl) ?_
   rintro kB lB hkB _ _ _ _
   refine idxT hxA rfl rfl ?_
   refine brn_p (fun ltB => ?_) (fun geB => ?_)
   ·refine brn_p (fun gtB => ?_) (fun gtB => ?_)
    ·have ltB:kB < xA.variants.length:=by rw [lenM] at ltB; omega
     have mxB:=wf_lenM hwA
     obtain ⟨xB,hxB⟩:=get_of ltB
     refine idxT hxA rfl rfl ?_
     refine idxT hxB rfl rfl ?_
     refine idxT hxA rfl rfl ?_
     refine idxT hxB rfl rfl ?_
     refine Fit.mk ?_
     refine callID (t20 xB.fields _) rfl fun m3 => ?_
     refine Fit.in64 (by omega) (by omega) ?_
     exact ⟨(kB + 1,_),⟨ltB,trivial⟩,⟨nextI,⟨same_keys rfl,trivial⟩⟩,trivial,nextM ltB⟩
    skip
    refine Fit.in64 (by omega) (by omega) ?_
    exact ⟨(kA + 1,_),⟨ltA,trivial⟩,⟨nextI,⟨same_keys rfl,trivial⟩⟩,trivial,nextM ltA⟩
   ·skip
    refine Fit.in64 (by omega) (by omega) ?_
    exact ⟨(kA + 1,_),⟨ltA,trivial⟩,⟨nextI,⟨same_keys rfl,trivial⟩⟩,trivial,nextM ltA⟩
  skip
  refine loopN x.routs.length 6 [3] (_:Int) (fun n => [IC n]) (fun _ => []) (fun _ _ => True) trivial (same_keys rfl) ⟨same_keys rfl,trivial⟩ trivial (fun _ => rfl) (fun _ => rfl) ?_
  rintro kC lC hkC _ _ _ _
  refine brn_p (fun ltC => ?_) (fun geC => ?_)
  ·refine brn_p (fun gtC => ?_) (fun gtC => ?_)
   ·have ltC:kC < x.routs.length:=by rw [lenM] at ltC; omega
    have mxC:=wf_lenM hw2
    obtain ⟨xC,hxC⟩:=get_of ltC
    refine idxT hxC rfl rfl ?_
    refine callI (t21 xC _) rfl fun m3 => ?_
    refine Fit.in64 (by omega) (by omega) ?_
    exact ⟨(kC + 1,_),⟨ltC,trivial⟩,⟨nextI,⟨same_keys rfl,trivial⟩⟩,trivial,nextM ltC⟩
   skip
   exact retB _ rfl rfl fun _ => trivial
  ·skip
   exact retB _ rfl rfl fun _ => trivial
 ·skip
  refine loopN x.routs.length 6 [3] (_:Int) (fun n => [IC n]) (fun _ => []) (fun _ _ => True) trivial (same_keys rfl) ⟨same_keys rfl,trivial⟩ trivial (fun _ => rfl) (fun _ => rfl) ?_
  rintro kC lC hkC _ _ _ _
  refine brn_p (fun ltC => ?_) (fun geC => ?_)
  ·refine brn_p (fun gtC => ?_) (fun gtC => ?_)
   ·have ltC:kC < x.routs.length:=by rw [lenM] at ltC; omega
    have mxC:=wf_lenM hw2
    obtain ⟨xC,hxC⟩:=get_of ltC
    refine idxT hxC rfl rfl ?_
    refine callI (t21 xC _) rfl fun m3 => ?_
    refine Fit.in64 (by omega) (by omega) ?_
    exact ⟨(kC + 1,_),⟨ltC,trivial⟩,⟨nextI,⟨same_keys rfl,trivial⟩⟩,trivial,nextM ltC⟩
   skip
   exact retB _ rfl rfl fun _ => trivial
  ·skip
   exact retB _ rfl rfl fun _ => trivial
def exR:Rout:=⟨⟨#[109,97,105,110]⟩,[],.mk 1 0 [],[],1,[⟨[⟨1,0,0,0,7,[],[]⟩],⟨4,0,[]⟩⟩],[[⟨0,.mk 0 0 [],-1,0,[]⟩]]⟩
def exD:Api.Data:=⟨⟨#[97]⟩,0,0,[],100⟩
def exImg:Img:=⟨[exD],[exR],0⟩
theorem t18:CallsT PZ 18 [] [] (Ret [] (.agg (imgC exImg))):=by
 refine callsT_facts Tryz.func18 facts18 rfl fun hw _ => ?_
 exact retP rfl rfl
theorem vint_s {z:Nat} (h:z < 128):vint z = [UInt8.ofNat z]:=by rw [vint,dif_pos h]
theorem vint_l {z:Nat} (h:¬ z < 128):vint z = UInt8.ofNat (128 + z % 128) :: vint (z / 128):=by rw [vint,dif_neg h]
theorem numE_s {n:Int} {b:List UInt8} (h:-1099511627776 ≤ n ∧ n ≤ 1099511627776) (e:vint (zz n) = b):numE n = (b,true):=by rw [numE,if_pos h,e]
theorem n0:numE 0 = ([0],true):=numE_s (by decide) (vint_s (by decide))
theorem n1:numE 1 = ([2],true):=numE_s (by decide) (vint_s (by decide))
theorem n1m:numE (-1) = ([1],true):=numE_s (by decide) (vint_s (by decide))
theorem n100:numE 100 = ([200,1],true):=numE_s (by decide) (by rw [show zz 100 = 200 by decide,vint_l (by decide),vint_s (by decide)]; rfl)
theorem nBig:numE 1099511627777 = ([],false):=by rw [numE,if_neg (by decide)]
theorem e0:imgE img0 = ([0,0,0],true):=by
 simp only [imgE,img0,listE,eachE,numsE,List.length_nil,Int.natCast_zero,n0,chkE,andE,okE]; rfl
theorem e1:imgE ⟨[],[],-1⟩ = ([0,0,1],true):=by
 simp only [imgE,img0,listE,eachE,numsE,List.length_nil,Int.natCast_zero,n0,n1m,chkE,andE,okE]; rfl
theorem e2:imgE ⟨[exD],[],0⟩ = ([2,2,97,0,0,200,1,0,0,0],true):=by
 simp only [imgE,img0,listE,eachE,numsE,List.length_nil,List.length_cons,Int.natCast_zero,dataE,exD,nameE,n0,n100,chkE,andE,okE]
 have:((ByteArray.mk #[97]).size:Int) = 1:=rfl
 simp only [this,show (((0 + 1:Nat)):Int) = 1 from rfl,n1]; rfl
theorem eBig:(imgE ⟨[],[],1099511627777⟩).2 = false:=by
 simp only [imgE,img0,listE,eachE,numsE,List.length_nil,Int.natCast_zero,n0,nBig,chkE,andE,okE]; rfl
theorem num_ok {n:Int} (h:-1099511627776 ≤ n ∧ n ≤ 1099511627776):(numE n).2 = true:=by rw [numE,if_pos h]
theorem each_ok {α:Type} {f:α → Enc}:∀ {l:List α},(∀ x ∈ l,(f x).2 = true) → (eachE f l).2 = true
 | [],_ => rfl
 | x :: l,h => andE_t.2 ⟨h x (List.mem_cons_self ..),each_ok fun y hy => h y (List.mem_cons_of_mem _ hy)⟩
theorem nums_ok {l:List Int} (h:∀ n ∈ l,-1099511627776 ≤ n ∧ n ≤ 1099511627776):(numsE l).2 = true:=each_ok fun n hn => num_ok (h n hn)
theorem list_ok {α:Type} {f:α → Enc} {l:List α} (hl:l.length ≤ 400) (h:∀ x ∈ l,(f x).2 = true):(listE f l).2 = true :=
 andE_t.2 ⟨decide_eq_true hl,andE_t.2 ⟨nums_ok fun n hn => by rw [List.mem_singleton.1 hn]; omega,each_ok h⟩⟩
theorem name_ok {s:ByteArray} (h:s.size ≤ 200):(nameE s).2 = true:=andE_t.2 ⟨decide_eq_true h,andE_t.2 ⟨nums_ok fun n hn => by rw [List.mem_singleton.1 hn]; omega,rfl⟩⟩
theorem one_ok {α:Type} {f:α → Enc} {x:α} (h:(f x).2 = true):(listE f [x]).2 = true:=list_ok (by simp) fun y hy => by rw [List.mem_singleton.1 hy]; exact h
theorem nil_ok {α:Type} {f:α → Enc}:(listE f []).2 = true:=list_ok (by simp) fun y hy => by cases hy
theorem leaf_ok {k i:Int} (h:∀ n ∈ [k,i],-1099511627776 ≤ n ∧ n ≤ 1099511627776):(fullE (.mk k i [])).2 = true:=andE_t.2 ⟨nums_ok h,nil_ok⟩
theorem exD_ok:(dataE exD).2 = true:=andE_t.2 ⟨name_ok (by decide),andE_t.2 ⟨nums_ok (by decide),nil_ok⟩⟩
theorem exR_ok:(routE exR).2 = true :=
 andE_t.2 ⟨name_ok (by decide),andE_t.2 ⟨nil_ok,andE_t.2 ⟨leaf_ok (by decide),andE_t.2 ⟨nil_ok,andE_t.2 ⟨nums_ok (by decide),
  andE_t.2 ⟨one_ok (andE_t.2 ⟨one_ok (andE_t.2 ⟨nums_ok (by decide),andE_t.2 ⟨nil_ok,nil_ok⟩⟩),andE_t.2 ⟨nums_ok (by decide),nil_ok⟩⟩),
   one_ok (f:=slotsE) (one_ok (andE_t.2 ⟨nums_ok (by decide),andE_t.2 ⟨leaf_ok (by decide),andE_t.2 ⟨nums_ok (by decide),nil_ok⟩⟩⟩))⟩⟩⟩⟩⟩⟩
theorem ex_ok:(imgE exImg).2 = true:=andE_t.2 ⟨one_ok exD_ok,andE_t.2 ⟨one_ok exR_ok,nums_ok (by decide)⟩⟩
theorem dgZ:dig4 [76,72,1,0,0,0] ≠ [0,0,0,0]:=by decide +kernel
theorem encZ:encB img0 = [76,72,1,0,0,0] ++ dig4 [76,72,1,0,0,0]:=by rw [encB,e0]; rfl
theorem encM:encB ⟨[],[],-1⟩ = [76,72,1,0,0,1] ++ dig4 [76,72,1,0,0,1]:=by rw [encB,e1]; rfl
theorem encD:encB ⟨[exD],[],0⟩ = [76,72,1,2,2,97,0,0,200,1,0,0,0] ++ dig4 [76,72,1,2,2,97,0,0,200,1,0,0,0]:=by rw [encB,e2]; rfl
theorem encN:encB ⟨[],[],1099511627777⟩ = []:=by rw [encB,eBig]
theorem dec3:dec [76,72,1] = (img0,16):=by rw [dec,if_pos (by decide)]
theorem dec10:dec [76,72,1,0,0,0,0,0,0,0] = (img0,17):=by
 rw [dec,if_neg (by decide),if_neg (by decide),if_pos]
 intro h
 have h:[76,72,1,0,0,0] ++ dig4 [76,72,1,0,0,0] = [76,72,1,0,0,0] ++ [0,0,0,0]:=h
 exact dgZ (List.append_cancel_left h)
theorem ex_len:(imgE exImg).1.length ≤ 1000:=by
 have:=img_len exImg
 have e:(imgG exImg).bulk ≤ 100:=by decide +kernel
 omega
theorem h13a {A:List UInt8} (h:encB img0 = A):CallsT PZ 13 [.agg (imgC img0)] [] (Ret [] (.sl (bcells A))):=h ▸ t13 img0 (by rw [e0]; decide)
theorem h13b {A:List UInt8} (h:encB ⟨[],[],-1⟩ = A):CallsT PZ 13 [.agg (imgC ⟨[],[],-1⟩)] [] (Ret [] (.sl (bcells A))):=h ▸ t13 ⟨[],[],-1⟩ (by rw [e1]; decide)
theorem h13c {A:List UInt8} (h:encB ⟨[exD],[],0⟩ = A):CallsT PZ 13 [.agg (imgC ⟨[exD],[],0⟩)] [] (Ret [] (.sl (bcells A))):=h ▸ t13 ⟨[exD],[],0⟩ (by rw [e2]; decide)
theorem h13d:CallsT PZ 13 [.agg (imgC ⟨[],[],1099511627777⟩)] [] (Ret [] (.sl (bcells []))):=encN ▸ t13 ⟨[],[],1099511627777⟩ (by
 have:=img_len ⟨[],[],1099511627777⟩
 have e:(imgG ⟨[],[],1099511627777⟩).bulk ≤ 100:=by decide +kernel
 omega)
theorem h13e:CallsT PZ 13 [.agg (imgC exImg)] [] (Ret [] (.sl (bcells (encB exImg)))):=t13 exImg (by have:=ex_len; omega)
theorem enc_le {i:Img} {n:Nat} (h:(imgE i).1.length ≤ n):(encB i).length ≤ n + 7:=by
 unfold encB
 split
 ·rw [seal_len]; simp; omega
 ·simp
theorem h11a:CallsT PZ 11 [.sl (bcells (encB exImg))] [] (Ret [] (decC (exImg,0))):=dec_enc ex_ok ▸ t11 (encB exImg) (by have:=enc_le ex_len; omega)
theorem h11b:CallsT PZ 11 [.sl (bcells [76,72,1])] [] (Ret [] (decC (img0,16))):=dec3 ▸ t11 [76,72,1] (by decide)
theorem h11c:CallsT PZ 11 [.sl (bcells [76,72,1,0,0,0,0,0,0,0])] [] (Ret [] (decC (img0,17))):=dec10 ▸ t11 [76,72,1,0,0,0,0,0,0,0] (by decide)
theorem ex_ne:exImg ≠ img0:=fun h => by
 have:=congrArg (fun i:Img => i.datas.length) h
 simp [exImg,img0] at this
theorem h16a:CallsT PZ 16 [.agg (imgC exImg),.agg (imgC exImg)] [] (Ret [] (.bool true)):=tru_yes (p:=exImg = exImg) rfl ▸ t16 exImg exImg
theorem h16b:CallsT PZ 16 [.agg (imgC exImg),.agg (imgC img0)] [] (Ret [] (.bool false)):=tru_no (p:=exImg = img0) ex_ne ▸ t16 exImg img0
theorem h17:CallsT PZ 17 [.sl (bcells [])] [] (Ret [] (IC 7)):=t17 []
theorem bytesE {els:List (List C)} {K:List UInt8 → Prop} (bs:List UInt8) (h:els = bcells bs) (k:K bs):BytesT els K:=⟨bs,h,k⟩
theorem t9w (A B Cc D E:List UInt8) (X:Img) (ha:CallsT PZ 13 [.agg [.sl [],.sl [],IC 0]] [] (Ret [] (.sl (bcells A)))) (hb:CallsT PZ 13 [.agg [.sl [],.sl [],IC (-1)]] [] (Ret [] (.sl (bcells B))))
  (hc:CallsT PZ 13 [.agg [.sl (X.datas.map dataC),.sl [],IC 0]] [] (Ret [] (.sl (bcells Cc)))) (h19:CallsT PZ 19 [.sl (bcells [76,72,1,0,0,0])] [] (Ret [] (.sl (bcells D))))
  (he:CallsT PZ 13 [.agg (imgC X)] [] (Ret [] (.sl (bcells E)))) (hd:CallsT PZ 11 [.sl (bcells E)] [] (Ret [] (.tup [.agg (imgC X),IC 0])))
  (hd2:CallsT PZ 11 [.sl (bcells [76,72,1])] [] (Ret [] (.tup [.agg [.sl [],.sl [],IC 0],IC 16]))) (hd3:CallsT PZ 11 [.sl (bcells [76,72,1,0,0,0,0,0,0,0])] [] (Ret [] (.tup [.agg [.sl [],.sl [],IC 0],IC 17])))
  (h13d:CallsT PZ 13 [.agg [.sl [],.sl [],IC 1099511627777]] [] (Ret [] (.sl (bcells []))))
  (h18:CallsT PZ 18 [] [] (Ret [] (.agg (imgC X)))) (hs:CallsT PZ 16 [.agg (imgC X),.agg (imgC X)] [] (Ret [] (.bool true))) (hn:CallsT PZ 16 [.agg (imgC X),.agg [.sl [],.sl [],IC 0]] [] (Ret [] (.bool false)))
  (hDl:D.length = 4) (eA:A = [76,72,1,0,0,0] ++ D) (lB:B.length = 10) (gB:B[5]? = some 1) (lC:Cc.length = 17) (gC:(Cc.drop 3).take 10 = [2,2,97,0,0,200,1,0,0,0]):CallsT PZ 9 [] [] (Ret [] (.bool true)):=by
 refine callsT_facts Tryz.func9 facts9 rfl fun hw _ => ?_
 refine callP ha rfl fun _ => ?_
 refine callP hb rfl fun _ => ?_
 refine callP h18 rfl fun _ => ?_
 refine callP hc rfl fun _ => ?_
 refine callP h18 rfl fun _ => ?_
 refine callP he rfl fun _ => ?_
 refine callP hd rfl fun _ => ?_
 refine callP hd2 rfl fun _ => ?_
 refine callP hd3 rfl fun _ => ?_
 refine callP h13d rfl fun _ => ?_
 refine bytesE _ rfl ?_
 refine callPD h19 rfl fun _ => ?_
 refine ⟨by rw [bcells_len]; omega,bcells_sz (bs:=[76,72,1,0,0,0]),appB 6 rfl (by omega) ?_⟩
 refine bytesE ([76,72,1,0,0,0] ++ D) rfl ?_
 refine brn_split (fun q => ?_) (fun q => ?_)
 ·refine brn_p (fun q1 => ?_) (fun q1 => absurd (show ((bcells B).length:Int) = 10 by rw [bcells_len,lB]; rfl) q1)
  refine idxB (k:=5) gB ?_
  refine brn_p (fun q2 => ?_) (fun q2 => absurd (show ((bcells Cc).length:Int) = 17 by rw [bcells_len,lC]; rfl) q2)
  refine SlcT.mk (by omega) (by omega) (by omega) bcells_sz ?_
  refine BytesT.mk ⟨(Cc.drop 3).take 10,bcells_slice Cc 3 10,?_⟩
  refine BytesT.mk ⟨[2,2,97,0,0,200,1,0,0,0],rfl,?_⟩
  refine brn_split (fun q3 => ?_) (fun q3 => ?_)
  ·refine callPD h18 rfl fun _ => ?_
   refine callPD hs rfl fun _ => ?_
   refine callPD hn rfl fun _ => ?_
   refine callPD h17 rfl fun _ => ?_
   exact retP rfl rfl
  ·exfalso
   rw [gC,streq_bytes,decide_eq_true rfl] at q3
   cases q3
 ·exfalso
  rw [eA,streq_bytes,decide_eq_true rfl] at q
  cases q
theorem t9:CallsT PZ 9 [] [] (Ret [] (.bool true)) :=
 t9w (encB img0) (encB ⟨[],[],-1⟩) (encB ⟨[exD],[],0⟩) (dig4 [76,72,1,0,0,0]) (encB exImg) exImg (h13a rfl) (h13b rfl) (h13c rfl) (t19 [76,72,1,0,0,0]) h13e h11a h11b h11c h13d t18 h16a h16b rfl encZ
  (by rw [encM]; rfl) (by rw [encM]; rfl) (by rw [encD]; rfl) (by rw [encD]; rfl)
abbrev WS:=List UInt8 × Bool
def numR (n:Int) (s:WS):WS:=if -1099511627776 ≤ n ∧ n ≤ 1099511627776 then (s.1 ++ vint (zz n),s.2) else (s.1,true)
def badR (b:Bool) (s:WS):WS:=(s.1,s.2 || b)
def lenR (n:Nat) (s:WS):WS:=numR n (badR (decide (400 < (n:Int))) s)
def bytesR (l:List UInt8) (s:WS):WS:=(s.1 ++ l,s.2)
def nameR (x:ByteArray) (s:WS):WS:=bytesR x.data.toList (numR x.size (badR (decide (200 < (x.size:Int))) s))
def eachR {α:Type} (f:α → WS → WS):List α → WS → WS
 | [],s => s
 | x :: l,s => match s.2 with | true => s | false => eachR f l (f x s)
def allR {α:Type} (f:α → WS → WS) (l:List α) (s:WS):WS:=l.foldl (fun s x => f x s) s
def listR {α:Type} (f:α → WS → WS) (l:List α) (s:WS):WS:=eachR f l (lenR l.length s)
def intsR (l:List Int) (s:WS):WS:=allR numR l (lenR l.length s)
def typR:Nat → Ty → WS → WS
 | 0,t,s => badR true (lenR t.args.length (numR t.id (numR t.kind s)))
 | d + 1,t,s => listR (typR d) t.args (numR t.id (numR t.kind s))
def fullR (t:Ty) (s:WS):WS:=typR 8 t s
def typesR (l:List Ty) (s:WS):WS:=listR fullR l s
def varR (v:Variant) (s:WS):WS:=typesR v.fields (nameR v.name s)
def dataR (d:Api.Data) (s:WS):WS:=listR varR d.variants (numR d.drop (numR d.params (numR d.module (nameR d.name s))))
def insR (x:Ins) (s:WS):WS:=typesR x.types (intsR x.args (numR x.n (numR x.b (numR x.a (numR x.dst (numR x.op s))))))
def blockR (b:Block) (s:WS):WS:=intsR b.fin.targets (numR b.fin.a (numR b.fin.kind (listR insR b.code s)))
def lentR (x:Lent) (s:WS):WS:=numR (bitI x.re) (numR (bitI x.excl) (numR x.slot s))
def slotR (x:Slot) (s:WS):WS:=listR lentR x.lent (numR x.flag (numR x.var (fullR x.type (numR x.state s))))
def slotsR (l:List Slot) (s:WS):WS:=listR slotR l s
def routR (r:Rout) (s:WS):WS:=listR slotsR r.entry (listR blockR r.blocks (numR r.slots (intsR r.ties (fullR r.result (typesR r.params (nameR r.name s))))))
def imgR (i:Img) (s:WS):WS:=numR i.main (listR routR i.routs (listR dataR i.datas s))
structure Sim (f:WS → WS) (e:Enc):Prop where
 ok:∀ s,s.2 = false → e.2 = true → f s = (s.1 ++ e.1,false)
 bad:∀ s,s.2 = true ∨ e.2 = false → (f s).2 = true
theorem Sim.comp {f g:WS → WS} {a b:Enc} (h:Sim f a) (k:Sim g b):Sim (fun s => g (f s)) (andE a b):=by
 refine ⟨fun s hs he => ?_,fun s hs => ?_⟩
 ·obtain ⟨ha,hb⟩:=andE_t.1 he
  show g (f s) = _
  rw [h.ok s hs ha,k.ok _ rfl hb,andE_1 ha,List.append_assoc]
 ·rcases hs with hs | hs
  ·exact k.bad _ (.inl (h.bad s (.inl hs)))
  ·simp only [andE] at hs
   cases ha:a.2 with
   | false => exact k.bad _ (.inl (h.bad s (.inr ha)))
   | true =>
    rw [ha,Bool.true_and] at hs
    exact k.bad _ (.inr hs)
theorem Sim.cmp {f g f':WS → WS} {a b e':Enc} (h:Sim f a) (k:Sim g b) (hf:f' = fun s => g (f s):=by rfl) (he:e' = andE a b:=by rfl):Sim f' e':=by
 subst hf he
 exact Sim.comp h k
theorem Sim.id:Sim (fun s => s) okE:=⟨fun s hs _ => by simp [okE,← hs],fun s hs => by rcases hs with hs | hs; exact hs; cases hs⟩
theorem numR_sim (n:Int):Sim (numR n) (numE n):=by
 unfold numE
 by_cases h:-1099511627776 ≤ n ∧ n ≤ 1099511627776
 ·rw [if_pos h]
  refine ⟨fun s hs _ => ?_,fun s hs => ?_⟩
  ·rw [numR,if_pos h,hs]
  ·rcases hs with hs | hs
   ·rw [numR,if_pos h]; exact hs
   ·cases hs
 ·rw [if_neg h]
  refine ⟨fun s hs he => (by cases he),fun s hs => ?_⟩
  rw [numR,if_neg h]
theorem badR_sim {p q:Bool} (h:q = !p):Sim (badR p) (chkE q):=by
 subst h
 refine ⟨fun s hs he => ?_,fun s hs => ?_⟩
 ·have he:(!p) = true:=he
  have:p = false:=by simpa using he
  subst this
  simp [badR,chkE,hs]
 ·rcases hs with hs | hs
  ·simp [badR,hs]
  ·have hs:(!p) = false:=hs
   have:p = true:=by simpa using hs
   simp [badR,this]
theorem bytesR_sim (l:List UInt8):Sim (bytesR l) (l,true):=by
 refine ⟨fun s hs _ => ?_,fun s hs => ?_⟩
 ·simp [bytesR,hs]
 ·rcases hs with hs | hs
  ·exact hs
  ·cases hs
theorem eachR_sim {α:Type} {f:α → WS → WS} {e:α → Enc}:∀ (l:List α),(∀ x ∈ l,Sim (f x) (e x)) → Sim (eachR f l) (eachE e l)
 | [],_ => Sim.id
 | x :: l,h => by
  have h1:=h x (List.mem_cons_self ..)
  have h2:=eachR_sim l fun y hy => h y (List.mem_cons_of_mem _ hy)
  have h3:=Sim.cmp h1 h2
  refine ⟨fun s hs he => ?_,fun s hs => ?_⟩
  ·rw [eachR,hs]
   exact h3.ok s hs he
  ·rw [eachR]
   cases hs2:s.2 with
   | true => exact hs2
   | false => exact h3.bad s (hs.imp id id)
theorem allR_sim {α:Type} {f:α → WS → WS} {e:α → Enc}:∀ (l:List α),(∀ x ∈ l,Sim (f x) (e x)) → Sim (allR f l) (eachE e l)
 | [],_ => Sim.id
 | x :: l,h => by
  have h1:=h x (List.mem_cons_self ..)
  have h2:=allR_sim l fun y hy => h y (List.mem_cons_of_mem _ hy)
  exact Sim.cmp h1 h2
theorem one_sim (n:Int):Sim (numR n) (numsE [n]):=Sim.cmp (numR_sim n) Sim.id
theorem lenR_sim (n:Nat):Sim (lenR n) (andE (chkE (decide (n ≤ 400))) (numsE [(n:Int)])) :=
 Sim.cmp (badR_sim (p:=decide (400 < (n:Int))) (q:=decide (n ≤ 400)) (by
  by_cases h:n ≤ 400
  ·rw [decide_eq_true h,decide_eq_false (by omega)]; rfl
  ·rw [decide_eq_false h,decide_eq_true (by omega)]; rfl)) (one_sim n)
theorem Sim.to {f:WS → WS} {a b:Enc} (h:Sim f a) (e:a = b):Sim f b:=e ▸ h
theorem listR_sim {α:Type} {f:α → WS → WS} {e:α → Enc} (l:List α) (h:∀ x ∈ l,Sim (f x) (e x)):Sim (listR f l) (listE e l) :=
 (Sim.cmp (lenR_sim l.length) (eachR_sim l h)).to (andE_assoc ..)
theorem intsR_sim (l:List Int):Sim (intsR l) (intsE l) :=
 (Sim.cmp (lenR_sim l.length) (allR_sim (e:=fun n => numsE [n]) l fun x _ => one_sim x)).to (andE_assoc ..)
theorem nameR_sim (x:ByteArray):Sim (nameR x) (nameE x) :=
 (Sim.cmp (Sim.cmp (badR_sim (p:=decide (200 < (x.size:Int))) (q:=decide (x.size ≤ 200)) (by
  by_cases h:x.size ≤ 200
  ·rw [decide_eq_true h,decide_eq_false (by omega)]; rfl
  ·rw [decide_eq_false h,decide_eq_true (by omega)]; rfl)) (one_sim x.size)) (bytesR_sim x.data.toList)).to (andE_assoc ..)
theorem nums2 (a b:Int):Sim (fun s => numR b (numR a s)) (numsE [a,b]):=Sim.cmp (numR_sim a) (one_sim b)
theorem typR_sim:∀ (d:Nat) (t:Ty),Sim (typR d t) (typE d t)
 | 0,t => by
  refine ⟨fun s hs he => (by cases he),fun s _ => ?_⟩
  simp [typR,badR]
 | d + 1,t => Sim.cmp (nums2 t.kind t.id) (listR_sim t.args fun x _ => typR_sim d x)
theorem fullR_sim (t:Ty):Sim (fullR t) (fullE t):=typR_sim 8 t
theorem typesR_sim (l:List Ty):Sim (typesR l) (typesE l):=listR_sim l fun x _ => fullR_sim x
theorem varR_sim (v:Variant):Sim (varR v) (varE v):=Sim.cmp (nameR_sim v.name) (typesR_sim v.fields)
theorem dataR_sim (d:Api.Data):Sim (dataR d) (dataE d) :=
 (Sim.cmp (Sim.cmp (nameR_sim d.name) (Sim.cmp (numR_sim d.module) (Sim.cmp (numR_sim d.params) (one_sim d.drop)))) (listR_sim d.variants fun x _ => varR_sim x)).to (andE_assoc ..)
theorem insR_sim (x:Ins):Sim (insR x) (insE x) :=
 (Sim.cmp (Sim.cmp (Sim.cmp (numR_sim x.op) (Sim.cmp (numR_sim x.dst) (Sim.cmp (numR_sim x.a) (Sim.cmp (numR_sim x.b) (one_sim x.n))))) (intsR_sim x.args)) (typesR_sim x.types)).to (andE_assoc ..)
theorem blockR_sim (b:Block):Sim (blockR b) (blockE b) :=
 (Sim.cmp (Sim.cmp (listR_sim b.code fun x _ => insR_sim x) (nums2 b.fin.kind b.fin.a)) (intsR_sim b.fin.targets)).to (andE_assoc ..)
theorem lentR_sim (x:Lent):Sim (lentR x) (lentE x):=Sim.cmp (numR_sim x.slot) (nums2 (bitI x.excl) (bitI x.re))
theorem slotR_sim (x:Slot):Sim (slotR x) (slotE x) :=
 (Sim.cmp (Sim.cmp (Sim.cmp (one_sim x.state) (fullR_sim x.type)) (nums2 x.var x.flag)) (listR_sim x.lent fun y _ => lentR_sim y)).to ((andE_assoc ..).trans (andE_assoc ..))
theorem slotsR_sim (l:List Slot):Sim (slotsR l) (slotsE l):=listR_sim l fun x _ => slotR_sim x
theorem routR_sim (r:Rout):Sim (routR r) (routE r) :=
 Sim.cmp (nameR_sim r.name) (Sim.cmp (typesR_sim r.params) (Sim.cmp (fullR_sim r.result) (Sim.cmp (intsR_sim r.ties) (Sim.cmp (one_sim r.slots) (Sim.cmp (listR_sim r.blocks fun x _ => blockR_sim x) (listR_sim r.entry fun x _ => slotsR_sim x))))))
theorem imgR_sim (i:Img):Sim (imgR i) (imgE i) :=
 Sim.cmp (listR_sim i.datas fun x _ => dataR_sim x) (Sim.cmp (listR_sim i.routs fun x _ => routR_sim x) (one_sim i.main))
def encR (i:Img):List UInt8:=match (imgR i ([76,72,1],false)).2 with | true => [] | false => sealB (imgR i ([76,72,1],false)).1
theorem encR_eq (i:Img):encR i = encB i:=by
 have h:=imgR_sim i
 unfold encR encB
 cases he:(imgE i).2 with
 | true => rw [h.ok _ rfl he]
 | false => rw [h.bad _ (.inr he)]
structure Grow (f:WS → WS) (n:Nat):Prop where
 lo:∀ s,s.1.length ≤ (f s).1.length
 hi:∀ s,(f s).1.length ≤ s.1.length + n
theorem Grow.comp {f g:WS → WS} {a b:Nat} (h:Grow f a) (k:Grow g b):Grow (fun s => g (f s)) (a + b) :=
 ⟨fun s => Nat.le_trans (h.lo s) (k.lo (f s)),fun s => by have h1:=h.hi s; have h2:=k.hi (f s); omega⟩
theorem Grow.mono {f:WS → WS} {a b:Nat} (h:Grow f a) (hab:a ≤ b):Grow f b:=⟨h.lo,fun s => by have:=h.hi s; omega⟩
theorem numR_g (n:Int):Grow (numR n) 6:=by
 have:=numE_len n
 unfold numE at this
 refine ⟨fun s => ?_,fun s => ?_⟩ <;> unfold numR <;> split <;> rename_i h
 ·simp
 ·simp
 ·rw [if_pos h] at this
  simp only [List.length_append]
  simp only at this
  omega
 ·simp
theorem badR_g (b:Bool):Grow (badR b) 0:=⟨fun s => by simp [badR],fun s => by simp [badR]⟩
theorem lenR_g (n:Nat):Grow (lenR n) 6:=(badR_g _).comp (numR_g n)
theorem bytesR_g (l:List UInt8):Grow (bytesR l) l.length:=⟨fun s => by simp [bytesR],fun s => by simp [bytesR]⟩
theorem nameR_g (x:ByteArray):Grow (nameR x) (6 + x.size):=by
 have:=((badR_g (decide (200 < (x.size:Int)))).comp (numR_g x.size)).comp (bytesR_g x.data.toList)
 exact this.mono (by simp)
theorem eachR_g {α:Type} {f:α → WS → WS} {g:α → G}:∀ (l:List α),(∀ x ∈ l,Grow (f x) (6 * (g x).bulk)) → Grow (eachR f l) (6 * G.bulkAll (l.map g))
 | [],_ => ⟨fun s => Nat.le_refl _,fun s => by simp [eachR]⟩
 | x :: l,h => by
  have h1:=h x (List.mem_cons_self ..)
  have h2:=eachR_g l fun y hy => h y (List.mem_cons_of_mem _ hy)
  have h3:=h1.comp h2
  refine ⟨fun s => ?_,fun s => ?_⟩ <;> rw [eachR] <;> split
  ·exact Nat.le_refl _
  ·exact h3.lo s
  ·omega
  ·have:=h3.hi s
   simp only [List.map_cons,G.bulkAll]
   omega
theorem allR_g {α:Type} {f:α → WS → WS} {n:Nat}:∀ (l:List α),(∀ x ∈ l,Grow (f x) n) → Grow (allR f l) (n * l.length)
 | [],_ => ⟨fun s => Nat.le_refl _,fun s => by simp [allR]⟩
 | x :: l,h => by
  have h1:=h x (List.mem_cons_self ..)
  have h2:=allR_g l fun y hy => h y (List.mem_cons_of_mem _ hy)
  have h3:=h1.comp h2
  exact h3.mono (by rw [List.length_cons,Nat.mul_add]; omega)
theorem listR_g {α:Type} {f:α → WS → WS} {g:α → G} (n:Nat) (l:List α) (h:∀ x ∈ l,Grow (f x) (6 * (g x).bulk)):Grow (listR f l) (6 * (G.sl n (l.map g)).bulk) :=
 ((lenR_g l.length).comp (eachR_g l h)).mono (by simp only [G.bulk]; omega)
theorem intsR_g (l:List Int):Grow (intsR l) (6 * (G.sl 1 (l.map I)).bulk) :=
 ((lenR_g l.length).comp (allR_g (n:=6) l fun x _ => numR_g x)).mono (by
  have:=bulk_map (f:=I) l
  simp only [G.bulk]; omega)
theorem typR_g:∀ (d:Nat) (t:Ty),Grow (typR d t) (6 * t.g.bulk)
 | 0,.mk k i l => (((numR_g k).comp (numR_g i)).comp ((lenR_g l.length).comp (badR_g true))).mono (by simp only [Ty.g,G.bulk,G.bulkAll]; omega)
 | d + 1,.mk k i l => (((numR_g k).comp (numR_g i)).comp (listR_g 3 l fun x _ => typR_g d x)).mono (by simp only [Ty.g,G.bulk,G.bulkAll,Ty.gs_map]; omega)
theorem fullR_g (t:Ty):Grow (fullR t) (6 * t.g.bulk):=typR_g 8 t
theorem typesR_g (l:List Ty):Grow (typesR l) (6 * (G.sl 3 (l.map Ty.g)).bulk):=listR_g 3 l fun x _ => fullR_g x
theorem varR_g (v:Variant):Grow (varR v) (6 * v.g.bulk):=((nameR_g v.name).comp (typesR_g v.fields)).mono (by simp only [Variant.g,G.bulk,G.bulkAll]; omega)
theorem dataR_g (d:Api.Data):Grow (dataR d) (6 * d.g.bulk) :=
 ((nameR_g d.name).comp ((numR_g d.module).comp ((numR_g d.params).comp ((numR_g d.drop).comp (listR_g 2 d.variants fun x _ => varR_g x))))).mono (by simp only [Data.g,G.bulk,G.bulkAll]; omega)
theorem insR_g (x:Ins):Grow (insR x) (6 * x.g.bulk) :=
 ((numR_g x.op).comp ((numR_g x.dst).comp ((numR_g x.a).comp ((numR_g x.b).comp ((numR_g x.n).comp ((intsR_g x.args).comp (typesR_g x.types))))))).mono (by simp only [Ins.g,G.bulk,G.bulkAll]; omega)
theorem blockR_g (b:Block):Grow (blockR b) (6 * b.g.bulk) :=
 ((listR_g 7 b.code fun x _ => insR_g x).comp ((numR_g b.fin.kind).comp ((numR_g b.fin.a).comp (intsR_g b.fin.targets)))).mono (by simp only [Block.g,Term.g,G.bulk,G.bulkAll]; omega)
theorem lentR_g (x:Lent):Grow (lentR x) (6 * (lentG x).bulk) :=
 ((numR_g x.slot).comp ((numR_g (bitI x.excl)).comp (numR_g (bitI x.re)))).mono (by simp only [lentG,G.bulk,G.bulkAll]; omega)
theorem slotR_g (x:Slot):Grow (slotR x) (6 * (slotG x).bulk) :=
 ((numR_g x.state).comp ((fullR_g x.type).comp ((numR_g x.var).comp ((numR_g x.flag).comp (listR_g 3 x.lent fun y _ => lentR_g y))))).mono (by simp only [slotG,G.bulk,G.bulkAll]; omega)
theorem slotsR_g (l:List Slot):Grow (slotsR l) (6 * (slotsG l).bulk):=listR_g 7 l fun x _ => slotR_g x
theorem routR_g (r:Rout):Grow (routR r) (6 * (routG r).bulk) :=
 ((nameR_g r.name).comp ((typesR_g r.params).comp ((fullR_g r.result).comp ((intsR_g r.ties).comp ((numR_g r.slots).comp ((listR_g 4 r.blocks fun x _ => blockR_g x).comp (listR_g 1 r.entry fun x _ => slotsR_g x))))))).mono (by simp only [routG,G.bulk,G.bulkAll]; omega)
theorem imgR_g (i:Img):Grow (imgR i) (6 * (imgG i).bulk) :=
 ((listR_g 5 i.datas fun x _ => dataR_g x).comp ((listR_g 9 i.routs fun x _ => routR_g x).comp (numR_g i.main))).mono (by simp only [imgG,G.bulk,G.bulkAll]; omega)
end Go.Fr.Tryz
