/- Part of the proofs of the statements of this seat. -/
import Derived.Test.YtfkgdgfmkocloaaGreatDoorImT2G
import Derived.Test.YtfkgdgfmkocloaaGreatDoorImCode
import Derived.Test.YtfkgdgfmkocloaaGreatDoorImP4G
set_option linter.unusedVariables false
set_option linter.unusedSimpArgs false
namespace Go.Fr.Tryz
open Go Go.RowKit Go.Proofs Go.Fr Go.Fr.T Go.Fr.Api

noncomputable def tru (p : Prop) : Bool := @decide p (Classical.propDecidable p)
theorem tru_iff {p : Prop} : tru p = true ↔ p := by unfold tru; exact @decide_eq_true_iff p (Classical.propDecidable p)
theorem tru_t {p : Prop} (h : tru p = true) : p := tru_iff.1 h
theorem tru_f {p : Prop} (h : tru p = false) : ¬ p := fun q => by rw [tru_iff.2 q] at h; cases h
theorem tru_no {p : Prop} (h : ¬ p) : false = tru p := by
  cases e : tru p with
  | true => exact absurd (tru_t e) h
  | false => rfl
theorem tru_yes {p : Prop} (h : p) : true = tru p := (tru_iff.2 h).symm
theorem tru_congr {p q : Prop} (h : p ↔ q) : tru p = tru q := by rw [show p = q from propext h]
theorem len_ne {α : Type} {a b : List α} (h : ¬ a.length = b.length) : a ≠ b := fun e => h (by rw [e])
theorem lists_eq {α : Type} {a b : List α} {n : Nat} (ha : a.length = n) (hb : b.length = n) (h : ∀ j < n, a[j]? = b[j]?) : a = b := by
  apply List.ext_getElem?
  intro i
  by_cases hi : i < n
  · exact h i hi
  · rw [List.getElem?_eq_none (by omega), List.getElem?_eq_none (by omega)]
theorem get_ne {α : Type} {a b : List α} {k : Nat} {x y : α} (h1 : a[k]? = some x) (h2 : b[k]? = some y) (h : x ≠ y) : a ≠ b := fun e => h (by rw [e, h2] at h1; injection h1 with h1; exact h1.symm)
theorem get_step {α : Type} {a b : List α} {k : Nat} {x y : α} (h : ∀ j < k, a[j]? = b[j]?) (h1 : a[k]? = some x) (h2 : b[k]? = some y) (e : x = y) : ∀ j < k + 1, a[j]? = b[j]? := by
  intro j hj
  by_cases hjk : j = k
  · rw [hjk, h1, h2, e]
  · exact h j (by omega)
theorem get_of {α : Type} {l : List α} {k : Nat} (h : k < l.length) : ∃ x, l[k]? = some x := ⟨l[k], List.getElem?_eq_getElem h⟩
theorem str_ext {a b : ByteArray} (h : a.data.toList = b.data.toList) : a = b := by
  cases a; cases b
  simp only at h
  rw [Array.toList_inj.1 h]
def EqOk (f : Nat) (args : List C) (p : Prop) : Prop := CallsT PZ f args [] (Ret [] (.bool (tru p)))
set_option maxRecDepth 10000 in
theorem t109 (a b : List (Int)) : EqOk 109 [.sl (ics a), .sl (ics b)] (a = b) := by
  refine callsT_facts Tryz.func109 facts109 rfl fun hw _ => ?_
  have ha : (ics a).length = a.length := by simp [ics]
  have hb : (ics b).length = b.length := by simp [ics]
  have hm : a.length ≤ 9223372036854775807 := by have := wf_len hw.1; rwa [ha] at this
  refine brn_split (fun hn => ?_) (fun hn => ?_)
  · have hn : ¬ a.length = b.length := fun e => by
      rw [ha, hb, e] at hn
      simp at hn
    exact retP rfl (congrArg C.bool (tru_no (len_ne hn)))
  have hn : a.length = b.length := by
    rw [ha, hb] at hn
    simp at hn
    omega
  refine loopN a.length 13 [] () (fun _ => []) (fun _ => []) (fun k _ => ∀ j < k, a[j]? = b[j]?) (fun j hj => absurd hj (by omega)) (same_keys rfl) trivial trivial (fun _ => rfl) (fun _ => rfl) ?_
  rintro k ⟨⟩ hk hinv _ _ _
  refine brn_p (fun hlt => ?_) (fun hge => ?_)
  · have hlt : k < a.length := by rw [ha] at hlt; omega
    obtain ⟨x, hx⟩ := get_of hlt
    obtain ⟨y, hy⟩ := get_of (l := b) (k := k) (by omega)
    refine idxI hx ?_
    refine idxI hy ?_
    refine brn_split (fun h => ?_) (fun h => ?_)
    · have h : ¬ x = y := by simpa using h
      exact retP rfl (congrArg C.bool (tru_no (get_ne hx hy h)))
    · have h : x = y := by simpa using h
      refine Fit.in64 (by omega) (by omega) ?_
      exact ⟨(k + 1, ()), ⟨hlt, get_step hinv hx hy h⟩, ⟨nextI, trivial⟩, trivial, nextM hlt⟩
  · have hge : ¬ k < a.length := by rw [ha] at hge; omega
    have : k = a.length := by omega
    subst this
    exact retP rfl (congrArg C.bool (tru_yes (lists_eq rfl hn.symm hinv)))
set_option maxRecDepth 10000 in
theorem t148 (a b : List (Lent)) : EqOk 148 [.sl (a.map lentC), .sl (b.map lentC)] (a = b) := by
  refine callsT_facts Tryz.func148 facts148 rfl fun hw _ => ?_
  have ha : (a.map lentC).length = a.length := by simp
  have hb : (b.map lentC).length = b.length := by simp
  have hm : a.length ≤ 9223372036854775807 := by have := wf_len hw.1; rwa [ha] at this
  refine brn_split (fun hn => ?_) (fun hn => ?_)
  · have hn : ¬ a.length = b.length := fun e => by
      rw [ha, hb, e] at hn
      simp at hn
    exact retP rfl (congrArg C.bool (tru_no (len_ne hn)))
  have hn : a.length = b.length := by
    rw [ha, hb] at hn
    simp at hn
    omega
  refine loopN a.length 13 [] () (fun _ => []) (fun _ => []) (fun k _ => ∀ j < k, a[j]? = b[j]?) (fun j hj => absurd hj (by omega)) (same_keys rfl) trivial trivial (fun _ => rfl) (fun _ => rfl) ?_
  rintro k ⟨⟩ hk hinv _ _ _
  refine brn_p (fun hlt => ?_) (fun hge => ?_)
  · have hlt : k < a.length := by rw [ha] at hlt; omega
    obtain ⟨x, hx⟩ := get_of hlt
    obtain ⟨y, hy⟩ := get_of (l := b) (k := k) (by omega)
    refine idxT hx rfl rfl ?_
    refine idxT hy rfl rfl ?_
    refine brn_split (fun h => ?_) (fun h => ?_)
    · have h : ¬ x = y := fun e => by subst e; simp [ngb] at h
      exact retP rfl (congrArg C.bool (tru_no (get_ne hx hy h)))
    · have h : x = y := by cases x; cases y; simp [ngb] at h; simp [h]
      refine Fit.in64 (by omega) (by omega) ?_
      exact ⟨(k + 1, ()), ⟨hlt, get_step hinv hx hy h⟩, ⟨nextI, trivial⟩, trivial, nextM hlt⟩
  · have hge : ¬ k < a.length := by rw [ha] at hge; omega
    have : k = a.length := by omega
    subst this
    exact retP rfl (congrArg C.bool (tru_yes (lists_eq rfl hn.symm hinv)))
set_option maxRecDepth 10000 in
theorem t141 (a b : List (Ty)) (hc : ∀ x ∈ a, ∀ y, EqOk 107 [tyA x, tyA y] (x = y)) : EqOk 141 [.sl (a.map tyC), .sl (b.map tyC), .fn 107 [] []] (a = b) := by
  refine callsT_facts Tryz.func141 facts141 rfl fun hw _ => ?_
  have ha : (a.map tyC).length = a.length := by simp
  have hb : (b.map tyC).length = b.length := by simp
  have hm : a.length ≤ 9223372036854775807 := by have := wf_len hw.1; rwa [ha] at this
  refine brn_split (fun hn => ?_) (fun hn => ?_)
  · have hn : ¬ a.length = b.length := fun e => by
      rw [ha, hb, e] at hn
      simp at hn
    exact retP rfl (congrArg C.bool (tru_no (len_ne hn)))
  have hn : a.length = b.length := by
    rw [ha, hb] at hn
    simp at hn
    omega
  refine loopN a.length 17 [] () (fun _ => []) (fun _ => []) (fun k _ => ∀ j < k, a[j]? = b[j]?) (fun j hj => absurd hj (by omega)) (same_keys rfl) trivial trivial (fun _ => rfl) (fun _ => rfl) ?_
  rintro k ⟨⟩ hk hinv _ _ _
  refine brn_p (fun hlt => ?_) (fun hge => ?_)
  · have hlt : k < a.length := by rw [ha] at hlt; omega
    obtain ⟨x, hx⟩ := get_of hlt
    obtain ⟨y, hy⟩ := get_of (l := b) (k := k) (by omega)
    refine idxTy hx ?_
    refine idxTy hy ?_
    refine callP (hc x (List.mem_of_getElem? hx) y) rfl fun _ => ?_
    refine brn_split (fun h => ?_) (fun h => ?_)
    · have h : ¬ x = y := tru_f (by simpa using h)
      exact retP rfl (congrArg C.bool (tru_no (get_ne hx hy h)))
    · have h : x = y := tru_t (by simpa using h)
      refine Fit.in64 (by omega) (by omega) ?_
      exact ⟨(k + 1, ()), ⟨hlt, get_step hinv hx hy h⟩, ⟨nextI, trivial⟩, trivial, nextM hlt⟩
  · have hge : ¬ k < a.length := by rw [ha] at hge; omega
    have : k = a.length := by omega
    subst this
    exact retP rfl (congrArg C.bool (tru_yes (lists_eq rfl hn.symm hinv)))
theorem t106 (a b : List (Ty)) (hc : ∀ x ∈ a, ∀ y, EqOk 107 [tyA x, tyA y] (x = y)) : EqOk 106 [.sl (a.map tyC), .sl (b.map tyC), .fn 107 [] []] (a = b) := by
  refine callsT_facts Tryz.func106 facts106 rfl fun hw _ => ?_
  refine callP (t141 a b hc) rfl fun _ => ?_
  exact retP rfl rfl
theorem ty_eq {x y : Ty} (h0 : x.kind = y.kind) (h1 : x.id = y.id) (h2 : x.args = y.args) : x = y := by
  cases x; cases y
  simp_all [Ty.kind, Ty.id, Ty.args]
theorem ty_lt {x t : Ty} (h : x ∈ t.args) : SizeOf.sizeOf x < SizeOf.sizeOf t := by
  cases t
  have := List.sizeOf_lt_of_mem h
  simp only [Ty.args] at this
  simp only [Ty.mk.sizeOf_spec]
  omega
set_option maxRecDepth 10000 in
theorem t107n : ∀ (n : Nat) (x y : Ty), SizeOf.sizeOf x < n → EqOk 107 [tyA x, tyA y] (x = y)
  | 0, x, y, h => absurd h (by omega)
  | n + 1, x, y, h => by
    have ih : ∀ z ∈ x.args, ∀ w, EqOk 107 [tyA z, tyA w] (z = w) := fun z hz w => t107n n z w (by have := ty_lt hz; omega)
    refine callsT_facts Tryz.func107 facts107 rfl fun hw _ => ?_
    refine brn_p (fun h0 => ?_) (fun h0 => retP rfl (congrArg C.bool (tru_no fun e => h0 (by rw [e]))))
    refine brn_p (fun h1 => ?_) (fun h1 => retP rfl (congrArg C.bool (tru_no fun e => h1 (by rw [e]))))
    refine callP (t106 x.args y.args ih) rfl fun _ => ?_
    exact retP rfl (congrArg C.bool (tru_congr ⟨fun h => ty_eq h0 h1 h, fun e => by rw [e]⟩))
theorem t107 (x y : Ty) : EqOk 107 [tyA x, tyA y] (x = y) := t107n _ x y (Nat.lt_succ_self _)
theorem t106a (a b : List Ty) : EqOk 106 [.sl (a.map tyC), .sl (b.map tyC), .fn 107 [] []] (a = b) := t106 a b fun x _ y => t107 x y
theorem var_eq {x y : Variant} (h0 : x.name = y.name) (h1 : x.fields = y.fields) : x = y := by
  rcases x with ⟨⟩
  rcases y with ⟨⟩
  simp_all
set_option maxRecDepth 10000 in
theorem t105 (x y : Variant) : EqOk 105 [.agg (variantC x), .agg (variantC y)] (x = y) := by
  refine callsT_facts Tryz.func105 facts105 rfl fun hw _ => ?_
  refine brn_p (fun h0 => ?_) (fun h0 => retP rfl (congrArg C.bool (tru_no fun e => h0 (by rw [e]))))
  refine callP (t106a x.fields y.fields) rfl fun _ => ?_
  exact retP rfl (congrArg C.bool (tru_congr ⟨fun h => var_eq (str_ext h0) h, fun e => by rw [e]⟩))
set_option maxRecDepth 10000 in
theorem t140 (a b : List (Variant)) (hc : ∀ x ∈ a, ∀ y, EqOk 105 [.agg (variantC x), .agg (variantC y)] (x = y)) : EqOk 140 [.sl (a.map variantC), .sl (b.map variantC), .fn 105 [] []] (a = b) := by
  refine callsT_facts Tryz.func140 facts140 rfl fun hw _ => ?_
  have ha : (a.map variantC).length = a.length := by simp
  have hb : (b.map variantC).length = b.length := by simp
  have hm : a.length ≤ 9223372036854775807 := by have := wf_len hw.1; rwa [ha] at this
  refine brn_split (fun hn => ?_) (fun hn => ?_)
  · have hn : ¬ a.length = b.length := fun e => by
      rw [ha, hb, e] at hn
      simp at hn
    exact retP rfl (congrArg C.bool (tru_no (len_ne hn)))
  have hn : a.length = b.length := by
    rw [ha, hb] at hn
    simp at hn
    omega
  refine loopN a.length 17 [] () (fun _ => []) (fun _ => []) (fun k _ => ∀ j < k, a[j]? = b[j]?) (fun j hj => absurd hj (by omega)) (same_keys rfl) trivial trivial (fun _ => rfl) (fun _ => rfl) ?_
  rintro k ⟨⟩ hk hinv _ _ _
  refine brn_p (fun hlt => ?_) (fun hge => ?_)
  · have hlt : k < a.length := by rw [ha] at hlt; omega
    obtain ⟨x, hx⟩ := get_of hlt
    obtain ⟨y, hy⟩ := get_of (l := b) (k := k) (by omega)
    refine idxT hx rfl rfl ?_
    refine idxT hy rfl rfl ?_
    refine callP (hc x (List.mem_of_getElem? hx) y) rfl fun _ => ?_
    refine brn_split (fun h => ?_) (fun h => ?_)
    · have h : ¬ x = y := tru_f (by simpa using h)
      exact retP rfl (congrArg C.bool (tru_no (get_ne hx hy h)))
    · have h : x = y := tru_t (by simpa using h)
      refine Fit.in64 (by omega) (by omega) ?_
      exact ⟨(k + 1, ()), ⟨hlt, get_step hinv hx hy h⟩, ⟨nextI, trivial⟩, trivial, nextM hlt⟩
  · have hge : ¬ k < a.length := by rw [ha] at hge; omega
    have : k = a.length := by omega
    subst this
    exact retP rfl (congrArg C.bool (tru_yes (lists_eq rfl hn.symm hinv)))
theorem t104 (a b : List (Variant)) (hc : ∀ x ∈ a, ∀ y, EqOk 105 [.agg (variantC x), .agg (variantC y)] (x = y)) : EqOk 104 [.sl (a.map variantC), .sl (b.map variantC), .fn 105 [] []] (a = b) := by
  refine callsT_facts Tryz.func104 facts104 rfl fun hw _ => ?_
  refine callP (t140 a b hc) rfl fun _ => ?_
  exact retP rfl rfl
theorem data_eq {x y : Api.Data} (h0 : x.name = y.name) (h1 : x.module = y.module) (h2 : x.params = y.params) (h3 : x.drop = y.drop) (h4 : x.variants = y.variants) : x = y := by
  rcases x with ⟨⟩
  rcases y with ⟨⟩
  simp_all
set_option maxRecDepth 10000 in
theorem t53 (x y : Api.Data) : EqOk 53 [.agg (dataC x), .agg (dataC y)] (x = y) := by
  refine callsT_facts Tryz.func53 facts53 rfl fun hw _ => ?_
  refine brn_p (fun h0 => ?_) (fun h0 => retP rfl (congrArg C.bool (tru_no fun e => h0 (by rw [e]))))
  refine brn_p (fun h1 => ?_) (fun h1 => retP rfl (congrArg C.bool (tru_no fun e => h1 (by rw [e]))))
  refine brn_p (fun h2 => ?_) (fun h2 => retP rfl (congrArg C.bool (tru_no fun e => h2 (by rw [e]))))
  refine brn_p (fun h3 => ?_) (fun h3 => retP rfl (congrArg C.bool (tru_no fun e => h3 (by rw [e]))))
  refine callP (t104 x.variants y.variants fun a _ b => t105 a b) rfl fun _ => ?_
  exact retP rfl (congrArg C.bool (tru_congr ⟨fun h => data_eq (str_ext h0) h1 h2 h3 h, fun e => by rw [e]⟩))
set_option maxRecDepth 10000 in
theorem t103 (a b : List (Api.Data)) (hc : ∀ x ∈ a, ∀ y, EqOk 53 [.agg (dataC x), .agg (dataC y)] (x = y)) : EqOk 103 [.sl (a.map dataC), .sl (b.map dataC), .fn 53 [] []] (a = b) := by
  refine callsT_facts Tryz.func103 facts103 rfl fun hw _ => ?_
  have ha : (a.map dataC).length = a.length := by simp
  have hb : (b.map dataC).length = b.length := by simp
  have hm : a.length ≤ 9223372036854775807 := by have := wf_len hw.1; rwa [ha] at this
  refine brn_split (fun hn => ?_) (fun hn => ?_)
  · have hn : ¬ a.length = b.length := fun e => by
      rw [ha, hb, e] at hn
      simp at hn
    exact retP rfl (congrArg C.bool (tru_no (len_ne hn)))
  have hn : a.length = b.length := by
    rw [ha, hb] at hn
    simp at hn
    omega
  refine loopN a.length 17 [] () (fun _ => []) (fun _ => []) (fun k _ => ∀ j < k, a[j]? = b[j]?) (fun j hj => absurd hj (by omega)) (same_keys rfl) trivial trivial (fun _ => rfl) (fun _ => rfl) ?_
  rintro k ⟨⟩ hk hinv _ _ _
  refine brn_p (fun hlt => ?_) (fun hge => ?_)
  · have hlt : k < a.length := by rw [ha] at hlt; omega
    obtain ⟨x, hx⟩ := get_of hlt
    obtain ⟨y, hy⟩ := get_of (l := b) (k := k) (by omega)
    refine idxT hx rfl rfl ?_
    refine idxT hy rfl rfl ?_
    refine callP (hc x (List.mem_of_getElem? hx) y) rfl fun _ => ?_
    refine brn_split (fun h => ?_) (fun h => ?_)
    · have h : ¬ x = y := tru_f (by simpa using h)
      exact retP rfl (congrArg C.bool (tru_no (get_ne hx hy h)))
    · have h : x = y := tru_t (by simpa using h)
      refine Fit.in64 (by omega) (by omega) ?_
      exact ⟨(k + 1, ()), ⟨hlt, get_step hinv hx hy h⟩, ⟨nextI, trivial⟩, trivial, nextM hlt⟩
  · have hge : ¬ k < a.length := by rw [ha] at hge; omega
    have : k = a.length := by omega
    subst this
    exact retP rfl (congrArg C.bool (tru_yes (lists_eq rfl hn.symm hinv)))
theorem t52 (a b : List (Api.Data)) (hc : ∀ x ∈ a, ∀ y, EqOk 53 [.agg (dataC x), .agg (dataC y)] (x = y)) : EqOk 52 [.sl (a.map dataC), .sl (b.map dataC), .fn 53 [] []] (a = b) := by
  refine callsT_facts Tryz.func52 facts52 rfl fun hw _ => ?_
  refine callP (t103 a b hc) rfl fun _ => ?_
  exact retP rfl rfl
theorem ins_eq {x y : Ins} (h0 : x.op = y.op) (h1 : x.dst = y.dst) (h2 : x.a = y.a) (h3 : x.b = y.b) (h4 : x.n = y.n) (h5 : x.args = y.args) (h6 : x.types = y.types) : x = y := by
  rcases x with ⟨⟩
  rcases y with ⟨⟩
  simp_all
set_option maxRecDepth 10000 in
theorem t144 (x y : Ins) : EqOk 144 [.agg (insC x), .agg (insC y)] (x = y) := by
  refine callsT_facts Tryz.func144 facts144 rfl fun hw _ => ?_
  refine brn_p (fun h0 => ?_) (fun h0 => retP rfl (congrArg C.bool (tru_no fun e => h0 (by rw [e]))))
  refine brn_p (fun h1 => ?_) (fun h1 => retP rfl (congrArg C.bool (tru_no fun e => h1 (by rw [e]))))
  refine brn_p (fun h2 => ?_) (fun h2 => retP rfl (congrArg C.bool (tru_no fun e => h2 (by rw [e]))))
  refine brn_p (fun h3 => ?_) (fun h3 => retP rfl (congrArg C.bool (tru_no fun e => h3 (by rw [e]))))
  refine brn_p (fun h4 => ?_) (fun h4 => retP rfl (congrArg C.bool (tru_no fun e => h4 (by rw [e]))))
  refine callP (t109 x.args y.args) rfl fun _ => ?_
  refine brn_split (fun h5 => ?_) (fun h5 => retP rfl (congrArg C.bool (tru_no fun e => tru_f h5 (by rw [e]))))
  refine callP (t106a x.types y.types) rfl fun _ => ?_
  exact retP rfl (congrArg C.bool (tru_congr ⟨fun h => ins_eq h0 h1 h2 h3 h4 (tru_t h5) h, fun e => by rw [e]⟩))
set_option maxRecDepth 10000 in
theorem t151 (a b : List (Ins)) (hc : ∀ x ∈ a, ∀ y, EqOk 144 [.agg (insC x), .agg (insC y)] (x = y)) : EqOk 151 [.sl (a.map insC), .sl (b.map insC), .fn 144 [] []] (a = b) := by
  refine callsT_facts Tryz.func151 facts151 rfl fun hw _ => ?_
  have ha : (a.map insC).length = a.length := by simp
  have hb : (b.map insC).length = b.length := by simp
  have hm : a.length ≤ 9223372036854775807 := by have := wf_len hw.1; rwa [ha] at this
  refine brn_split (fun hn => ?_) (fun hn => ?_)
  · have hn : ¬ a.length = b.length := fun e => by
      rw [ha, hb, e] at hn
      simp at hn
    exact retP rfl (congrArg C.bool (tru_no (len_ne hn)))
  have hn : a.length = b.length := by
    rw [ha, hb] at hn
    simp at hn
    omega
  refine loopN a.length 17 [] () (fun _ => []) (fun _ => []) (fun k _ => ∀ j < k, a[j]? = b[j]?) (fun j hj => absurd hj (by omega)) (same_keys rfl) trivial trivial (fun _ => rfl) (fun _ => rfl) ?_
  rintro k ⟨⟩ hk hinv _ _ _
  refine brn_p (fun hlt => ?_) (fun hge => ?_)
  · have hlt : k < a.length := by rw [ha] at hlt; omega
    obtain ⟨x, hx⟩ := get_of hlt
    obtain ⟨y, hy⟩ := get_of (l := b) (k := k) (by omega)
    refine idxT hx rfl rfl ?_
    refine idxT hy rfl rfl ?_
    refine callP (hc x (List.mem_of_getElem? hx) y) rfl fun _ => ?_
    refine brn_split (fun h => ?_) (fun h => ?_)
    · have h : ¬ x = y := tru_f (by simpa using h)
      exact retP rfl (congrArg C.bool (tru_no (get_ne hx hy h)))
    · have h : x = y := tru_t (by simpa using h)
      refine Fit.in64 (by omega) (by omega) ?_
      exact ⟨(k + 1, ()), ⟨hlt, get_step hinv hx hy h⟩, ⟨nextI, trivial⟩, trivial, nextM hlt⟩
  · have hge : ¬ k < a.length := by rw [ha] at hge; omega
    have : k = a.length := by omega
    subst this
    exact retP rfl (congrArg C.bool (tru_yes (lists_eq rfl hn.symm hinv)))
theorem t143 (a b : List (Ins)) (hc : ∀ x ∈ a, ∀ y, EqOk 144 [.agg (insC x), .agg (insC y)] (x = y)) : EqOk 143 [.sl (a.map insC), .sl (b.map insC), .fn 144 [] []] (a = b) := by
  refine callsT_facts Tryz.func143 facts143 rfl fun hw _ => ?_
  refine callP (t151 a b hc) rfl fun _ => ?_
  exact retP rfl rfl
theorem block_eq {x y : Block} (h0 : x.code = y.code) (h1 : x.fin.kind = y.fin.kind) (h2 : x.fin.a = y.fin.a) (h3 : x.fin.targets = y.fin.targets) : x = y := by
  rcases x with ⟨c, ⟨⟩⟩
  rcases y with ⟨c, ⟨⟩⟩
  simp_all
set_option maxRecDepth 10000 in
theorem t111 (x y : Block) : EqOk 111 [.agg (blockC x), .agg (blockC y)] (x = y) := by
  refine callsT_facts Tryz.func111 facts111 rfl fun hw _ => ?_
  refine callP (t143 x.code y.code fun a _ b => t144 a b) rfl fun _ => ?_
  refine brn_split (fun h0 => ?_) (fun h0 => retP rfl (congrArg C.bool (tru_no fun e => tru_f h0 (by rw [e]))))
  refine brn_p (fun h1 => ?_) (fun h1 => retP rfl (congrArg C.bool (tru_no fun e => h1 (by rw [e]))))
  refine brn_p (fun h2 => ?_) (fun h2 => retP rfl (congrArg C.bool (tru_no fun e => h2 (by rw [e]))))
  refine callP (t109 x.fin.targets y.fin.targets) rfl fun _ => ?_
  exact retP rfl (congrArg C.bool (tru_congr ⟨fun h => block_eq (tru_t h0) h1 h2 h, fun e => by rw [e]⟩))
set_option maxRecDepth 10000 in
theorem t142 (a b : List (Block)) (hc : ∀ x ∈ a, ∀ y, EqOk 111 [.agg (blockC x), .agg (blockC y)] (x = y)) : EqOk 142 [.sl (a.map blockC), .sl (b.map blockC), .fn 111 [] []] (a = b) := by
  refine callsT_facts Tryz.func142 facts142 rfl fun hw _ => ?_
  have ha : (a.map blockC).length = a.length := by simp
  have hb : (b.map blockC).length = b.length := by simp
  have hm : a.length ≤ 9223372036854775807 := by have := wf_len hw.1; rwa [ha] at this
  refine brn_split (fun hn => ?_) (fun hn => ?_)
  · have hn : ¬ a.length = b.length := fun e => by
      rw [ha, hb, e] at hn
      simp at hn
    exact retP rfl (congrArg C.bool (tru_no (len_ne hn)))
  have hn : a.length = b.length := by
    rw [ha, hb] at hn
    simp at hn
    omega
  refine loopN a.length 17 [] () (fun _ => []) (fun _ => []) (fun k _ => ∀ j < k, a[j]? = b[j]?) (fun j hj => absurd hj (by omega)) (same_keys rfl) trivial trivial (fun _ => rfl) (fun _ => rfl) ?_
  rintro k ⟨⟩ hk hinv _ _ _
  refine brn_p (fun hlt => ?_) (fun hge => ?_)
  · have hlt : k < a.length := by rw [ha] at hlt; omega
    obtain ⟨x, hx⟩ := get_of hlt
    obtain ⟨y, hy⟩ := get_of (l := b) (k := k) (by omega)
    refine idxT hx rfl rfl ?_
    refine idxT hy rfl rfl ?_
    refine callP (hc x (List.mem_of_getElem? hx) y) rfl fun _ => ?_
    refine brn_split (fun h => ?_) (fun h => ?_)
    · have h : ¬ x = y := tru_f (by simpa using h)
      exact retP rfl (congrArg C.bool (tru_no (get_ne hx hy h)))
    · have h : x = y := tru_t (by simpa using h)
      refine Fit.in64 (by omega) (by omega) ?_
      exact ⟨(k + 1, ()), ⟨hlt, get_step hinv hx hy h⟩, ⟨nextI, trivial⟩, trivial, nextM hlt⟩
  · have hge : ¬ k < a.length := by rw [ha] at hge; omega
    have : k = a.length := by omega
    subst this
    exact retP rfl (congrArg C.bool (tru_yes (lists_eq rfl hn.symm hinv)))
theorem t110 (a b : List (Block)) (hc : ∀ x ∈ a, ∀ y, EqOk 111 [.agg (blockC x), .agg (blockC y)] (x = y)) : EqOk 110 [.sl (a.map blockC), .sl (b.map blockC), .fn 111 [] []] (a = b) := by
  refine callsT_facts Tryz.func110 facts110 rfl fun hw _ => ?_
  refine callP (t142 a b hc) rfl fun _ => ?_
  exact retP rfl rfl
theorem slot_eq {x y : Slot} (h0 : x.state = y.state) (h1 : x.type = y.type) (h2 : x.var = y.var) (h3 : x.flag = y.flag) (h4 : x.lent = y.lent) : x = y := by
  rcases x with ⟨⟩
  rcases y with ⟨⟩
  simp_all
set_option maxRecDepth 10000 in
theorem t147 (x y : Slot) : EqOk 147 [.agg (slotC x), .agg (slotC y)] (x = y) := by
  refine callsT_facts Tryz.func147 facts147 rfl fun hw _ => ?_
  refine brn_p (fun h0 => ?_) (fun h0 => retP rfl (congrArg C.bool (tru_no fun e => h0 (by rw [e]))))
  refine callP (t107 x.type y.type) rfl fun _ => ?_
  refine brn_split (fun h1 => ?_) (fun h1 => retP rfl (congrArg C.bool (tru_no fun e => tru_f h1 (by rw [e]))))
  refine brn_p (fun h2 => ?_) (fun h2 => retP rfl (congrArg C.bool (tru_no fun e => h2 (by rw [e]))))
  refine brn_p (fun h3 => ?_) (fun h3 => retP rfl (congrArg C.bool (tru_no fun e => h3 (by rw [e]))))
  refine callP (t148 x.lent y.lent) rfl fun _ => ?_
  exact retP rfl (congrArg C.bool (tru_congr ⟨fun h => slot_eq h0 (tru_t h1) h2 h3 h, fun e => by rw [e]⟩))
set_option maxRecDepth 10000 in
theorem t152 (a b : List (Slot)) (hc : ∀ x ∈ a, ∀ y, EqOk 147 [.agg (slotC x), .agg (slotC y)] (x = y)) : EqOk 152 [.sl (a.map slotC), .sl (b.map slotC), .fn 147 [] []] (a = b) := by
  refine callsT_facts Tryz.func152 facts152 rfl fun hw _ => ?_
  have ha : (a.map slotC).length = a.length := by simp
  have hb : (b.map slotC).length = b.length := by simp
  have hm : a.length ≤ 9223372036854775807 := by have := wf_len hw.1; rwa [ha] at this
  refine brn_split (fun hn => ?_) (fun hn => ?_)
  · have hn : ¬ a.length = b.length := fun e => by
      rw [ha, hb, e] at hn
      simp at hn
    exact retP rfl (congrArg C.bool (tru_no (len_ne hn)))
  have hn : a.length = b.length := by
    rw [ha, hb] at hn
    simp at hn
    omega
  refine loopN a.length 17 [] () (fun _ => []) (fun _ => []) (fun k _ => ∀ j < k, a[j]? = b[j]?) (fun j hj => absurd hj (by omega)) (same_keys rfl) trivial trivial (fun _ => rfl) (fun _ => rfl) ?_
  rintro k ⟨⟩ hk hinv _ _ _
  refine brn_p (fun hlt => ?_) (fun hge => ?_)
  · have hlt : k < a.length := by rw [ha] at hlt; omega
    obtain ⟨x, hx⟩ := get_of hlt
    obtain ⟨y, hy⟩ := get_of (l := b) (k := k) (by omega)
    refine idxT hx rfl rfl ?_
    refine idxT hy rfl rfl ?_
    refine callP (hc x (List.mem_of_getElem? hx) y) rfl fun _ => ?_
    refine brn_split (fun h => ?_) (fun h => ?_)
    · have h : ¬ x = y := tru_f (by simpa using h)
      exact retP rfl (congrArg C.bool (tru_no (get_ne hx hy h)))
    · have h : x = y := tru_t (by simpa using h)
      refine Fit.in64 (by omega) (by omega) ?_
      exact ⟨(k + 1, ()), ⟨hlt, get_step hinv hx hy h⟩, ⟨nextI, trivial⟩, trivial, nextM hlt⟩
  · have hge : ¬ k < a.length := by rw [ha] at hge; omega
    have : k = a.length := by omega
    subst this
    exact retP rfl (congrArg C.bool (tru_yes (lists_eq rfl hn.symm hinv)))
theorem t146 (a b : List (Slot)) (hc : ∀ x ∈ a, ∀ y, EqOk 147 [.agg (slotC x), .agg (slotC y)] (x = y)) : EqOk 146 [.sl (a.map slotC), .sl (b.map slotC), .fn 147 [] []] (a = b) := by
  refine callsT_facts Tryz.func146 facts146 rfl fun hw _ => ?_
  refine callP (t152 a b hc) rfl fun _ => ?_
  exact retP rfl rfl
theorem t113 (a b : List Slot) : EqOk 113 [.sl (a.map slotC), .sl (b.map slotC)] (a = b) := by
  refine callsT_facts Tryz.func113 facts113 rfl fun hw _ => ?_
  refine callP (t146 a b fun x _ y => t147 x y) rfl fun _ => ?_
  exact retP rfl rfl
set_option maxRecDepth 10000 in
theorem t145 (a b : List (List Slot)) (hc : ∀ x ∈ a, ∀ y, EqOk 113 [.sl (x.map slotC), .sl (y.map slotC)] (x = y)) : EqOk 145 [.sl (a.map slotsC), .sl (b.map slotsC), .fn 113 [] []] (a = b) := by
  refine callsT_facts Tryz.func145 facts145 rfl fun hw _ => ?_
  have ha : (a.map slotsC).length = a.length := by simp
  have hb : (b.map slotsC).length = b.length := by simp
  have hm : a.length ≤ 9223372036854775807 := by have := wf_len hw.1; rwa [ha] at this
  refine brn_split (fun hn => ?_) (fun hn => ?_)
  · have hn : ¬ a.length = b.length := fun e => by
      rw [ha, hb, e] at hn
      simp at hn
    exact retP rfl (congrArg C.bool (tru_no (len_ne hn)))
  have hn : a.length = b.length := by
    rw [ha, hb] at hn
    simp at hn
    omega
  refine loopN a.length 17 [] () (fun _ => []) (fun _ => []) (fun k _ => ∀ j < k, a[j]? = b[j]?) (fun j hj => absurd hj (by omega)) (same_keys rfl) trivial trivial (fun _ => rfl) (fun _ => rfl) ?_
  rintro k ⟨⟩ hk hinv _ _ _
  refine brn_p (fun hlt => ?_) (fun hge => ?_)
  · have hlt : k < a.length := by rw [ha] at hlt; omega
    obtain ⟨x, hx⟩ := get_of hlt
    obtain ⟨y, hy⟩ := get_of (l := b) (k := k) (by omega)
    refine idxT hx rfl rfl ?_
    refine idxT hy rfl rfl ?_
    refine callP (hc x (List.mem_of_getElem? hx) y) rfl fun _ => ?_
    refine brn_split (fun h => ?_) (fun h => ?_)
    · have h : ¬ x = y := tru_f (by simpa using h)
      exact retP rfl (congrArg C.bool (tru_no (get_ne hx hy h)))
    · have h : x = y := tru_t (by simpa using h)
      refine Fit.in64 (by omega) (by omega) ?_
      exact ⟨(k + 1, ()), ⟨hlt, get_step hinv hx hy h⟩, ⟨nextI, trivial⟩, trivial, nextM hlt⟩
  · have hge : ¬ k < a.length := by rw [ha] at hge; omega
    have : k = a.length := by omega
    subst this
    exact retP rfl (congrArg C.bool (tru_yes (lists_eq rfl hn.symm hinv)))
theorem t112 (a b : List (List Slot)) (hc : ∀ x ∈ a, ∀ y, EqOk 113 [.sl (x.map slotC), .sl (y.map slotC)] (x = y)) : EqOk 112 [.sl (a.map slotsC), .sl (b.map slotsC), .fn 113 [] []] (a = b) := by
  refine callsT_facts Tryz.func112 facts112 rfl fun hw _ => ?_
  refine callP (t145 a b hc) rfl fun _ => ?_
  exact retP rfl rfl
theorem rout_eq {x y : Rout} (h0 : x.name = y.name) (h1 : x.params = y.params) (h2 : x.result = y.result) (h3 : x.ties = y.ties) (h4 : x.slots = y.slots) (h5 : x.blocks = y.blocks) (h6 : x.entry = y.entry) : x = y := by
  rcases x with ⟨⟩
  rcases y with ⟨⟩
  simp_all
set_option maxRecDepth 10000 in
theorem t55 (x y : Rout) : EqOk 55 [.agg (routC x), .agg (routC y)] (x = y) := by
  refine callsT_facts Tryz.func55 facts55 rfl fun hw _ => ?_
  refine brn_p (fun h0 => ?_) (fun h0 => retP rfl (congrArg C.bool (tru_no fun e => h0 (by rw [e]))))
  refine callP (t106a x.params y.params) rfl fun _ => ?_
  refine brn_split (fun h1 => ?_) (fun h1 => retP rfl (congrArg C.bool (tru_no fun e => tru_f h1 (by rw [e]))))
  refine callP (t107 x.result y.result) rfl fun _ => ?_
  refine brn_split (fun h2 => ?_) (fun h2 => retP rfl (congrArg C.bool (tru_no fun e => tru_f h2 (by rw [e]))))
  refine callP (t109 x.ties y.ties) rfl fun _ => ?_
  refine brn_split (fun h3 => ?_) (fun h3 => retP rfl (congrArg C.bool (tru_no fun e => tru_f h3 (by rw [e]))))
  refine brn_p (fun h4 => ?_) (fun h4 => retP rfl (congrArg C.bool (tru_no fun e => h4 (by rw [e]))))
  refine callP (t110 x.blocks y.blocks fun a _ b => t111 a b) rfl fun _ => ?_
  refine brn_split (fun h5 => ?_) (fun h5 => retP rfl (congrArg C.bool (tru_no fun e => tru_f h5 (by rw [e]))))
  refine callP (t112 x.entry y.entry fun a _ b => t113 a b) rfl fun _ => ?_
  exact retP rfl (congrArg C.bool (tru_congr ⟨fun h => rout_eq (str_ext h0) (tru_t h1) (tru_t h2) (tru_t h3) h4 (tru_t h5) h, fun e => by rw [e]⟩))
set_option maxRecDepth 10000 in
theorem t108 (a b : List (Rout)) (hc : ∀ x ∈ a, ∀ y, EqOk 55 [.agg (routC x), .agg (routC y)] (x = y)) : EqOk 108 [.sl (a.map routC), .sl (b.map routC), .fn 55 [] []] (a = b) := by
  refine callsT_facts Tryz.func108 facts108 rfl fun hw _ => ?_
  have ha : (a.map routC).length = a.length := by simp
  have hb : (b.map routC).length = b.length := by simp
  have hm : a.length ≤ 9223372036854775807 := by have := wf_len hw.1; rwa [ha] at this
  refine brn_split (fun hn => ?_) (fun hn => ?_)
  · have hn : ¬ a.length = b.length := fun e => by
      rw [ha, hb, e] at hn
      simp at hn
    exact retP rfl (congrArg C.bool (tru_no (len_ne hn)))
  have hn : a.length = b.length := by
    rw [ha, hb] at hn
    simp at hn
    omega
  refine loopN a.length 17 [] () (fun _ => []) (fun _ => []) (fun k _ => ∀ j < k, a[j]? = b[j]?) (fun j hj => absurd hj (by omega)) (same_keys rfl) trivial trivial (fun _ => rfl) (fun _ => rfl) ?_
  rintro k ⟨⟩ hk hinv _ _ _
  refine brn_p (fun hlt => ?_) (fun hge => ?_)
  · have hlt : k < a.length := by rw [ha] at hlt; omega
    obtain ⟨x, hx⟩ := get_of hlt
    obtain ⟨y, hy⟩ := get_of (l := b) (k := k) (by omega)
    refine idxT hx rfl rfl ?_
    refine idxT hy rfl rfl ?_
    refine callP (hc x (List.mem_of_getElem? hx) y) rfl fun _ => ?_
    refine brn_split (fun h => ?_) (fun h => ?_)
    · have h : ¬ x = y := tru_f (by simpa using h)
      exact retP rfl (congrArg C.bool (tru_no (get_ne hx hy h)))
    · have h : x = y := tru_t (by simpa using h)
      refine Fit.in64 (by omega) (by omega) ?_
      exact ⟨(k + 1, ()), ⟨hlt, get_step hinv hx hy h⟩, ⟨nextI, trivial⟩, trivial, nextM hlt⟩
  · have hge : ¬ k < a.length := by rw [ha] at hge; omega
    have : k = a.length := by omega
    subst this
    exact retP rfl (congrArg C.bool (tru_yes (lists_eq rfl hn.symm hinv)))
theorem t54 (a b : List (Rout)) (hc : ∀ x ∈ a, ∀ y, EqOk 55 [.agg (routC x), .agg (routC y)] (x = y)) : EqOk 54 [.sl (a.map routC), .sl (b.map routC), .fn 55 [] []] (a = b) := by
  refine callsT_facts Tryz.func54 facts54 rfl fun hw _ => ?_
  refine callP (t108 a b hc) rfl fun _ => ?_
  exact retP rfl rfl
theorem img_eq {x y : Img} (h0 : x.main = y.main) (h1 : x.datas = y.datas) (h2 : x.routs = y.routs) : x = y := by
  rcases x with ⟨⟩
  rcases y with ⟨⟩
  simp_all
set_option maxRecDepth 10000 in
theorem t16 (x y : Img) : EqOk 16 [.agg (imgC x), .agg (imgC y)] (x = y) := by
  refine callsT_facts Tryz.func16 facts16 rfl fun hw _ => ?_
  refine brn_p (fun h0 => ?_) (fun h0 => retP rfl (congrArg C.bool (tru_no fun e => h0 (by rw [e]))))
  refine callP (t52 x.datas y.datas fun a _ b => t53 a b) rfl fun _ => ?_
  refine brn_split (fun h1 => ?_) (fun h1 => retP rfl (congrArg C.bool (tru_no fun e => tru_f h1 (by rw [e]))))
  refine callP (t54 x.routs y.routs fun a _ b => t55 a b) rfl fun _ => ?_
  exact retP rfl (congrArg C.bool (tru_congr ⟨fun h => img_eq h0 (tru_t h1) h, fun e => by rw [e]⟩))
end Go.Fr.Tryz

set_option linter.unusedVariables false
set_option linter.unusedSimpArgs false
namespace Go.Fr.Tryz
open Go Go.RowKit Go.Proofs Go.Fr Go.Fr.T Go.Fr.Api

theorem wf_mem {α : Type} {f : α → List C} {l : List α} (h : Wf (.sl (l.map f))) {x : α} (hx : x ∈ l) : WfS (f x) := by
  simp only [Wf] at h
  exact WfSS_iff.1 h.2 _ (List.mem_map.2 ⟨x, hx, rfl⟩)
theorem lenM {α : Type} {f : α → List C} {l : List α} : (l.map f).length = l.length := by simp
end Go.Fr.Tryz

set_option linter.unusedVariables false
set_option linter.unusedSimpArgs false
namespace Go.Fr.Tryz
open Go Go.RowKit Go.Proofs Go.Fr Go.Fr.T Go.Fr.Api

def AnyI (f : Nat) (args : List C) : Prop := CallsT PZ f args [] (fun Mo v => Mo = [] ∧ ∃ n : Int, v = IC n)
section
variable {L : TL} {ρ : TEnv}
theorem callI {f : Nat} {args args' : List C} {K : TL → TEnv → C → Prop} (h : AnyI f args') (ha : (args.map fun c => c.canA.ren (toIn [] 1000)) = args') (k : ∀ n : Int, K L ρ (IC n)) : CallT PZ f args L ρ K := by
  subst ha
  exact ⟨[], [], [], L, [], _, .inl rfl, rfl, rfl, rfl, rfl, rfl, h, fun v Mo ⟨e1, n, e2⟩ hw _ => by subst e1 e2; exact ⟨rfl, k n⟩⟩
theorem callID {f : Nat} {args args' : List C} {K : TL → TEnv → C → Prop} {d : Option Nat} (h : AnyI f args') (ha : (args.map fun c => c.canA.ren (toIn [] 1000)) = args') (k : ∀ n : Int, K L ρ (IC n)) : CallDT PZ f args L ρ d K := by
  subst ha
  exact .frz _ h fun v Mo ⟨e1, n, e2⟩ hw => by subst e1 e2; exact ⟨rfl, k n⟩
theorem retI {Lin : List TO} {v : C} (n : Int) (hb : boxesAt Lin (List.range' 1000 Lin.length) [] = true) (e : v.canR.ren (toIn [] 1000) = IC n) : RetT Lin L v (fun Mo v => Mo = [] ∧ ∃ n : Int, v = IC n) :=
  ⟨[], [], L, v, v, [], rfl, .inl ⟨rfl, rfl⟩, rfl, rfl, hb, fun _ => ⟨rfl, n, e⟩⟩
end
set_option maxRecDepth 10000 in
theorem t59n : ∀ (n : Nat) (x : Ty) (l : Int), SizeOf.sizeOf x < n → AnyI 59 [tyA x, IC l]
  | 0, x, l, h => absurd h (by omega)
  | n + 1, x, l, h => by
    have ih : ∀ z ∈ x.args, ∀ m, AnyI 59 [tyA z, IC m] := fun z hz m => t59n n z m (by have := ty_lt hz; omega)
    refine callsT_facts Tryz.func59 facts59 rfl fun hw _ => ?_
    have hw1 : Wf (.sl (x.args.map tyC)) := by have h := hw.1; simp only [tyA, Wf, WfS] at h; exact h.2.2.1
    refine Fit.mk ?_
    refine Fit.mk ?_
    refine loopN x.args.length 5 [1] (_ : Int) (fun n => [IC n]) (fun _ => []) (fun _ _ => True) trivial (same_keys rfl) ⟨same_keys rfl, trivial⟩ trivial (fun _ => rfl) (fun _ => rfl) ?_
    rintro kA lA hkA _ _ _ _
    refine brn_p (fun ltA => ?_) (fun geA => ?_)
    · refine brn_p (fun gtA => ?_) (fun gtA => ?_)
      · have ltA : kA < x.args.length := by rw [lenM] at ltA; omega
        have mxA := wf_lenM hw1
        obtain ⟨xA, hxA⟩ := get_of ltA
        refine idxTy hxA ?_
        refine callI (ih xA (List.mem_of_getElem? hxA) _) rfl fun m => ?_
        refine Fit.in64 (by omega) (by omega) ?_
        exact ⟨(kA + 1, _), ⟨ltA, trivial⟩, ⟨nextI, ⟨same_keys rfl, trivial⟩⟩, trivial, nextM ltA⟩
      skip
      exact retI _ rfl rfl
    · skip
      exact retI _ rfl rfl
theorem t59 (x : Ty) (l : Int) : AnyI 59 [tyA x, IC l] := t59n _ x l (Nat.lt_succ_self _)
set_option maxRecDepth 10000 in
theorem t20 (a : List Ty) (l : Int) : AnyI 20 [.sl (a.map tyC), IC l] := by
  refine callsT_facts Tryz.func20 facts20 rfl fun hw _ => ?_
  refine Fit.mk ?_
  refine loopN a.length 5 [1] (_ : Int) (fun n => [IC n]) (fun _ => []) (fun _ _ => True) trivial (same_keys rfl) ⟨same_keys rfl, trivial⟩ trivial (fun _ => rfl) (fun _ => rfl) ?_
  rintro kA lA hkA _ _ _ _
  refine brn_p (fun ltA => ?_) (fun geA => ?_)
  · refine brn_p (fun gtA => ?_) (fun gtA => ?_)
    · have ltA : kA < a.length := by rw [lenM] at ltA; omega
      have mxA := wf_lenM hw.1
      obtain ⟨xA, hxA⟩ := get_of ltA
      refine idxTy hxA ?_
      refine callI (t59 xA _) rfl fun m => ?_
      refine Fit.in64 (by omega) (by omega) ?_
      exact ⟨(kA + 1, _), ⟨ltA, trivial⟩, ⟨nextI, ⟨same_keys rfl, trivial⟩⟩, trivial, nextM ltA⟩
    skip
    exact retI _ rfl rfl
  · skip
    exact retI _ rfl rfl
set_option maxRecDepth 10000 in
theorem t21 (x : Rout) (l : Int) : AnyI 21 [.agg (routC x), IC l] := by
  refine callsT_facts Tryz.func21 facts21 rfl fun hw _ => ?_
  have hw1 : Wf (.sl (x.blocks.map blockC)) := hw.1.2.2.2.2.2.2.2.1
  have hw2 : Wf (.sl (x.entry.map slotsC)) := hw.1.2.2.2.2.2.2.2.2.1
  refine Fit.mk ?_
  refine Fit.mk ?_
  refine Fit.mk ?_
  refine Fit.mk ?_
  refine callID (t59 x.result _) rfl fun m1 => ?_
  refine callID (t20 x.params _) rfl fun m2 => ?_
  refine loopN x.blocks.length 5 [1] (_ : Int) (fun n => [IC n]) (fun _ => []) (fun _ _ => True) trivial (same_keys rfl) ⟨same_keys rfl, trivial⟩ trivial (fun _ => rfl) (fun _ => rfl) ?_
  rintro kA lA hkA _ _ _ _
  refine brn_p (fun ltA => ?_) (fun geA => ?_)
  · refine brn_p (fun gtA => ?_) (fun gtA => ?_)
    · have ltA : kA < x.blocks.length := by rw [lenM] at ltA; omega
      have mxA := wf_lenM hw1
      obtain ⟨xA, hxA⟩ := get_of ltA
      have hwA : Wf (.sl (xA.code.map insC)) := (wf_mem hw1 (List.mem_of_getElem? hxA)).1
      refine idxT hxA rfl rfl ?_
      refine Fit.mk ?_
      refine idxT hxA rfl rfl ?_
      refine Fit.mk ?_
      refine loopN xA.code.length 6 [1] (_ : Int) (fun n => [IC n]) (fun _ => []) (fun _ _ => True) trivial (same_keys rfl) ⟨same_keys rfl, trivial⟩ trivial (fun _ => rfl) (fun _ => rfl) ?_
      rintro kB lB hkB _ _ _ _
      refine idxT hxA rfl rfl ?_
      refine brn_p (fun ltB => ?_) (fun geB => ?_)
      · refine brn_p (fun gtB => ?_) (fun gtB => ?_)
        · have ltB : kB < xA.code.length := by rw [lenM] at ltB; omega
          have mxB := wf_lenM hwA
          obtain ⟨xB, hxB⟩ := get_of ltB
          refine idxT hxA rfl rfl ?_
          refine idxT hxB rfl rfl ?_
          refine idxT hxA rfl rfl ?_
          refine idxT hxB rfl rfl ?_
          refine Fit.mk ?_
          refine callID (t20 xB.types _) rfl fun m3 => ?_
          refine Fit.in64 (by omega) (by omega) ?_
          exact ⟨(kB + 1, _), ⟨ltB, trivial⟩, ⟨nextI, ⟨same_keys rfl, trivial⟩⟩, trivial, nextM ltB⟩
        skip
        refine Fit.in64 (by omega) (by omega) ?_
        exact ⟨(kA + 1, _), ⟨ltA, trivial⟩, ⟨nextI, ⟨same_keys rfl, trivial⟩⟩, trivial, nextM ltA⟩
      · skip
        refine Fit.in64 (by omega) (by omega) ?_
        exact ⟨(kA + 1, _), ⟨ltA, trivial⟩, ⟨nextI, ⟨same_keys rfl, trivial⟩⟩, trivial, nextM ltA⟩
    skip
    refine loopN x.entry.length 7 [1] (_ : Int) (fun n => [IC n]) (fun _ => []) (fun _ _ => True) trivial (same_keys rfl) ⟨same_keys rfl, trivial⟩ trivial (fun _ => rfl) (fun _ => rfl) ?_
    rintro kC lC hkC _ _ _ _
    refine brn_p (fun ltC => ?_) (fun geC => ?_)
    · refine brn_p (fun gtC => ?_) (fun gtC => ?_)
      · have ltC : kC < x.entry.length := by rw [lenM] at ltC; omega
        have mxC := wf_lenM hw2
        obtain ⟨xC, hxC⟩ := get_of ltC
        have hwC : Wf (.sl (xC.map slotC)) := (wf_mem hw2 (List.mem_of_getElem? hxC)).1
        refine idxT hxC rfl rfl ?_
        refine Fit.mk ?_
        refine loopN xC.length 8 [1] (_ : Int) (fun n => [IC n]) (fun _ => []) (fun _ _ => True) trivial (same_keys rfl) ⟨same_keys rfl, trivial⟩ trivial (fun _ => rfl) (fun _ => rfl) ?_
        rintro kD lD hkD _ _ _ _
        refine idxT hxC rfl rfl ?_
        refine brn_p (fun ltD => ?_) (fun geD => ?_)
        · refine brn_p (fun gtD => ?_) (fun gtD => ?_)
          · have ltD : kD < xC.length := by rw [lenM] at ltD; omega
            have mxD := wf_lenM hwC
            obtain ⟨xD, hxD⟩ := get_of ltD
            refine idxT hxC rfl rfl ?_
            refine idxT hxD rfl rfl ?_
            refine idxT hxC rfl rfl ?_
            refine idxT hxD rfl rfl ?_
            refine Fit.mk ?_
            refine callID (t59 xD.type _) rfl fun m3 => ?_
            refine Fit.in64 (by omega) (by omega) ?_
            exact ⟨(kD + 1, _), ⟨ltD, trivial⟩, ⟨nextI, ⟨same_keys rfl, trivial⟩⟩, trivial, nextM ltD⟩
          skip
          refine Fit.in64 (by omega) (by omega) ?_
          exact ⟨(kC + 1, _), ⟨ltC, trivial⟩, ⟨nextI, ⟨same_keys rfl, trivial⟩⟩, trivial, nextM ltC⟩
        · skip
          refine Fit.in64 (by omega) (by omega) ?_
          exact ⟨(kC + 1, _), ⟨ltC, trivial⟩, ⟨nextI, ⟨same_keys rfl, trivial⟩⟩, trivial, nextM ltC⟩
      skip
      exact retI _ rfl rfl
    · skip
      exact retI _ rfl rfl
  · skip
    refine loopN x.entry.length 7 [1] (_ : Int) (fun n => [IC n]) (fun _ => []) (fun _ _ => True) trivial (same_keys rfl) ⟨same_keys rfl, trivial⟩ trivial (fun _ => rfl) (fun _ => rfl) ?_
    rintro kC lC hkC _ _ _ _
    refine brn_p (fun ltC => ?_) (fun geC => ?_)
    · refine brn_p (fun gtC => ?_) (fun gtC => ?_)
      · have ltC : kC < x.entry.length := by rw [lenM] at ltC; omega
        have mxC := wf_lenM hw2
        obtain ⟨xC, hxC⟩ := get_of ltC
        have hwC : Wf (.sl (xC.map slotC)) := (wf_mem hw2 (List.mem_of_getElem? hxC)).1
        refine idxT hxC rfl rfl ?_
        refine Fit.mk ?_
        refine loopN xC.length 8 [1] (_ : Int) (fun n => [IC n]) (fun _ => []) (fun _ _ => True) trivial (same_keys rfl) ⟨same_keys rfl, trivial⟩ trivial (fun _ => rfl) (fun _ => rfl) ?_
        rintro kD lD hkD _ _ _ _
        refine idxT hxC rfl rfl ?_
        refine brn_p (fun ltD => ?_) (fun geD => ?_)
        · refine brn_p (fun gtD => ?_) (fun gtD => ?_)
          · have ltD : kD < xC.length := by rw [lenM] at ltD; omega
            have mxD := wf_lenM hwC
            obtain ⟨xD, hxD⟩ := get_of ltD
            refine idxT hxC rfl rfl ?_
            refine idxT hxD rfl rfl ?_
            refine idxT hxC rfl rfl ?_
            refine idxT hxD rfl rfl ?_
            refine Fit.mk ?_
            refine callID (t59 xD.type _) rfl fun m3 => ?_
            refine Fit.in64 (by omega) (by omega) ?_
            exact ⟨(kD + 1, _), ⟨ltD, trivial⟩, ⟨nextI, ⟨same_keys rfl, trivial⟩⟩, trivial, nextM ltD⟩
          skip
          refine Fit.in64 (by omega) (by omega) ?_
          exact ⟨(kC + 1, _), ⟨ltC, trivial⟩, ⟨nextI, ⟨same_keys rfl, trivial⟩⟩, trivial, nextM ltC⟩
        · skip
          refine Fit.in64 (by omega) (by omega) ?_
          exact ⟨(kC + 1, _), ⟨ltC, trivial⟩, ⟨nextI, ⟨same_keys rfl, trivial⟩⟩, trivial, nextM ltC⟩
      skip
      exact retI _ rfl rfl
    · skip
      exact retI _ rfl rfl
set_option maxRecDepth 10000 in
theorem t10 (x : Img) : CallsT PZ 10 [.agg (imgC x)] [] (Such True) := by
  refine callsT_facts Tryz.func10 facts10 rfl fun hw _ => ?_
  have hw1 : Wf (.sl (x.datas.map dataC)) := hw.1.1
  have hw2 : Wf (.sl (x.routs.map routC)) := hw.1.2.1
  refine Fit.mk ?_
  refine Fit.mk ?_
  refine loopN x.datas.length 4 [3] (_ : Int) (fun n => [IC n]) (fun _ => []) (fun _ _ => True) trivial (same_keys rfl) ⟨same_keys rfl, trivial⟩ trivial (fun _ => rfl) (fun _ => rfl) ?_
  rintro kA lA hkA _ _ _ _
  refine brn_p (fun ltA => ?_) (fun geA => ?_)
  · refine brn_p (fun gtA => ?_) (fun gtA => ?_)
    · have ltA : kA < x.datas.length := by rw [lenM] at ltA; omega
      have mxA := wf_lenM hw1
      obtain ⟨xA, hxA⟩ := get_of ltA
      have hwA : Wf (.sl (xA.variants.map variantC)) := (wf_mem hw1 (List.mem_of_getElem? hxA)).2.2.2.1
      refine idxT hxA rfl rfl ?_
      refine Fit.mk ?_
      refine idxT hxA rfl rfl ?_
      refine Fit.mk ?_
      refine loopN xA.variants.length 5 [3] (_ : Int) (fun n => [IC n]) (fun _ => []) (fun _ _ => True) trivial (same_keys rfl) ⟨same_keys rfl, trivial⟩ trivial (fun _ => rfl) (fun _ => rfl) ?_
      rintro kB lB hkB _ _ _ _
      refine idxT hxA rfl rfl ?_
      refine brn_p (fun ltB => ?_) (fun geB => ?_)
      · refine brn_p (fun gtB => ?_) (fun gtB => ?_)
        · have ltB : kB < xA.variants.length := by rw [lenM] at ltB; omega
          have mxB := wf_lenM hwA
          obtain ⟨xB, hxB⟩ := get_of ltB
          refine idxT hxA rfl rfl ?_
          refine idxT hxB rfl rfl ?_
          refine idxT hxA rfl rfl ?_
          refine idxT hxB rfl rfl ?_
          refine Fit.mk ?_
          refine callID (t20 xB.fields _) rfl fun m3 => ?_
          refine Fit.in64 (by omega) (by omega) ?_
          exact ⟨(kB + 1, _), ⟨ltB, trivial⟩, ⟨nextI, ⟨same_keys rfl, trivial⟩⟩, trivial, nextM ltB⟩
        skip
        refine Fit.in64 (by omega) (by omega) ?_
        exact ⟨(kA + 1, _), ⟨ltA, trivial⟩, ⟨nextI, ⟨same_keys rfl, trivial⟩⟩, trivial, nextM ltA⟩
      · skip
        refine Fit.in64 (by omega) (by omega) ?_
        exact ⟨(kA + 1, _), ⟨ltA, trivial⟩, ⟨nextI, ⟨same_keys rfl, trivial⟩⟩, trivial, nextM ltA⟩
    skip
    refine loopN x.routs.length 6 [3] (_ : Int) (fun n => [IC n]) (fun _ => []) (fun _ _ => True) trivial (same_keys rfl) ⟨same_keys rfl, trivial⟩ trivial (fun _ => rfl) (fun _ => rfl) ?_
    rintro kC lC hkC _ _ _ _
    refine brn_p (fun ltC => ?_) (fun geC => ?_)
    · refine brn_p (fun gtC => ?_) (fun gtC => ?_)
      · have ltC : kC < x.routs.length := by rw [lenM] at ltC; omega
        have mxC := wf_lenM hw2
        obtain ⟨xC, hxC⟩ := get_of ltC
        refine idxT hxC rfl rfl ?_
        refine callI (t21 xC _) rfl fun m3 => ?_
        refine Fit.in64 (by omega) (by omega) ?_
        exact ⟨(kC + 1, _), ⟨ltC, trivial⟩, ⟨nextI, ⟨same_keys rfl, trivial⟩⟩, trivial, nextM ltC⟩
      skip
      exact retB _ rfl rfl fun _ => trivial
    · skip
      exact retB _ rfl rfl fun _ => trivial
  · skip
    refine loopN x.routs.length 6 [3] (_ : Int) (fun n => [IC n]) (fun _ => []) (fun _ _ => True) trivial (same_keys rfl) ⟨same_keys rfl, trivial⟩ trivial (fun _ => rfl) (fun _ => rfl) ?_
    rintro kC lC hkC _ _ _ _
    refine brn_p (fun ltC => ?_) (fun geC => ?_)
    · refine brn_p (fun gtC => ?_) (fun gtC => ?_)
      · have ltC : kC < x.routs.length := by rw [lenM] at ltC; omega
        have mxC := wf_lenM hw2
        obtain ⟨xC, hxC⟩ := get_of ltC
        refine idxT hxC rfl rfl ?_
        refine callI (t21 xC _) rfl fun m3 => ?_
        refine Fit.in64 (by omega) (by omega) ?_
        exact ⟨(kC + 1, _), ⟨ltC, trivial⟩, ⟨nextI, ⟨same_keys rfl, trivial⟩⟩, trivial, nextM ltC⟩
      skip
      exact retB _ rfl rfl fun _ => trivial
    · skip
      exact retB _ rfl rfl fun _ => trivial
end Go.Fr.Tryz

set_option linter.unusedVariables false
set_option linter.unusedSimpArgs false
namespace Go.Fr.Tryz
open Go Go.RowKit Go.Proofs Go.Fr Go.Fr.T Go.Fr.Api

def exR : Rout := ⟨⟨#[109, 97, 105, 110]⟩, [], .mk 1 0 [], [], 1, [⟨[⟨1, 0, 0, 0, 7, [], []⟩], ⟨4, 0, []⟩⟩], [[⟨0, .mk 0 0 [], -1, 0, []⟩]]⟩
def exD : Api.Data := ⟨⟨#[97]⟩, 0, 0, [], 100⟩
def exImg : Img := ⟨[exD], [exR], 0⟩
set_option maxRecDepth 10000 in
theorem t18 : CallsT PZ 18 [] [] (Ret [] (.agg (imgC exImg))) := by
  refine callsT_facts Tryz.func18 facts18 rfl fun hw _ => ?_
  exact retP rfl rfl
theorem vint_s {z : Nat} (h : z < 128) : vint z = [UInt8.ofNat z] := by rw [vint, dif_pos h]
theorem vint_l {z : Nat} (h : ¬ z < 128) : vint z = UInt8.ofNat (128 + z % 128) :: vint (z / 128) := by rw [vint, dif_neg h]
theorem numE_s {n : Int} {b : List UInt8} (h : -1099511627776 ≤ n ∧ n ≤ 1099511627776) (e : vint (zz n) = b) : numE n = (b, true) := by rw [numE, if_pos h, e]
theorem n0 : numE 0 = ([0], true) := numE_s (by decide) (vint_s (by decide))
theorem n1 : numE 1 = ([2], true) := numE_s (by decide) (vint_s (by decide))
theorem n1m : numE (-1) = ([1], true) := numE_s (by decide) (vint_s (by decide))
theorem n100 : numE 100 = ([200, 1], true) := numE_s (by decide) (by rw [show zz 100 = 200 by decide, vint_l (by decide), vint_s (by decide)]; rfl)
theorem nBig : numE 1099511627777 = ([], false) := by rw [numE, if_neg (by decide)]
theorem e0 : imgE img0 = ([0, 0, 0], true) := by
  simp only [imgE, img0, listE, eachE, numsE, List.length_nil, Int.natCast_zero, n0, chkE, andE, okE]; rfl
theorem e1 : imgE ⟨[], [], -1⟩ = ([0, 0, 1], true) := by
  simp only [imgE, img0, listE, eachE, numsE, List.length_nil, Int.natCast_zero, n0, n1m, chkE, andE, okE]; rfl
theorem e2 : imgE ⟨[exD], [], 0⟩ = ([2, 2, 97, 0, 0, 200, 1, 0, 0, 0], true) := by
  simp only [imgE, img0, listE, eachE, numsE, List.length_nil, List.length_cons, Int.natCast_zero, dataE, exD, nameE, n0, n100, chkE, andE, okE]
  have : ((ByteArray.mk #[97]).size : Int) = 1 := rfl
  simp only [this, show (((0 + 1 : Nat)) : Int) = 1 from rfl, n1]; rfl
theorem eBig : (imgE ⟨[], [], 1099511627777⟩).2 = false := by
  simp only [imgE, img0, listE, eachE, numsE, List.length_nil, Int.natCast_zero, n0, nBig, chkE, andE, okE]; rfl
theorem num_ok {n : Int} (h : -1099511627776 ≤ n ∧ n ≤ 1099511627776) : (numE n).2 = true := by rw [numE, if_pos h]
theorem each_ok {α : Type} {f : α → Enc} : ∀ {l : List α}, (∀ x ∈ l, (f x).2 = true) → (eachE f l).2 = true
  | [], _ => rfl
  | x :: l, h => andE_t.2 ⟨h x (List.mem_cons_self ..), each_ok fun y hy => h y (List.mem_cons_of_mem _ hy)⟩
theorem nums_ok {l : List Int} (h : ∀ n ∈ l, -1099511627776 ≤ n ∧ n ≤ 1099511627776) : (numsE l).2 = true := each_ok fun n hn => num_ok (h n hn)
theorem list_ok {α : Type} {f : α → Enc} {l : List α} (hl : l.length ≤ 400) (h : ∀ x ∈ l, (f x).2 = true) : (listE f l).2 = true :=
  andE_t.2 ⟨decide_eq_true hl, andE_t.2 ⟨nums_ok fun n hn => by rw [List.mem_singleton.1 hn]; omega, each_ok h⟩⟩
theorem name_ok {s : ByteArray} (h : s.size ≤ 200) : (nameE s).2 = true := andE_t.2 ⟨decide_eq_true h, andE_t.2 ⟨nums_ok fun n hn => by rw [List.mem_singleton.1 hn]; omega, rfl⟩⟩
theorem one_ok {α : Type} {f : α → Enc} {x : α} (h : (f x).2 = true) : (listE f [x]).2 = true := list_ok (by simp) fun y hy => by rw [List.mem_singleton.1 hy]; exact h
theorem nil_ok {α : Type} {f : α → Enc} : (listE f []).2 = true := list_ok (by simp) fun y hy => by cases hy
theorem leaf_ok {k i : Int} (h : ∀ n ∈ [k, i], -1099511627776 ≤ n ∧ n ≤ 1099511627776) : (fullE (.mk k i [])).2 = true := andE_t.2 ⟨nums_ok h, nil_ok⟩
theorem exD_ok : (dataE exD).2 = true := andE_t.2 ⟨name_ok (by decide), andE_t.2 ⟨nums_ok (by decide), nil_ok⟩⟩
theorem exR_ok : (routE exR).2 = true :=
  andE_t.2 ⟨name_ok (by decide), andE_t.2 ⟨nil_ok, andE_t.2 ⟨leaf_ok (by decide), andE_t.2 ⟨nil_ok, andE_t.2 ⟨nums_ok (by decide),
    andE_t.2 ⟨one_ok (andE_t.2 ⟨one_ok (andE_t.2 ⟨nums_ok (by decide), andE_t.2 ⟨nil_ok, nil_ok⟩⟩), andE_t.2 ⟨nums_ok (by decide), nil_ok⟩⟩),
      one_ok (f := slotsE) (one_ok (andE_t.2 ⟨nums_ok (by decide), andE_t.2 ⟨leaf_ok (by decide), andE_t.2 ⟨nums_ok (by decide), nil_ok⟩⟩⟩))⟩⟩⟩⟩⟩⟩
theorem ex_ok : (imgE exImg).2 = true := andE_t.2 ⟨one_ok exD_ok, andE_t.2 ⟨one_ok exR_ok, nums_ok (by decide)⟩⟩
theorem dgZ : dig4 [76, 72, 1, 0, 0, 0] ≠ [0, 0, 0, 0] := by decide +kernel
theorem encZ : encB img0 = [76, 72, 1, 0, 0, 0] ++ dig4 [76, 72, 1, 0, 0, 0] := by rw [encB, e0]; rfl
theorem encM : encB ⟨[], [], -1⟩ = [76, 72, 1, 0, 0, 1] ++ dig4 [76, 72, 1, 0, 0, 1] := by rw [encB, e1]; rfl
theorem encD : encB ⟨[exD], [], 0⟩ = [76, 72, 1, 2, 2, 97, 0, 0, 200, 1, 0, 0, 0] ++ dig4 [76, 72, 1, 2, 2, 97, 0, 0, 200, 1, 0, 0, 0] := by rw [encB, e2]; rfl
theorem encN : encB ⟨[], [], 1099511627777⟩ = [] := by rw [encB, eBig]
theorem dec3 : dec [76, 72, 1] = (img0, 16) := by rw [dec, if_pos (by decide)]
theorem dec10 : dec [76, 72, 1, 0, 0, 0, 0, 0, 0, 0] = (img0, 17) := by
  rw [dec, if_neg (by decide), if_neg (by decide), if_pos]
  intro h
  have h : [76, 72, 1, 0, 0, 0] ++ dig4 [76, 72, 1, 0, 0, 0] = [76, 72, 1, 0, 0, 0] ++ [0, 0, 0, 0] := h
  exact dgZ (List.append_cancel_left h)
theorem ex_len : (imgE exImg).1.length ≤ 1000 := by
  have := img_len exImg
  have e : (imgG exImg).bulk ≤ 100 := by decide +kernel
  omega
theorem h13a {A : List UInt8} (h : encB img0 = A) : CallsT PZ 13 [.agg (imgC img0)] [] (Ret [] (.sl (bcells A))) := h ▸ t13 img0 (by rw [e0]; decide)
theorem h13b {A : List UInt8} (h : encB ⟨[], [], -1⟩ = A) : CallsT PZ 13 [.agg (imgC ⟨[], [], -1⟩)] [] (Ret [] (.sl (bcells A))) := h ▸ t13 ⟨[], [], -1⟩ (by rw [e1]; decide)
theorem h13c {A : List UInt8} (h : encB ⟨[exD], [], 0⟩ = A) : CallsT PZ 13 [.agg (imgC ⟨[exD], [], 0⟩)] [] (Ret [] (.sl (bcells A))) := h ▸ t13 ⟨[exD], [], 0⟩ (by rw [e2]; decide)
theorem h13d : CallsT PZ 13 [.agg (imgC ⟨[], [], 1099511627777⟩)] [] (Ret [] (.sl (bcells []))) := encN ▸ t13 ⟨[], [], 1099511627777⟩ (by
  have := img_len ⟨[], [], 1099511627777⟩
  have e : (imgG ⟨[], [], 1099511627777⟩).bulk ≤ 100 := by decide +kernel
  omega)
theorem h13e : CallsT PZ 13 [.agg (imgC exImg)] [] (Ret [] (.sl (bcells (encB exImg)))) := t13 exImg (by have := ex_len; omega)
theorem enc_le {i : Img} {n : Nat} (h : (imgE i).1.length ≤ n) : (encB i).length ≤ n + 7 := by
  unfold encB
  split
  · rw [seal_len]; simp; omega
  · simp
theorem h11a : CallsT PZ 11 [.sl (bcells (encB exImg))] [] (Ret [] (decC (exImg, 0))) := dec_enc ex_ok ▸ t11 (encB exImg) (by have := enc_le ex_len; omega)
theorem h11b : CallsT PZ 11 [.sl (bcells [76, 72, 1])] [] (Ret [] (decC (img0, 16))) := dec3 ▸ t11 [76, 72, 1] (by decide)
theorem h11c : CallsT PZ 11 [.sl (bcells [76, 72, 1, 0, 0, 0, 0, 0, 0, 0])] [] (Ret [] (decC (img0, 17))) := dec10 ▸ t11 [76, 72, 1, 0, 0, 0, 0, 0, 0, 0] (by decide)
theorem ex_ne : exImg ≠ img0 := fun h => by
  have := congrArg (fun i : Img => i.datas.length) h
  simp [exImg, img0] at this
theorem h16a : CallsT PZ 16 [.agg (imgC exImg), .agg (imgC exImg)] [] (Ret [] (.bool true)) := tru_yes (p := exImg = exImg) rfl ▸ t16 exImg exImg
theorem h16b : CallsT PZ 16 [.agg (imgC exImg), .agg (imgC img0)] [] (Ret [] (.bool false)) := tru_no (p := exImg = img0) ex_ne ▸ t16 exImg img0
theorem h17 : CallsT PZ 17 [.sl (bcells [])] [] (Ret [] (IC 7)) := t17 []
end Go.Fr.Tryz

set_option linter.unusedVariables false
set_option linter.unusedSimpArgs false
namespace Go.Fr.Tryz
open Go Go.RowKit Go.Proofs Go.Fr Go.Fr.T Go.Fr.Api

theorem bytesE {els : List (List C)} {K : List UInt8 → Prop} (bs : List UInt8) (h : els = bcells bs) (k : K bs) : BytesT els K := ⟨bs, h, k⟩
set_option maxRecDepth 10000 in
theorem t9w (A B Cc D E : List UInt8) (X : Img) (ha : CallsT PZ 13 [.agg [.sl [], .sl [], IC 0]] [] (Ret [] (.sl (bcells A)))) (hb : CallsT PZ 13 [.agg [.sl [], .sl [], IC (-1)]] [] (Ret [] (.sl (bcells B))))
    (hc : CallsT PZ 13 [.agg [.sl (X.datas.map dataC), .sl [], IC 0]] [] (Ret [] (.sl (bcells Cc)))) (h19 : CallsT PZ 19 [.sl (bcells [76, 72, 1, 0, 0, 0])] [] (Ret [] (.sl (bcells D))))
    (he : CallsT PZ 13 [.agg (imgC X)] [] (Ret [] (.sl (bcells E)))) (hd : CallsT PZ 11 [.sl (bcells E)] [] (Ret [] (.tup [.agg (imgC X), IC 0])))
    (hd2 : CallsT PZ 11 [.sl (bcells [76, 72, 1])] [] (Ret [] (.tup [.agg [.sl [], .sl [], IC 0], IC 16]))) (hd3 : CallsT PZ 11 [.sl (bcells [76, 72, 1, 0, 0, 0, 0, 0, 0, 0])] [] (Ret [] (.tup [.agg [.sl [], .sl [], IC 0], IC 17])))
    (h13d : CallsT PZ 13 [.agg [.sl [], .sl [], IC 1099511627777]] [] (Ret [] (.sl (bcells []))))
    (h18 : CallsT PZ 18 [] [] (Ret [] (.agg (imgC X)))) (hs : CallsT PZ 16 [.agg (imgC X), .agg (imgC X)] [] (Ret [] (.bool true))) (hn : CallsT PZ 16 [.agg (imgC X), .agg [.sl [], .sl [], IC 0]] [] (Ret [] (.bool false)))
    (hDl : D.length = 4) (eA : A = [76, 72, 1, 0, 0, 0] ++ D) (lB : B.length = 10) (gB : B[5]? = some 1) (lC : Cc.length = 17) (gC : (Cc.drop 3).take 10 = [2, 2, 97, 0, 0, 200, 1, 0, 0, 0]) : CallsT PZ 9 [] [] (Ret [] (.bool true)) := by
  refine callsT_facts Tryz.func9 facts9 rfl fun hw _ => ?_
  refine callP ha rfl fun _ => ?_
  refine callP hb rfl fun _ => ?_
  refine callP h18 rfl fun _ => ?_
  refine callP hc rfl fun _ => ?_
  refine callP h18 rfl fun _ => ?_
  refine callP he rfl fun _ => ?_
  refine callP hd rfl fun _ => ?_
  refine callP hd2 rfl fun _ => ?_
  refine callP hd3 rfl fun _ => ?_
  refine callP h13d rfl fun _ => ?_
  refine bytesE _ rfl ?_
  refine callPD h19 rfl fun _ => ?_
  refine ⟨by rw [bcells_len]; omega, bcells_sz (bs := [76, 72, 1, 0, 0, 0]), appB 6 rfl (by omega) ?_⟩
  refine bytesE ([76, 72, 1, 0, 0, 0] ++ D) rfl ?_
  refine brn_split (fun q => ?_) (fun q => ?_)
  · refine brn_p (fun q1 => ?_) (fun q1 => absurd (show ((bcells B).length : Int) = 10 by rw [bcells_len, lB]; rfl) q1)
    refine idxB (k := 5) gB ?_
    refine brn_p (fun q2 => ?_) (fun q2 => absurd (show ((bcells Cc).length : Int) = 17 by rw [bcells_len, lC]; rfl) q2)
    refine SlcT.mk (by omega) (by omega) (by omega) bcells_sz ?_
    refine BytesT.mk ⟨(Cc.drop 3).take 10, bcells_slice Cc 3 10, ?_⟩
    refine BytesT.mk ⟨[2, 2, 97, 0, 0, 200, 1, 0, 0, 0], rfl, ?_⟩
    refine brn_split (fun q3 => ?_) (fun q3 => ?_)
    · refine callPD h18 rfl fun _ => ?_
      refine callPD hs rfl fun _ => ?_
      refine callPD hn rfl fun _ => ?_
      refine callPD h17 rfl fun _ => ?_
      exact retP rfl rfl
    · exfalso
      rw [gC, streq_bytes, decide_eq_true rfl] at q3
      cases q3
  · exfalso
    rw [eA, streq_bytes, decide_eq_true rfl] at q
    cases q
theorem t9 : CallsT PZ 9 [] [] (Ret [] (.bool true)) :=
  t9w (encB img0) (encB ⟨[], [], -1⟩) (encB ⟨[exD], [], 0⟩) (dig4 [76, 72, 1, 0, 0, 0]) (encB exImg) exImg (h13a rfl) (h13b rfl) (h13c rfl) (t19 [76, 72, 1, 0, 0, 0]) h13e h11a h11b h11c h13d t18 h16a h16b rfl encZ
    (by rw [encM]; rfl) (by rw [encM]; rfl) (by rw [encD]; rfl) (by rw [encD]; rfl)
end Go.Fr.Tryz

set_option linter.unusedVariables false
set_option linter.unusedSimpArgs false
namespace Go.Fr.Tryz
open Go Go.RowKit Go.Proofs Go.Fr Go.Fr.T Go.Fr.Api

end Go.Fr.Tryz
