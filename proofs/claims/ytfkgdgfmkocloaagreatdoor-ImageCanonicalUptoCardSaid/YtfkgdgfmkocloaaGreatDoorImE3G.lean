/- Part of the proofs of the statements of this seat. -/
import Derived.Test.YtfkgdgfmkocloaaGreatDoorImT2G
import Derived.Test.YtfkgdgfmkocloaaGreatDoorImCode
set_option linter.unusedVariables false
set_option linter.unusedSimpArgs false
namespace Go.Fr.Tryz
open Go Go.RowKit Go.Proofs Go.Fr Go.Fr.T Go.Fr.Api

noncomputable def tru (p : Prop) : Bool := @decide p (Classical.propDecidable p)
theorem tru_iff {p : Prop} : tru p = true ↔ p := by unfold tru; exact @decide_eq_true_iff p (Classical.propDecidable p)
theorem tru_t {p : Prop} (h : tru p = true) : p := tru_iff.1 h
theorem tru_f {p : Prop} (h : tru p = false) : ¬ p := fun q => by rw [tru_iff.2 q] at h; cases h
theorem tru_no {p : Prop} (h : ¬ p) : false = tru p := by
  cases e : tru p with
  | true => exact absurd (tru_t e) h
  | false => rfl
theorem tru_yes {p : Prop} (h : p) : true = tru p := (tru_iff.2 h).symm
theorem tru_congr {p q : Prop} (h : p ↔ q) : tru p = tru q := by rw [show p = q from propext h]
theorem len_ne {α : Type} {a b : List α} (h : ¬ a.length = b.length) : a ≠ b := fun e => h (by rw [e])
theorem lists_eq {α : Type} {a b : List α} {n : Nat} (ha : a.length = n) (hb : b.length = n) (h : ∀ j < n, a[j]? = b[j]?) : a = b := by
  apply List.ext_getElem?
  intro i
  by_cases hi : i < n
  · exact h i hi
  · rw [List.getElem?_eq_none (by omega), List.getElem?_eq_none (by omega)]
theorem get_ne {α : Type} {a b : List α} {k : Nat} {x y : α} (h1 : a[k]? = some x) (h2 : b[k]? = some y) (h : x ≠ y) : a ≠ b := fun e => h (by rw [e, h2] at h1; injection h1 with h1; exact h1.symm)
theorem get_step {α : Type} {a b : List α} {k : Nat} {x y : α} (h : ∀ j < k, a[j]? = b[j]?) (h1 : a[k]? = some x) (h2 : b[k]? = some y) (e : x = y) : ∀ j < k + 1, a[j]? = b[j]? := by
  intro j hj
  by_cases hjk : j = k
  · rw [hjk, h1, h2, e]
  · exact h j (by omega)
theorem get_of {α : Type} {l : List α} {k : Nat} (h : k < l.length) : ∃ x, l[k]? = some x := ⟨l[k], List.getElem?_eq_getElem h⟩
theorem str_ext {a b : ByteArray} (h : a.data.toList = b.data.toList) : a = b := by
  cases a; cases b
  simp only at h
  rw [Array.toList_inj.1 h]
def EqOk (f : Nat) (args : List C) (p : Prop) : Prop := CallsT PZ f args [] (Ret [] (.bool (tru p)))
set_option maxRecDepth 10000 in
theorem t109 (a b : List (Int)) : EqOk 109 [.sl (ics a), .sl (ics b)] (a = b) := by
  refine callsT_facts Tryz.func109 facts109 rfl fun hw _ => ?_
  have ha : (ics a).length = a.length := by simp [ics]
  have hb : (ics b).length = b.length := by simp [ics]
  have hm : a.length ≤ 9223372036854775807 := by have := wf_len hw.1; rwa [ha] at this
  refine brn_split (fun hn => ?_) (fun hn => ?_)
  · have hn : ¬ a.length = b.length := fun e => by
      rw [ha, hb, e] at hn
      simp at hn
    exact retP rfl (congrArg C.bool (tru_no (len_ne hn)))
  have hn : a.length = b.length := by
    rw [ha, hb] at hn
    simp at hn
    omega
  refine loopN a.length 13 [] () (fun _ => []) (fun _ => []) (fun k _ => ∀ j < k, a[j]? = b[j]?) (fun j hj => absurd hj (by omega)) (same_keys rfl) trivial trivial (fun _ => rfl) (fun _ => rfl) ?_
  rintro k ⟨⟩ hk hinv _ _ _
  refine brn_p (fun hlt => ?_) (fun hge => ?_)
  · have hlt : k < a.length := by rw [ha] at hlt; omega
    obtain ⟨x, hx⟩ := get_of hlt
    obtain ⟨y, hy⟩ := get_of (l := b) (k := k) (by omega)
    refine idxI hx ?_
    refine idxI hy ?_
    refine brn_split (fun h => ?_) (fun h => ?_)
    · have h : ¬ x = y := by simpa using h
      exact retP rfl (congrArg C.bool (tru_no (get_ne hx hy h)))
    · have h : x = y := by simpa using h
      refine Fit.in64 (by omega) (by omega) ?_
      exact ⟨(k + 1, ()), ⟨hlt, get_step hinv hx hy h⟩, ⟨nextI, trivial⟩, trivial, nextM hlt⟩
  · have hge : ¬ k < a.length := by rw [ha] at hge; omega
    have : k = a.length := by omega
    subst this
    exact retP rfl (congrArg C.bool (tru_yes (lists_eq rfl hn.symm hinv)))
set_option maxRecDepth 10000 in
theorem t148 (a b : List (Lent)) : EqOk 148 [.sl (a.map lentC), .sl (b.map lentC)] (a = b) := by
  refine callsT_facts Tryz.func148 facts148 rfl fun hw _ => ?_
  have ha : (a.map lentC).length = a.length := by simp
  have hb : (b.map lentC).length = b.length := by simp
  have hm : a.length ≤ 9223372036854775807 := by have := wf_len hw.1; rwa [ha] at this
  refine brn_split (fun hn => ?_) (fun hn => ?_)
  · have hn : ¬ a.length = b.length := fun e => by
      rw [ha, hb, e] at hn
      simp at hn
    exact retP rfl (congrArg C.bool (tru_no (len_ne hn)))
  have hn : a.length = b.length := by
    rw [ha, hb] at hn
    simp at hn
    omega
  refine loopN a.length 13 [] () (fun _ => []) (fun _ => []) (fun k _ => ∀ j < k, a[j]? = b[j]?) (fun j hj => absurd hj (by omega)) (same_keys rfl) trivial trivial (fun _ => rfl) (fun _ => rfl) ?_
  rintro k ⟨⟩ hk hinv _ _ _
  refine brn_p (fun hlt => ?_) (fun hge => ?_)
  · have hlt : k < a.length := by rw [ha] at hlt; omega
    obtain ⟨x, hx⟩ := get_of hlt
    obtain ⟨y, hy⟩ := get_of (l := b) (k := k) (by omega)
    refine idxT hx rfl rfl ?_
    refine idxT hy rfl rfl ?_
    refine brn_split (fun h => ?_) (fun h => ?_)
    · have h : ¬ x = y := fun e => by subst e; simp [ngb] at h
      exact retP rfl (congrArg C.bool (tru_no (get_ne hx hy h)))
    · have h : x = y := by cases x; cases y; simp [ngb] at h; simp [h]
      refine Fit.in64 (by omega) (by omega) ?_
      exact ⟨(k + 1, ()), ⟨hlt, get_step hinv hx hy h⟩, ⟨nextI, trivial⟩, trivial, nextM hlt⟩
  · have hge : ¬ k < a.length := by rw [ha] at hge; omega
    have : k = a.length := by omega
    subst this
    exact retP rfl (congrArg C.bool (tru_yes (lists_eq rfl hn.symm hinv)))
set_option maxRecDepth 10000 in
theorem t141 (a b : List (Ty)) (hc : ∀ x ∈ a, ∀ y, EqOk 107 [tyA x, tyA y] (x = y)) : EqOk 141 [.sl (a.map tyC), .sl (b.map tyC), .fn 107 [] []] (a = b) := by
  refine callsT_facts Tryz.func141 facts141 rfl fun hw _ => ?_
  have ha : (a.map tyC).length = a.length := by simp
  have hb : (b.map tyC).length = b.length := by simp
  have hm : a.length ≤ 9223372036854775807 := by have := wf_len hw.1; rwa [ha] at this
  refine brn_split (fun hn => ?_) (fun hn => ?_)
  · have hn : ¬ a.length = b.length := fun e => by
      rw [ha, hb, e] at hn
      simp at hn
    exact retP rfl (congrArg C.bool (tru_no (len_ne hn)))
  have hn : a.length = b.length := by
    rw [ha, hb] at hn
    simp at hn
    omega
  refine loopN a.length 17 [] () (fun _ => []) (fun _ => []) (fun k _ => ∀ j < k, a[j]? = b[j]?) (fun j hj => absurd hj (by omega)) (same_keys rfl) trivial trivial (fun _ => rfl) (fun _ => rfl) ?_
  rintro k ⟨⟩ hk hinv _ _ _
  refine brn_p (fun hlt => ?_) (fun hge => ?_)
  · have hlt : k < a.length := by rw [ha] at hlt; omega
    obtain ⟨x, hx⟩ := get_of hlt
    obtain ⟨y, hy⟩ := get_of (l := b) (k := k) (by omega)
    refine idxTy hx ?_
    refine idxTy hy ?_
    refine callP (hc x (List.mem_of_getElem? hx) y) rfl fun _ => ?_
    refine brn_split (fun h => ?_) (fun h => ?_)
    · have h : ¬ x = y := tru_f (by simpa using h)
      exact retP rfl (congrArg C.bool (tru_no (get_ne hx hy h)))
    · have h : x = y := tru_t (by simpa using h)
      refine Fit.in64 (by omega) (by omega) ?_
      exact ⟨(k + 1, ()), ⟨hlt, get_step hinv hx hy h⟩, ⟨nextI, trivial⟩, trivial, nextM hlt⟩
  · have hge : ¬ k < a.length := by rw [ha] at hge; omega
    have : k = a.length := by omega
    subst this
    exact retP rfl (congrArg C.bool (tru_yes (lists_eq rfl hn.symm hinv)))
theorem t106 (a b : List (Ty)) (hc : ∀ x ∈ a, ∀ y, EqOk 107 [tyA x, tyA y] (x = y)) : EqOk 106 [.sl (a.map tyC), .sl (b.map tyC), .fn 107 [] []] (a = b) := by
  refine callsT_facts Tryz.func106 facts106 rfl fun hw _ => ?_
  refine callP (t141 a b hc) rfl fun _ => ?_
  exact retP rfl rfl
theorem ty_eq {x y : Ty} (h0 : x.kind = y.kind) (h1 : x.id = y.id) (h2 : x.args = y.args) : x = y := by
  cases x; cases y
  simp_all [Ty.kind, Ty.id, Ty.args]
theorem ty_lt {x t : Ty} (h : x ∈ t.args) : SizeOf.sizeOf x < SizeOf.sizeOf t := by
  cases t
  have := List.sizeOf_lt_of_mem h
  simp only [Ty.args] at this
  simp only [Ty.mk.sizeOf_spec]
  omega
set_option maxRecDepth 10000 in
theorem t107n : ∀ (n : Nat) (x y : Ty), SizeOf.sizeOf x < n → EqOk 107 [tyA x, tyA y] (x = y)
  | 0, x, y, h => absurd h (by omega)
  | n + 1, x, y, h => by
    have ih : ∀ z ∈ x.args, ∀ w, EqOk 107 [tyA z, tyA w] (z = w) := fun z hz w => t107n n z w (by have := ty_lt hz; omega)
    refine callsT_facts Tryz.func107 facts107 rfl fun hw _ => ?_
    refine brn_p (fun h0 => ?_) (fun h0 => retP rfl (congrArg C.bool (tru_no fun e => h0 (by rw [e]))))
    refine brn_p (fun h1 => ?_) (fun h1 => retP rfl (congrArg C.bool (tru_no fun e => h1 (by rw [e]))))
    refine callP (t106 x.args y.args ih) rfl fun _ => ?_
    exact retP rfl (congrArg C.bool (tru_congr ⟨fun h => ty_eq h0 h1 h, fun e => by rw [e]⟩))
theorem t107 (x y : Ty) : EqOk 107 [tyA x, tyA y] (x = y) := t107n _ x y (Nat.lt_succ_self _)
theorem t106a (a b : List Ty) : EqOk 106 [.sl (a.map tyC), .sl (b.map tyC), .fn 107 [] []] (a = b) := t106 a b fun x _ y => t107 x y
theorem var_eq {x y : Variant} (h0 : x.name = y.name) (h1 : x.fields = y.fields) : x = y := by
  rcases x with ⟨⟩
  rcases y with ⟨⟩
  simp_all
set_option maxRecDepth 10000 in
theorem t105 (x y : Variant) : EqOk 105 [.agg (variantC x), .agg (variantC y)] (x = y) := by
  refine callsT_facts Tryz.func105 facts105 rfl fun hw _ => ?_
  refine brn_p (fun h0 => ?_) (fun h0 => retP rfl (congrArg C.bool (tru_no fun e => h0 (by rw [e]))))
  refine callP (t106a x.fields y.fields) rfl fun _ => ?_
  exact retP rfl (congrArg C.bool (tru_congr ⟨fun h => var_eq (str_ext h0) h, fun e => by rw [e]⟩))
set_option maxRecDepth 10000 in
theorem t140 (a b : List (Variant)) (hc : ∀ x ∈ a, ∀ y, EqOk 105 [.agg (variantC x), .agg (variantC y)] (x = y)) : EqOk 140 [.sl (a.map variantC), .sl (b.map variantC), .fn 105 [] []] (a = b) := by
  refine callsT_facts Tryz.func140 facts140 rfl fun hw _ => ?_
  have ha : (a.map variantC).length = a.length := by simp
  have hb : (b.map variantC).length = b.length := by simp
  have hm : a.length ≤ 9223372036854775807 := by have := wf_len hw.1; rwa [ha] at this
  refine brn_split (fun hn => ?_) (fun hn => ?_)
  · have hn : ¬ a.length = b.length := fun e => by
      rw [ha, hb, e] at hn
      simp at hn
    exact retP rfl (congrArg C.bool (tru_no (len_ne hn)))
  have hn : a.length = b.length := by
    rw [ha, hb] at hn
    simp at hn
    omega
  refine loopN a.length 17 [] () (fun _ => []) (fun _ => []) (fun k _ => ∀ j < k, a[j]? = b[j]?) (fun j hj => absurd hj (by omega)) (same_keys rfl) trivial trivial (fun _ => rfl) (fun _ => rfl) ?_
  rintro k ⟨⟩ hk hinv _ _ _
  refine brn_p (fun hlt => ?_) (fun hge => ?_)
  · have hlt : k < a.length := by rw [ha] at hlt; omega
    obtain ⟨x, hx⟩ := get_of hlt
    obtain ⟨y, hy⟩ := get_of (l := b) (k := k) (by omega)
    refine idxT hx rfl rfl ?_
    refine idxT hy rfl rfl ?_
    refine callP (hc x (List.mem_of_getElem? hx) y) rfl fun _ => ?_
    refine brn_split (fun h => ?_) (fun h => ?_)
    · have h : ¬ x = y := tru_f (by simpa using h)
      exact retP rfl (congrArg C.bool (tru_no (get_ne hx hy h)))
    · have h : x = y := tru_t (by simpa using h)
      refine Fit.in64 (by omega) (by omega) ?_
      exact ⟨(k + 1, ()), ⟨hlt, get_step hinv hx hy h⟩, ⟨nextI, trivial⟩, trivial, nextM hlt⟩
  · have hge : ¬ k < a.length := by rw [ha] at hge; omega
    have : k = a.length := by omega
    subst this
    exact retP rfl (congrArg C.bool (tru_yes (lists_eq rfl hn.symm hinv)))
theorem t104 (a b : List (Variant)) (hc : ∀ x ∈ a, ∀ y, EqOk 105 [.agg (variantC x), .agg (variantC y)] (x = y)) : EqOk 104 [.sl (a.map variantC), .sl (b.map variantC), .fn 105 [] []] (a = b) := by
  refine callsT_facts Tryz.func104 facts104 rfl fun hw _ => ?_
  refine callP (t140 a b hc) rfl fun _ => ?_
  exact retP rfl rfl
theorem data_eq {x y : Api.Data} (h0 : x.name = y.name) (h1 : x.module = y.module) (h2 : x.params = y.params) (h3 : x.drop = y.drop) (h4 : x.variants = y.variants) : x = y := by
  rcases x with ⟨⟩
  rcases y with ⟨⟩
  simp_all
set_option maxRecDepth 10000 in
theorem t53 (x y : Api.Data) : EqOk 53 [.agg (dataC x), .agg (dataC y)] (x = y) := by
  refine callsT_facts Tryz.func53 facts53 rfl fun hw _ => ?_
  refine brn_p (fun h0 => ?_) (fun h0 => retP rfl (congrArg C.bool (tru_no fun e => h0 (by rw [e]))))
  refine brn_p (fun h1 => ?_) (fun h1 => retP rfl (congrArg C.bool (tru_no fun e => h1 (by rw [e]))))
  refine brn_p (fun h2 => ?_) (fun h2 => retP rfl (congrArg C.bool (tru_no fun e => h2 (by rw [e]))))
  refine brn_p (fun h3 => ?_) (fun h3 => retP rfl (congrArg C.bool (tru_no fun e => h3 (by rw [e]))))
  refine callP (t104 x.variants y.variants fun a _ b => t105 a b) rfl fun _ => ?_
  exact retP rfl (congrArg C.bool (tru_congr ⟨fun h => data_eq (str_ext h0) h1 h2 h3 h, fun e => by rw [e]⟩))
set_option maxRecDepth 10000 in
theorem t103 (a b : List (Api.Data)) (hc : ∀ x ∈ a, ∀ y, EqOk 53 [.agg (dataC x), .agg (dataC y)] (x = y)) : EqOk 103 [.sl (a.map dataC), .sl (b.map dataC), .fn 53 [] []] (a = b) := by
  refine callsT_facts Tryz.func103 facts103 rfl fun hw _ => ?_
  have ha : (a.map dataC).length = a.length := by simp
  have hb : (b.map dataC).length = b.length := by simp
  have hm : a.length ≤ 9223372036854775807 := by have := wf_len hw.1; rwa [ha] at this
  refine brn_split (fun hn => ?_) (fun hn => ?_)
  · have hn : ¬ a.length = b.length := fun e => by
      rw [ha, hb, e] at hn
      simp at hn
    exact retP rfl (congrArg C.bool (tru_no (len_ne hn)))
  have hn : a.length = b.length := by
    rw [ha, hb] at hn
    simp at hn
    omega
  refine loopN a.length 17 [] () (fun _ => []) (fun _ => []) (fun k _ => ∀ j < k, a[j]? = b[j]?) (fun j hj => absurd hj (by omega)) (same_keys rfl) trivial trivial (fun _ => rfl) (fun _ => rfl) ?_
  rintro k ⟨⟩ hk hinv _ _ _
  refine brn_p (fun hlt => ?_) (fun hge => ?_)
  · have hlt : k < a.length := by rw [ha] at hlt; omega
    obtain ⟨x, hx⟩ := get_of hlt
    obtain ⟨y, hy⟩ := get_of (l := b) (k := k) (by omega)
    refine idxT hx rfl rfl ?_
    refine idxT hy rfl rfl ?_
    refine callP (hc x (List.mem_of_getElem? hx) y) rfl fun _ => ?_
    refine brn_split (fun h => ?_) (fun h => ?_)
    · have h : ¬ x = y := tru_f (by simpa using h)
      exact retP rfl (congrArg C.bool (tru_no (get_ne hx hy h)))
    · have h : x = y := tru_t (by simpa using h)
      refine Fit.in64 (by omega) (by omega) ?_
      exact ⟨(k + 1, ()), ⟨hlt, get_step hinv hx hy h⟩, ⟨nextI, trivial⟩, trivial, nextM hlt⟩
  · have hge : ¬ k < a.length := by rw [ha] at hge; omega
    have : k = a.length := by omega
    subst this
    exact retP rfl (congrArg C.bool (tru_yes (lists_eq rfl hn.symm hinv)))
theorem t52 (a b : List (Api.Data)) (hc : ∀ x ∈ a, ∀ y, EqOk 53 [.agg (dataC x), .agg (dataC y)] (x = y)) : EqOk 52 [.sl (a.map dataC), .sl (b.map dataC), .fn 53 [] []] (a = b) := by
  refine callsT_facts Tryz.func52 facts52 rfl fun hw _ => ?_
  refine callP (t103 a b hc) rfl fun _ => ?_
  exact retP rfl rfl
theorem ins_eq {x y : Ins} (h0 : x.op = y.op) (h1 : x.dst = y.dst) (h2 : x.a = y.a) (h3 : x.b = y.b) (h4 : x.n = y.n) (h5 : x.args = y.args) (h6 : x.types = y.types) : x = y := by
  rcases x with ⟨⟩
  rcases y with ⟨⟩
  simp_all
set_option maxRecDepth 10000 in
theorem t144 (x y : Ins) : EqOk 144 [.agg (insC x), .agg (insC y)] (x = y) := by
  refine callsT_facts Tryz.func144 facts144 rfl fun hw _ => ?_
  refine brn_p (fun h0 => ?_) (fun h0 => retP rfl (congrArg C.bool (tru_no fun e => h0 (by rw [e]))))
  refine brn_p (fun h1 => ?_) (fun h1 => retP rfl (congrArg C.bool (tru_no fun e => h1 (by rw [e]))))
  refine brn_p (fun h2 => ?_) (fun h2 => retP rfl (congrArg C.bool (tru_no fun e => h2 (by rw [e]))))
  refine brn_p (fun h3 => ?_) (fun h3 => retP rfl (congrArg C.bool (tru_no fun e => h3 (by rw [e]))))
  refine brn_p (fun h4 => ?_) (fun h4 => retP rfl (congrArg C.bool (tru_no fun e => h4 (by rw [e]))))
  refine callP (t109 x.args y.args) rfl fun _ => ?_
  refine brn_split (fun h5 => ?_) (fun h5 => retP rfl (congrArg C.bool (tru_no fun e => tru_f h5 (by rw [e]))))
  refine callP (t106a x.types y.types) rfl fun _ => ?_
  exact retP rfl (congrArg C.bool (tru_congr ⟨fun h => ins_eq h0 h1 h2 h3 h4 (tru_t h5) h, fun e => by rw [e]⟩))
set_option maxRecDepth 10000 in
theorem t151 (a b : List (Ins)) (hc : ∀ x ∈ a, ∀ y, EqOk 144 [.agg (insC x), .agg (insC y)] (x = y)) : EqOk 151 [.sl (a.map insC), .sl (b.map insC), .fn 144 [] []] (a = b) := by
  refine callsT_facts Tryz.func151 facts151 rfl fun hw _ => ?_
  have ha : (a.map insC).length = a.length := by simp
  have hb : (b.map insC).length = b.length := by simp
  have hm : a.length ≤ 9223372036854775807 := by have := wf_len hw.1; rwa [ha] at this
  refine brn_split (fun hn => ?_) (fun hn => ?_)
  · have hn : ¬ a.length = b.length := fun e => by
      rw [ha, hb, e] at hn
      simp at hn
    exact retP rfl (congrArg C.bool (tru_no (len_ne hn)))
  have hn : a.length = b.length := by
    rw [ha, hb] at hn
    simp at hn
    omega
  refine loopN a.length 17 [] () (fun _ => []) (fun _ => []) (fun k _ => ∀ j < k, a[j]? = b[j]?) (fun j hj => absurd hj (by omega)) (same_keys rfl) trivial trivial (fun _ => rfl) (fun _ => rfl) ?_
  rintro k ⟨⟩ hk hinv _ _ _
  refine brn_p (fun hlt => ?_) (fun hge => ?_)
  · have hlt : k < a.length := by rw [ha] at hlt; omega
    obtain ⟨x, hx⟩ := get_of hlt
    obtain ⟨y, hy⟩ := get_of (l := b) (k := k) (by omega)
    refine idxT hx rfl rfl ?_
    refine idxT hy rfl rfl ?_
    refine callP (hc x (List.mem_of_getElem? hx) y) rfl fun _ => ?_
    refine brn_split (fun h => ?_) (fun h => ?_)
    · have h : ¬ x = y := tru_f (by simpa using h)
      exact retP rfl (congrArg C.bool (tru_no (get_ne hx hy h)))
    · have h : x = y := tru_t (by simpa using h)
      refine Fit.in64 (by omega) (by omega) ?_
      exact ⟨(k + 1, ()), ⟨hlt, get_step hinv hx hy h⟩, ⟨nextI, trivial⟩, trivial, nextM hlt⟩
  · have hge : ¬ k < a.length := by rw [ha] at hge; omega
    have : k = a.length := by omega
    subst this
    exact retP rfl (congrArg C.bool (tru_yes (lists_eq rfl hn.symm hinv)))
theorem t143 (a b : List (Ins)) (hc : ∀ x ∈ a, ∀ y, EqOk 144 [.agg (insC x), .agg (insC y)] (x = y)) : EqOk 143 [.sl (a.map insC), .sl (b.map insC), .fn 144 [] []] (a = b) := by
  refine callsT_facts Tryz.func143 facts143 rfl fun hw _ => ?_
  refine callP (t151 a b hc) rfl fun _ => ?_
  exact retP rfl rfl
theorem block_eq {x y : Block} (h0 : x.code = y.code) (h1 : x.fin.kind = y.fin.kind) (h2 : x.fin.a = y.fin.a) (h3 : x.fin.targets = y.fin.targets) : x = y := by
  rcases x with ⟨c, ⟨⟩⟩
  rcases y with ⟨c, ⟨⟩⟩
  simp_all
set_option maxRecDepth 10000 in
theorem t111 (x y : Block) : EqOk 111 [.agg (blockC x), .agg (blockC y)] (x = y) := by
  refine callsT_facts Tryz.func111 facts111 rfl fun hw _ => ?_
  refine callP (t143 x.code y.code fun a _ b => t144 a b) rfl fun _ => ?_
  refine brn_split (fun h0 => ?_) (fun h0 => retP rfl (congrArg C.bool (tru_no fun e => tru_f h0 (by rw [e]))))
  refine brn_p (fun h1 => ?_) (fun h1 => retP rfl (congrArg C.bool (tru_no fun e => h1 (by rw [e]))))
  refine brn_p (fun h2 => ?_) (fun h2 => retP rfl (congrArg C.bool (tru_no fun e => h2 (by rw [e]))))
  refine callP (t109 x.fin.targets y.fin.targets) rfl fun _ => ?_
  exact retP rfl (congrArg C.bool (tru_congr ⟨fun h => block_eq (tru_t h0) h1 h2 h, fun e => by rw [e]⟩))
set_option maxRecDepth 10000 in
theorem t142 (a b : List (Block)) (hc : ∀ x ∈ a, ∀ y, EqOk 111 [.agg (blockC x), .agg (blockC y)] (x = y)) : EqOk 142 [.sl (a.map blockC), .sl (b.map blockC), .fn 111 [] []] (a = b) := by
  refine callsT_facts Tryz.func142 facts142 rfl fun hw _ => ?_
  have ha : (a.map blockC).length = a.length := by simp
  have hb : (b.map blockC).length = b.length := by simp
  have hm : a.length ≤ 9223372036854775807 := by have := wf_len hw.1; rwa [ha] at this
  refine brn_split (fun hn => ?_) (fun hn => ?_)
  · have hn : ¬ a.length = b.length := fun e => by
      rw [ha, hb, e] at hn
      simp at hn
    exact retP rfl (congrArg C.bool (tru_no (len_ne hn)))
  have hn : a.length = b.length := by
    rw [ha, hb] at hn
    simp at hn
    omega
  refine loopN a.length 17 [] () (fun _ => []) (fun _ => []) (fun k _ => ∀ j < k, a[j]? = b[j]?) (fun j hj => absurd hj (by omega)) (same_keys rfl) trivial trivial (fun _ => rfl) (fun _ => rfl) ?_
  rintro k ⟨⟩ hk hinv _ _ _
  refine brn_p (fun hlt => ?_) (fun hge => ?_)
  · have hlt : k < a.length := by rw [ha] at hlt; omega
    obtain ⟨x, hx⟩ := get_of hlt
    obtain ⟨y, hy⟩ := get_of (l := b) (k := k) (by omega)
    refine idxT hx rfl rfl ?_
    refine idxT hy rfl rfl ?_
    refine callP (hc x (List.mem_of_getElem? hx) y) rfl fun _ => ?_
    refine brn_split (fun h => ?_) (fun h => ?_)
    · have h : ¬ x = y := tru_f (by simpa using h)
      exact retP rfl (congrArg C.bool (tru_no (get_ne hx hy h)))
    · have h : x = y := tru_t (by simpa using h)
      refine Fit.in64 (by omega) (by omega) ?_
      exact ⟨(k + 1, ()), ⟨hlt, get_step hinv hx hy h⟩, ⟨nextI, trivial⟩, trivial, nextM hlt⟩
  · have hge : ¬ k < a.length := by rw [ha] at hge; omega
    have : k = a.length := by omega
    subst this
    exact retP rfl (congrArg C.bool (tru_yes (lists_eq rfl hn.symm hinv)))
theorem t110 (a b : List (Block)) (hc : ∀ x ∈ a, ∀ y, EqOk 111 [.agg (blockC x), .agg (blockC y)] (x = y)) : EqOk 110 [.sl (a.map blockC), .sl (b.map blockC), .fn 111 [] []] (a = b) := by
  refine callsT_facts Tryz.func110 facts110 rfl fun hw _ => ?_
  refine callP (t142 a b hc) rfl fun _ => ?_
  exact retP rfl rfl
theorem slot_eq {x y : Slot} (h0 : x.state = y.state) (h1 : x.type = y.type) (h2 : x.var = y.var) (h3 : x.flag = y.flag) (h4 : x.lent = y.lent) : x = y := by
  rcases x with ⟨⟩
  rcases y with ⟨⟩
  simp_all
set_option maxRecDepth 10000 in
theorem t147 (x y : Slot) : EqOk 147 [.agg (slotC x), .agg (slotC y)] (x = y) := by
  refine callsT_facts Tryz.func147 facts147 rfl fun hw _ => ?_
  refine brn_p (fun h0 => ?_) (fun h0 => retP rfl (congrArg C.bool (tru_no fun e => h0 (by rw [e]))))
  refine callP (t107 x.type y.type) rfl fun _ => ?_
  refine brn_split (fun h1 => ?_) (fun h1 => retP rfl (congrArg C.bool (tru_no fun e => tru_f h1 (by rw [e]))))
  refine brn_p (fun h2 => ?_) (fun h2 => retP rfl (congrArg C.bool (tru_no fun e => h2 (by rw [e]))))
  refine brn_p (fun h3 => ?_) (fun h3 => retP rfl (congrArg C.bool (tru_no fun e => h3 (by rw [e]))))
  refine callP (t148 x.lent y.lent) rfl fun _ => ?_
  exact retP rfl (congrArg C.bool (tru_congr ⟨fun h => slot_eq h0 (tru_t h1) h2 h3 h, fun e => by rw [e]⟩))
set_option maxRecDepth 10000 in
theorem t152 (a b : List (Slot)) (hc : ∀ x ∈ a, ∀ y, EqOk 147 [.agg (slotC x), .agg (slotC y)] (x = y)) : EqOk 152 [.sl (a.map slotC), .sl (b.map slotC), .fn 147 [] []] (a = b) := by
  refine callsT_facts Tryz.func152 facts152 rfl fun hw _ => ?_
  have ha : (a.map slotC).length = a.length := by simp
  have hb : (b.map slotC).length = b.length := by simp
  have hm : a.length ≤ 9223372036854775807 := by have := wf_len hw.1; rwa [ha] at this
  refine brn_split (fun hn => ?_) (fun hn => ?_)
  · have hn : ¬ a.length = b.length := fun e => by
      rw [ha, hb, e] at hn
      simp at hn
    exact retP rfl (congrArg C.bool (tru_no (len_ne hn)))
  have hn : a.length = b.length := by
    rw [ha, hb] at hn
    simp at hn
    omega
  refine loopN a.length 17 [] () (fun _ => []) (fun _ => []) (fun k _ => ∀ j < k, a[j]? = b[j]?) (fun j hj => absurd hj (by omega)) (same_keys rfl) trivial trivial (fun _ => rfl) (fun _ => rfl) ?_
  rintro k ⟨⟩ hk hinv _ _ _
  refine brn_p (fun hlt => ?_) (fun hge => ?_)
  · have hlt : k < a.length := by rw [ha] at hlt; omega
    obtain ⟨x, hx⟩ := get_of hlt
    obtain ⟨y, hy⟩ := get_of (l := b) (k := k) (by omega)
    refine idxT hx rfl rfl ?_
    refine idxT hy rfl rfl ?_
    refine callP (hc x (List.mem_of_getElem? hx) y) rfl fun _ => ?_
    refine brn_split (fun h => ?_) (fun h => ?_)
    · have h : ¬ x = y := tru_f (by simpa using h)
      exact retP rfl (congrArg C.bool (tru_no (get_ne hx hy h)))
    · have h : x = y := tru_t (by simpa using h)
      refine Fit.in64 (by omega) (by omega) ?_
      exact ⟨(k + 1, ()), ⟨hlt, get_step hinv hx hy h⟩, ⟨nextI, trivial⟩, trivial, nextM hlt⟩
  · have hge : ¬ k < a.length := by rw [ha] at hge; omega
    have : k = a.length := by omega
    subst this
    exact retP rfl (congrArg C.bool (tru_yes (lists_eq rfl hn.symm hinv)))
theorem t146 (a b : List (Slot)) (hc : ∀ x ∈ a, ∀ y, EqOk 147 [.agg (slotC x), .agg (slotC y)] (x = y)) : EqOk 146 [.sl (a.map slotC), .sl (b.map slotC), .fn 147 [] []] (a = b) := by
  refine callsT_facts Tryz.func146 facts146 rfl fun hw _ => ?_
  refine callP (t152 a b hc) rfl fun _ => ?_
  exact retP rfl rfl
theorem t113 (a b : List Slot) : EqOk 113 [.sl (a.map slotC), .sl (b.map slotC)] (a = b) := by
  refine callsT_facts Tryz.func113 facts113 rfl fun hw _ => ?_
  refine callP (t146 a b fun x _ y => t147 x y) rfl fun _ => ?_
  exact retP rfl rfl
set_option maxRecDepth 10000 in
theorem t145 (a b : List (List Slot)) (hc : ∀ x ∈ a, ∀ y, EqOk 113 [.sl (x.map slotC), .sl (y.map slotC)] (x = y)) : EqOk 145 [.sl (a.map slotsC), .sl (b.map slotsC), .fn 113 [] []] (a = b) := by
  refine callsT_facts Tryz.func145 facts145 rfl fun hw _ => ?_
  have ha : (a.map slotsC).length = a.length := by simp
  have hb : (b.map slotsC).length = b.length := by simp
  have hm : a.length ≤ 9223372036854775807 := by have := wf_len hw.1; rwa [ha] at this
  refine brn_split (fun hn => ?_) (fun hn => ?_)
  · have hn : ¬ a.length = b.length := fun e => by
      rw [ha, hb, e] at hn
      simp at hn
    exact retP rfl (congrArg C.bool (tru_no (len_ne hn)))
  have hn : a.length = b.length := by
    rw [ha, hb] at hn
    simp at hn
    omega
  refine loopN a.length 17 [] () (fun _ => []) (fun _ => []) (fun k _ => ∀ j < k, a[j]? = b[j]?) (fun j hj => absurd hj (by omega)) (same_keys rfl) trivial trivial (fun _ => rfl) (fun _ => rfl) ?_
  rintro k ⟨⟩ hk hinv _ _ _
  refine brn_p (fun hlt => ?_) (fun hge => ?_)
  · have hlt : k < a.length := by rw [ha] at hlt; omega
    obtain ⟨x, hx⟩ := get_of hlt
    obtain ⟨y, hy⟩ := get_of (l := b) (k := k) (by omega)
    refine idxT hx rfl rfl ?_
    refine idxT hy rfl rfl ?_
    refine callP (hc x (List.mem_of_getElem? hx) y) rfl fun _ => ?_
    refine brn_split (fun h => ?_) (fun h => ?_)
    · have h : ¬ x = y := tru_f (by simpa using h)
      exact retP rfl (congrArg C.bool (tru_no (get_ne hx hy h)))
    · have h : x = y := tru_t (by simpa using h)
      refine Fit.in64 (by omega) (by omega) ?_
      exact ⟨(k + 1, ()), ⟨hlt, get_step hinv hx hy h⟩, ⟨nextI, trivial⟩, trivial, nextM hlt⟩
  · have hge : ¬ k < a.length := by rw [ha] at hge; omega
    have : k = a.length := by omega
    subst this
    exact retP rfl (congrArg C.bool (tru_yes (lists_eq rfl hn.symm hinv)))
theorem t112 (a b : List (List Slot)) (hc : ∀ x ∈ a, ∀ y, EqOk 113 [.sl (x.map slotC), .sl (y.map slotC)] (x = y)) : EqOk 112 [.sl (a.map slotsC), .sl (b.map slotsC), .fn 113 [] []] (a = b) := by
  refine callsT_facts Tryz.func112 facts112 rfl fun hw _ => ?_
  refine callP (t145 a b hc) rfl fun _ => ?_
  exact retP rfl rfl
theorem rout_eq {x y : Rout} (h0 : x.name = y.name) (h1 : x.params = y.params) (h2 : x.result = y.result) (h3 : x.ties = y.ties) (h4 : x.slots = y.slots) (h5 : x.blocks = y.blocks) (h6 : x.entry = y.entry) : x = y := by
  rcases x with ⟨⟩
  rcases y with ⟨⟩
  simp_all
set_option maxRecDepth 10000 in
theorem t55 (x y : Rout) : EqOk 55 [.agg (routC x), .agg (routC y)] (x = y) := by
  refine callsT_facts Tryz.func55 facts55 rfl fun hw _ => ?_
  refine brn_p (fun h0 => ?_) (fun h0 => retP rfl (congrArg C.bool (tru_no fun e => h0 (by rw [e]))))
  refine callP (t106a x.params y.params) rfl fun _ => ?_
  refine brn_split (fun h1 => ?_) (fun h1 => retP rfl (congrArg C.bool (tru_no fun e => tru_f h1 (by rw [e]))))
  refine callP (t107 x.result y.result) rfl fun _ => ?_
  refine brn_split (fun h2 => ?_) (fun h2 => retP rfl (congrArg C.bool (tru_no fun e => tru_f h2 (by rw [e]))))
  refine callP (t109 x.ties y.ties) rfl fun _ => ?_
  refine brn_split (fun h3 => ?_) (fun h3 => retP rfl (congrArg C.bool (tru_no fun e => tru_f h3 (by rw [e]))))
  refine brn_p (fun h4 => ?_) (fun h4 => retP rfl (congrArg C.bool (tru_no fun e => h4 (by rw [e]))))
  refine callP (t110 x.blocks y.blocks fun a _ b => t111 a b) rfl fun _ => ?_
  refine brn_split (fun h5 => ?_) (fun h5 => retP rfl (congrArg C.bool (tru_no fun e => tru_f h5 (by rw [e]))))
  refine callP (t112 x.entry y.entry fun a _ b => t113 a b) rfl fun _ => ?_
  exact retP rfl (congrArg C.bool (tru_congr ⟨fun h => rout_eq (str_ext h0) (tru_t h1) (tru_t h2) (tru_t h3) h4 (tru_t h5) h, fun e => by rw [e]⟩))
set_option maxRecDepth 10000 in
theorem t108 (a b : List (Rout)) (hc : ∀ x ∈ a, ∀ y, EqOk 55 [.agg (routC x), .agg (routC y)] (x = y)) : EqOk 108 [.sl (a.map routC), .sl (b.map routC), .fn 55 [] []] (a = b) := by
  refine callsT_facts Tryz.func108 facts108 rfl fun hw _ => ?_
  have ha : (a.map routC).length = a.length := by simp
  have hb : (b.map routC).length = b.length := by simp
  have hm : a.length ≤ 9223372036854775807 := by have := wf_len hw.1; rwa [ha] at this
  refine brn_split (fun hn => ?_) (fun hn => ?_)
  · have hn : ¬ a.length = b.length := fun e => by
      rw [ha, hb, e] at hn
      simp at hn
    exact retP rfl (congrArg C.bool (tru_no (len_ne hn)))
  have hn : a.length = b.length := by
    rw [ha, hb] at hn
    simp at hn
    omega
  refine loopN a.length 17 [] () (fun _ => []) (fun _ => []) (fun k _ => ∀ j < k, a[j]? = b[j]?) (fun j hj => absurd hj (by omega)) (same_keys rfl) trivial trivial (fun _ => rfl) (fun _ => rfl) ?_
  rintro k ⟨⟩ hk hinv _ _ _
  refine brn_p (fun hlt => ?_) (fun hge => ?_)
  · have hlt : k < a.length := by rw [ha] at hlt; omega
    obtain ⟨x, hx⟩ := get_of hlt
    obtain ⟨y, hy⟩ := get_of (l := b) (k := k) (by omega)
    refine idxT hx rfl rfl ?_
    refine idxT hy rfl rfl ?_
    refine callP (hc x (List.mem_of_getElem? hx) y) rfl fun _ => ?_
    refine brn_split (fun h => ?_) (fun h => ?_)
    · have h : ¬ x = y := tru_f (by simpa using h)
      exact retP rfl (congrArg C.bool (tru_no (get_ne hx hy h)))
    · have h : x = y := tru_t (by simpa using h)
      refine Fit.in64 (by omega) (by omega) ?_
      exact ⟨(k + 1, ()), ⟨hlt, get_step hinv hx hy h⟩, ⟨nextI, trivial⟩, trivial, nextM hlt⟩
  · have hge : ¬ k < a.length := by rw [ha] at hge; omega
    have : k = a.length := by omega
    subst this
    exact retP rfl (congrArg C.bool (tru_yes (lists_eq rfl hn.symm hinv)))
theorem t54 (a b : List (Rout)) (hc : ∀ x ∈ a, ∀ y, EqOk 55 [.agg (routC x), .agg (routC y)] (x = y)) : EqOk 54 [.sl (a.map routC), .sl (b.map routC), .fn 55 [] []] (a = b) := by
  refine callsT_facts Tryz.func54 facts54 rfl fun hw _ => ?_
  refine callP (t108 a b hc) rfl fun _ => ?_
  exact retP rfl rfl
theorem img_eq {x y : Img} (h0 : x.main = y.main) (h1 : x.datas = y.datas) (h2 : x.routs = y.routs) : x = y := by
  rcases x with ⟨⟩
  rcases y with ⟨⟩
  simp_all
set_option maxRecDepth 10000 in
theorem t16 (x y : Img) : EqOk 16 [.agg (imgC x), .agg (imgC y)] (x = y) := by
  refine callsT_facts Tryz.func16 facts16 rfl fun hw _ => ?_
  refine brn_p (fun h0 => ?_) (fun h0 => retP rfl (congrArg C.bool (tru_no fun e => h0 (by rw [e]))))
  refine callP (t52 x.datas y.datas fun a _ b => t53 a b) rfl fun _ => ?_
  refine brn_split (fun h1 => ?_) (fun h1 => retP rfl (congrArg C.bool (tru_no fun e => tru_f h1 (by rw [e]))))
  refine callP (t54 x.routs y.routs fun a _ b => t55 a b) rfl fun _ => ?_
  exact retP rfl (congrArg C.bool (tru_congr ⟨fun h => img_eq h0 (tru_t h1) h, fun e => by rw [e]⟩))
end Go.Fr.Tryz

set_option linter.unusedVariables false
set_option linter.unusedSimpArgs false
namespace Go.Fr.Tryz
open Go Go.RowKit Go.Proofs Go.Fr Go.Fr.T Go.Fr.Api

theorem ndT {p : Prop} [Decidable p] (h : (!decide p) = true) : ¬ p := by simpa using h
theorem ndF {p : Prop} [Decidable p] (h : (!decide p) = false) : p := by simpa using h
theorem ntT {p : Prop} (h : (!tru p) = true) : ¬ p := tru_f (by simpa using h)
theorem ntF {p : Prop} (h : (!tru p) = false) : p := tru_t (by simpa using h)
theorem wf_mem {α : Type} {f : α → List C} {l : List α} (h : Wf (.sl (l.map f))) {x : α} (hx : x ∈ l) : WfS (f x) := by
  simp only [Wf] at h
  exact WfSS_iff.1 h.2 _ (List.mem_map.2 ⟨x, hx, rfl⟩)
theorem lenM {α : Type} {f : α → List C} {l : List α} : (l.map f).length = l.length := by simp
theorem lenI {l : List Int} : (ics l).length = l.length := by simp [ics]
theorem lenMEq {α β : Type} {f : α → List C} {g : β → List C} {a : List α} {b : List β} (h : (!decide (((a.map f).length : Int) = ((b.map g).length : Int))) = false) : a.length = b.length := by
  have q := ndF h
  rw [lenM, lenM] at q
  omega
theorem lenIEq {a b : List Int} (h : (!decide (((ics a).length : Int) = ((ics b).length : Int))) = false) : a.length = b.length := by
  have q := ndF h
  rw [lenI, lenI] at q
  omega
theorem lenNe {a b : Nat} (h : ¬ (a : Int) = b) : ¬ a = b := fun e => h (by rw [e])
set_option maxRecDepth 10000 in
theorem t99n : ∀ (n : Nat) (x y : Ty), SizeOf.sizeOf x < n → EqOk 99 [tyA x, tyA y] (x = y)
  | 0, x, y, h => absurd h (by omega)
  | n + 1, x, y, h => by
    have ih : ∀ z ∈ x.args, ∀ w, EqOk 99 [tyA z, tyA w] (z = w) := fun z hz w => t99n n z w (by have := ty_lt hz; omega)
    refine callsT_facts Tryz.func99 facts99 rfl fun hw _ => ?_
    have hw1 : Wf (.sl (x.args.map tyC)) := by have h := hw.1; simp only [tyA, Wf, WfS] at h; exact h.2.2.1
    refine brn_split (fun h0 => ?_) (fun h0 => ?_)
    · exact retP rfl (congrArg C.bool (tru_no fun e => (ndT h0) (by rw [e])))
    refine brn_split (fun h1 => ?_) (fun h1 => ?_)
    · exact retP rfl (congrArg C.bool (tru_no fun e => (ndT h1) (by rw [e])))
    refine brn_split (fun h2 => ?_) (fun h2 => ?_)
    · exact retP rfl (congrArg C.bool (tru_no fun e => (lenNe (by have q := ndT h2; rwa [lenM, lenM] at q)) (by rw [e])))
    have h2 := lenMEq h2
    refine loopN x.args.length 5 [] () (fun _ => []) (fun _ => []) (fun k _ => ∀ j < k, x.args[j]? = y.args[j]?) (fun j hj => absurd hj (by omega)) (same_keys rfl) trivial trivial (fun _ => rfl) (fun _ => rfl) ?_
    rintro kA ⟨⟩ hkA invA _ _ _
    refine brn_p (fun ltA => ?_) (fun geA => ?_)
    · have ltA : kA < x.args.length := by rw [lenM] at ltA; omega
      have mxA := wf_lenM hw1
      obtain ⟨xA, hxA⟩ := get_of ltA
      obtain ⟨yA, hyA⟩ := get_of (l := y.args) (k := kA) (by omega)
      refine idxTy hxA ?_
      refine idxTy hyA ?_
      refine callPD (ih xA (List.mem_of_getElem? hxA) yA) rfl fun _ => ?_
      refine brn_split (fun h3 => ?_) (fun h3 => ?_)
      · exact retP rfl (congrArg C.bool (tru_no fun e => get_ne hxA hyA (ntT h3) (by rw [e])))
      refine Fit.in64 (by omega) (by omega) ?_
      exact ⟨(kA + 1, ()), ⟨ltA, get_step invA hxA hyA (ntF h3)⟩, ⟨nextI, trivial⟩, trivial, nextM ltA⟩
    · have geA : ¬ kA < x.args.length := by rw [lenM] at geA; omega
      have eA : x.args = y.args := lists_eq (n := kA) (by omega) (by omega) invA
      exact retP rfl (congrArg C.bool (tru_yes (ty_eq (ndF h0) (ndF h1) eA)))
theorem t99 (x y : Ty) : EqOk 99 [tyA x, tyA y] (x = y) := t99n _ x y (Nat.lt_succ_self _)
set_option maxRecDepth 10000 in
theorem t98 (a b : List Ty) : EqOk 98 [.sl (a.map tyC), .sl (b.map tyC)] (a = b) := by
  refine callsT_facts Tryz.func98 facts98 rfl fun hw _ => ?_
  refine brn_split (fun h0 => ?_) (fun h0 => ?_)
  · exact retP rfl (congrArg C.bool (tru_no fun e => (lenNe (by have q := ndT h0; rwa [lenM, lenM] at q)) (by rw [e])))
  have h0 := lenMEq h0
  refine loopN a.length 5 [] () (fun _ => []) (fun _ => []) (fun k _ => ∀ j < k, a[j]? = b[j]?) (fun j hj => absurd hj (by omega)) (same_keys rfl) trivial trivial (fun _ => rfl) (fun _ => rfl) ?_
  rintro kA ⟨⟩ hkA invA _ _ _
  refine brn_p (fun ltA => ?_) (fun geA => ?_)
  · have ltA : kA < a.length := by rw [lenM] at ltA; omega
    have mxA := wf_lenM hw.1
    obtain ⟨xA, hxA⟩ := get_of ltA
    obtain ⟨yA, hyA⟩ := get_of (l := b) (k := kA) (by omega)
    refine idxTy hxA ?_
    refine idxTy hyA ?_
    refine callPD (t99 xA yA) rfl fun _ => ?_
    refine brn_split (fun h3 => ?_) (fun h3 => ?_)
    · exact retP rfl (congrArg C.bool (tru_no fun e => get_ne hxA hyA (ntT h3) (by rw [e])))
    refine Fit.in64 (by omega) (by omega) ?_
    exact ⟨(kA + 1, ()), ⟨ltA, get_step invA hxA hyA (ntF h3)⟩, ⟨nextI, trivial⟩, trivial, nextM ltA⟩
  · have geA : ¬ kA < a.length := by rw [lenM] at geA; omega
    have eA : a = b := lists_eq (n := kA) (by omega) (by omega) invA
    exact retP rfl (congrArg C.bool (tru_yes eA))
set_option maxRecDepth 10000 in
theorem t100 (a b : List Int) : EqOk 100 [.sl (ics a), .sl (ics b)] (a = b) := by
  refine callsT_facts Tryz.func100 facts100 rfl fun hw _ => ?_
  refine brn_split (fun h0 => ?_) (fun h0 => ?_)
  · exact retP rfl (congrArg C.bool (tru_no fun e => (lenNe (by have q := ndT h0; rwa [lenI, lenI] at q)) (by rw [e])))
  have h0 := lenIEq h0
  refine loopN a.length 5 [] () (fun _ => []) (fun _ => []) (fun k _ => ∀ j < k, a[j]? = b[j]?) (fun j hj => absurd hj (by omega)) (same_keys rfl) trivial trivial (fun _ => rfl) (fun _ => rfl) ?_
  rintro kA ⟨⟩ hkA invA _ _ _
  refine brn_p (fun ltA => ?_) (fun geA => ?_)
  · have ltA : kA < a.length := by rw [lenI] at ltA; omega
    have mxA := (wf_lenM hw.1 : a.length ≤ _)
    obtain ⟨xA, hxA⟩ := get_of ltA
    obtain ⟨yA, hyA⟩ := get_of (l := b) (k := kA) (by omega)
    refine idxI hxA ?_
    refine idxI hyA ?_
    refine brn_split (fun h3 => ?_) (fun h3 => ?_)
    · exact retP rfl (congrArg C.bool (tru_no fun e => get_ne hxA hyA (ndT h3) (by rw [e])))
    refine Fit.in64 (by omega) (by omega) ?_
    exact ⟨(kA + 1, ()), ⟨ltA, get_step invA hxA hyA (ndF h3)⟩, ⟨nextI, trivial⟩, trivial, nextM ltA⟩
  · have geA : ¬ kA < a.length := by rw [lenI] at geA; omega
    have eA : a = b := lists_eq (n := kA) (by omega) (by omega) invA
    exact retP rfl (congrArg C.bool (tru_yes eA))
set_option maxRecDepth 10000 in
theorem t50 (x y : Api.Data) : EqOk 50 [.agg (dataC x), .agg (dataC y)] (x = y) := by
  refine callsT_facts Tryz.func50 facts50 rfl fun hw _ => ?_
  have hw1 : Wf (.sl (x.variants.map variantC)) := by have h := hw.1; simp only [dataC, Wf, WfS] at h; simp only [Wf]; exact h.2.2.2.1
  refine brn_split (fun h0 => ?_) (fun h0 => ?_)
  · exact retP rfl (congrArg C.bool (tru_no fun e => (ndT h0) (by rw [e])))
  refine brn_split (fun h1 => ?_) (fun h1 => ?_)
  · exact retP rfl (congrArg C.bool (tru_no fun e => (ndT h1) (by rw [e])))
  refine brn_split (fun h2 => ?_) (fun h2 => ?_)
  · exact retP rfl (congrArg C.bool (tru_no fun e => (ndT h2) (by rw [e])))
  refine brn_split (fun h3 => ?_) (fun h3 => ?_)
  · exact retP rfl (congrArg C.bool (tru_no fun e => (ndT h3) (by rw [e])))
  refine brn_split (fun h4 => ?_) (fun h4 => ?_)
  · exact retP rfl (congrArg C.bool (tru_no fun e => (lenNe (by have q := ndT h4; rwa [lenM, lenM] at q)) (by rw [e])))
  have h4 := lenMEq h4
  refine loopN x.variants.length 5 [] () (fun _ => []) (fun _ => []) (fun k _ => ∀ j < k, x.variants[j]? = y.variants[j]?) (fun j hj => absurd hj (by omega)) (same_keys rfl) trivial trivial (fun _ => rfl) (fun _ => rfl) ?_
  rintro kA ⟨⟩ hkA invA _ _ _
  refine brn_p (fun ltA => ?_) (fun geA => ?_)
  · have ltA : kA < x.variants.length := by rw [lenM] at ltA; omega
    have mxA := wf_lenM hw1
    obtain ⟨xA, hxA⟩ := get_of ltA
    obtain ⟨yA, hyA⟩ := get_of (l := y.variants) (k := kA) (by omega)
    refine idxT hxA rfl rfl ?_
    refine idxT hyA rfl rfl ?_
    refine brn_split (fun h5 => ?_) (fun h5 => ?_)
    · exact retP rfl (congrArg C.bool (tru_no fun e => get_ne hxA hyA (fun e2 => (ndT h5) (by rw [e2])) (by rw [e])))
    refine idxT hxA rfl rfl ?_
    refine idxT hyA rfl rfl ?_
    refine callPD (t98 xA.fields yA.fields) rfl fun _ => ?_
    refine brn_split (fun h6 => ?_) (fun h6 => ?_)
    · exact retP rfl (congrArg C.bool (tru_no fun e => get_ne hxA hyA (fun e2 => (ntT h6) (by rw [e2])) (by rw [e])))
    refine Fit.in64 (by omega) (by omega) ?_
    exact ⟨(kA + 1, ()), ⟨ltA, get_step invA hxA hyA (var_eq (str_ext (ndF h5)) (ntF h6))⟩, ⟨nextI, trivial⟩, trivial, nextM ltA⟩
  · have geA : ¬ kA < x.variants.length := by rw [lenM] at geA; omega
    have eA : x.variants = y.variants := lists_eq (n := kA) (by omega) (by omega) invA
    exact retP rfl (congrArg C.bool (tru_yes (data_eq (str_ext (ndF h0)) (ndF h1) (ndF h2) (ndF h3) eA)))
set_option maxRecDepth 10000 in
theorem t139 (x y : Ins) : EqOk 139 [.agg (insC x), .agg (insC y)] (x = y) := by
  refine callsT_facts Tryz.func139 facts139 rfl fun hw _ => ?_
  refine brn_p (fun h0 => ?_) (fun h0 => retP rfl (congrArg C.bool (tru_no fun e => h0 (by rw [e]))))
  refine brn_p (fun h1 => ?_) (fun h1 => retP rfl (congrArg C.bool (tru_no fun e => h1 (by rw [e]))))
  refine brn_p (fun h2 => ?_) (fun h2 => retP rfl (congrArg C.bool (tru_no fun e => h2 (by rw [e]))))
  refine brn_p (fun h3 => ?_) (fun h3 => retP rfl (congrArg C.bool (tru_no fun e => h3 (by rw [e]))))
  refine brn_p (fun h4 => ?_) (fun h4 => retP rfl (congrArg C.bool (tru_no fun e => h4 (by rw [e]))))
  refine callP (t100 x.args y.args) rfl fun _ => ?_
  refine brn_split (fun h5 => ?_) (fun h5 => retP rfl (congrArg C.bool (tru_no fun e => tru_f h5 (by rw [e]))))
  refine callP (t98 x.types y.types) rfl fun _ => ?_
  exact retP rfl (congrArg C.bool (tru_congr ⟨fun h => ins_eq h0 h1 h2 h3 h4 (tru_t h5) h, fun e => by rw [e]⟩))
set_option maxRecDepth 10000 in
theorem t101 (a b : List Block) : EqOk 101 [.sl (a.map blockC), .sl (b.map blockC)] (a = b) := by
  refine callsT_facts Tryz.func101 facts101 rfl fun hw _ => ?_
  refine brn_split (fun h0 => ?_) (fun h0 => ?_)
  · exact retP rfl (congrArg C.bool (tru_no fun e => (lenNe (by have q := ndT h0; rwa [lenM, lenM] at q)) (by rw [e])))
  have h0 := lenMEq h0
  refine loopN a.length 5 [] () (fun _ => []) (fun _ => []) (fun k _ => ∀ j < k, a[j]? = b[j]?) (fun j hj => absurd hj (by omega)) (same_keys rfl) trivial trivial (fun _ => rfl) (fun _ => rfl) ?_
  rintro kA ⟨⟩ hkA invA _ _ _
  refine brn_p (fun ltA => ?_) (fun geA => ?_)
  · have ltA : kA < a.length := by rw [lenM] at ltA; omega
    have mxA := wf_lenM hw.1
    obtain ⟨xA, hxA⟩ := get_of ltA
    obtain ⟨yA, hyA⟩ := get_of (l := b) (k := kA) (by omega)
    have hwA : Wf (.sl (xA.code.map insC)) := (wf_mem hw.1 (List.mem_of_getElem? hxA)).1
    refine idxT hxA rfl rfl ?_
    refine idxT hyA rfl rfl ?_
    refine brn_split (fun h1 => ?_) (fun h1 => ?_)
    · exact retP rfl (congrArg C.bool (tru_no fun e => get_ne hxA hyA (fun e2 => (lenNe (by have q := ndT h1; rwa [lenM, lenM] at q)) (by rw [e2])) (by rw [e])))
    have h1 := lenMEq h1
    refine idxT hxA rfl rfl ?_
    refine idxT hyA rfl rfl ?_
    refine brn_split (fun h2 => ?_) (fun h2 => ?_)
    · exact retP rfl (congrArg C.bool (tru_no fun e => get_ne hxA hyA (fun e2 => (ndT h2) (by rw [e2])) (by rw [e])))
    refine idxT hxA rfl rfl ?_
    refine idxT hyA rfl rfl ?_
    refine brn_split (fun h3 => ?_) (fun h3 => ?_)
    · exact retP rfl (congrArg C.bool (tru_no fun e => get_ne hxA hyA (fun e2 => (ndT h3) (by rw [e2])) (by rw [e])))
    refine idxT hxA rfl rfl ?_
    refine idxT hyA rfl rfl ?_
    refine callPD (t100 xA.fin.targets yA.fin.targets) rfl fun _ => ?_
    refine brn_split (fun h4 => ?_) (fun h4 => ?_)
    · exact retP rfl (congrArg C.bool (tru_no fun e => get_ne hxA hyA (fun e2 => (ntT h4) (by rw [e2])) (by rw [e])))
    refine loopN xA.code.length 6 [] () (fun _ => []) (fun _ => []) (fun k _ => ∀ j < k, xA.code[j]? = yA.code[j]?) (fun j hj => absurd hj (by omega)) (same_keys rfl) trivial trivial (fun _ => rfl) (fun _ => rfl) ?_
    rintro kB ⟨⟩ hkB invB _ _ _
    refine idxT hxA rfl rfl ?_
    refine brn_p (fun ltB => ?_) (fun geB => ?_)
    · have ltB : kB < xA.code.length := by rw [lenM] at ltB; omega
      have mxB := wf_lenM hwA
      obtain ⟨xB, hxB⟩ := get_of ltB
      obtain ⟨yB, hyB⟩ := get_of (l := yA.code) (k := kB) (by omega)
      refine idxT hxA rfl rfl ?_
      refine idxT hxB rfl rfl ?_
      refine idxT hyA rfl rfl ?_
      refine idxT hyB rfl rfl ?_
      refine callPD (t139 xB yB) rfl fun _ => ?_
      refine brn_split (fun h5 => ?_) (fun h5 => ?_)
      · exact retP rfl (congrArg C.bool (tru_no fun e => get_ne hxA hyA (fun e2 => get_ne hxB hyB (ntT h5) (by rw [e2])) (by rw [e])))
      refine Fit.in64 (by omega) (by omega) ?_
      exact ⟨(kB + 1, ()), ⟨ltB, get_step invB hxB hyB (ntF h5)⟩, ⟨nextI, trivial⟩, trivial, nextM ltB⟩
    · have geB : ¬ kB < xA.code.length := by rw [lenM] at geB; omega
      have eB : xA.code = yA.code := lists_eq (n := kB) (by omega) (by omega) invB
      refine Fit.in64 (by omega) (by omega) ?_
      exact ⟨(kA + 1, ()), ⟨ltA, get_step invA hxA hyA (block_eq eB (ndF h2) (ndF h3) (ntF h4))⟩, ⟨nextI, trivial⟩, trivial, nextM ltA⟩
  · have geA : ¬ kA < a.length := by rw [lenM] at geA; omega
    have eA : a = b := lists_eq (n := kA) (by omega) (by omega) invA
    exact retP rfl (congrArg C.bool (tru_yes eA))
set_option maxRecDepth 10000 in
theorem t102 (a b : List Slot) : EqOk 102 [.sl (a.map slotC), .sl (b.map slotC)] (a = b) := by
  refine callsT_facts Tryz.func102 facts102 rfl fun hw _ => ?_
  refine brn_split (fun h0 => ?_) (fun h0 => ?_)
  · exact retP rfl (congrArg C.bool (tru_no fun e => (lenNe (by have q := ndT h0; rwa [lenM, lenM] at q)) (by rw [e])))
  have h0 := lenMEq h0
  refine loopN a.length 5 [] () (fun _ => []) (fun _ => []) (fun k _ => ∀ j < k, a[j]? = b[j]?) (fun j hj => absurd hj (by omega)) (same_keys rfl) trivial trivial (fun _ => rfl) (fun _ => rfl) ?_
  rintro kA ⟨⟩ hkA invA _ _ _
  refine brn_p (fun ltA => ?_) (fun geA => ?_)
  · have ltA : kA < a.length := by rw [lenM] at ltA; omega
    have mxA := wf_lenM hw.1
    obtain ⟨xA, hxA⟩ := get_of ltA
    obtain ⟨yA, hyA⟩ := get_of (l := b) (k := kA) (by omega)
    have hwA : Wf (.sl (xA.lent.map lentC)) := (wf_mem hw.1 (List.mem_of_getElem? hxA)).2.2.2.2.2.2.1
    refine idxT hxA rfl rfl ?_
    refine idxT hyA rfl rfl ?_
    refine brn_split (fun h1 => ?_) (fun h1 => ?_)
    · exact retP rfl (congrArg C.bool (tru_no fun e => get_ne hxA hyA (fun e2 => (ndT h1) (by rw [e2])) (by rw [e])))
    refine idxT hxA rfl rfl ?_
    refine idxT hyA rfl rfl ?_
    refine callPD (t99 xA.type yA.type) rfl fun _ => ?_
    refine brn_split (fun h2 => ?_) (fun h2 => ?_)
    · exact retP rfl (congrArg C.bool (tru_no fun e => get_ne hxA hyA (fun e2 => (ntT h2) (by rw [e2])) (by rw [e])))
    refine idxT hxA rfl rfl ?_
    refine idxT hyA rfl rfl ?_
    refine brn_split (fun h3 => ?_) (fun h3 => ?_)
    · exact retP rfl (congrArg C.bool (tru_no fun e => get_ne hxA hyA (fun e2 => (ndT h3) (by rw [e2])) (by rw [e])))
    refine idxT hxA rfl rfl ?_
    refine idxT hyA rfl rfl ?_
    refine brn_split (fun h4 => ?_) (fun h4 => ?_)
    · exact retP rfl (congrArg C.bool (tru_no fun e => get_ne hxA hyA (fun e2 => (ndT h4) (by rw [e2])) (by rw [e])))
    refine idxT hxA rfl rfl ?_
    refine idxT hyA rfl rfl ?_
    refine brn_split (fun h5 => ?_) (fun h5 => ?_)
    · exact retP rfl (congrArg C.bool (tru_no fun e => get_ne hxA hyA (fun e2 => (lenNe (by have q := ndT h5; rwa [lenM, lenM] at q)) (by rw [e2])) (by rw [e])))
    have h5 := lenMEq h5
    refine loopN xA.lent.length 6 [] () (fun _ => []) (fun _ => []) (fun k _ => ∀ j < k, xA.lent[j]? = yA.lent[j]?) (fun j hj => absurd hj (by omega)) (same_keys rfl) trivial trivial (fun _ => rfl) (fun _ => rfl) ?_
    rintro kB ⟨⟩ hkB invB _ _ _
    refine idxT hxA rfl rfl ?_
    refine brn_p (fun ltB => ?_) (fun geB => ?_)
    · have ltB : kB < xA.lent.length := by rw [lenM] at ltB; omega
      have mxB := wf_lenM hwA
      obtain ⟨xB, hxB⟩ := get_of ltB
      obtain ⟨yB, hyB⟩ := get_of (l := yA.lent) (k := kB) (by omega)
      refine idxT hxA rfl rfl ?_
      refine idxT hxB rfl rfl ?_
      refine idxT hyA rfl rfl ?_
      refine idxT hyB rfl rfl ?_
      refine brn_split (fun h6 => ?_) (fun h6 => ?_)
      · exact retP rfl (congrArg C.bool (tru_no fun e => get_ne hxA hyA (fun e2 => get_ne hxB hyB ((fun e => by subst e; simp [ngb] at h6)) (by rw [e2])) (by rw [e])))
      refine Fit.in64 (by omega) (by omega) ?_
      exact ⟨(kB + 1, ()), ⟨ltB, get_step invB hxB hyB (by rcases xB with ⟨⟩; rcases yB with ⟨⟩; simp [ngb] at h6; simp [h6])⟩, ⟨nextI, trivial⟩, trivial, nextM ltB⟩
    · have geB : ¬ kB < xA.lent.length := by rw [lenM] at geB; omega
      have eB : xA.lent = yA.lent := lists_eq (n := kB) (by omega) (by omega) invB
      refine Fit.in64 (by omega) (by omega) ?_
      exact ⟨(kA + 1, ()), ⟨ltA, get_step invA hxA hyA (slot_eq (ndF h1) (ntF h2) (ndF h3) (ndF h4) eB)⟩, ⟨nextI, trivial⟩, trivial, nextM ltA⟩
  · have geA : ¬ kA < a.length := by rw [lenM] at geA; omega
    have eA : a = b := lists_eq (n := kA) (by omega) (by omega) invA
    exact retP rfl (congrArg C.bool (tru_yes eA))
set_option maxRecDepth 10000 in
theorem t51 (x y : Rout) : EqOk 51 [.agg (routC x), .agg (routC y)] (x = y) := by
  refine callsT_facts Tryz.func51 facts51 rfl fun hw _ => ?_
  have hw1 : Wf (.sl (x.entry.map slotsC)) := hw.1.2.2.2.2.2.2.2.2.1
  refine brn_split (fun h0 => ?_) (fun h0 => ?_)
  · exact retP rfl (congrArg C.bool (tru_no fun e => (ndT h0) (by rw [e])))
  refine callP (t98 x.params y.params) rfl fun _ => ?_
  refine brn_split (fun h1 => ?_) (fun h1 => ?_)
  · exact retP rfl (congrArg C.bool (tru_no fun e => (ntT h1) (by rw [e])))
  refine callP (t99 x.result y.result) rfl fun _ => ?_
  refine brn_split (fun h2 => ?_) (fun h2 => ?_)
  · exact retP rfl (congrArg C.bool (tru_no fun e => (ntT h2) (by rw [e])))
  refine callP (t100 x.ties y.ties) rfl fun _ => ?_
  refine brn_split (fun h3 => ?_) (fun h3 => ?_)
  · exact retP rfl (congrArg C.bool (tru_no fun e => (ntT h3) (by rw [e])))
  refine brn_split (fun h4 => ?_) (fun h4 => ?_)
  · exact retP rfl (congrArg C.bool (tru_no fun e => (ndT h4) (by rw [e])))
  refine callP (t101 x.blocks y.blocks) rfl fun _ => ?_
  refine brn_split (fun h5 => ?_) (fun h5 => ?_)
  · exact retP rfl (congrArg C.bool (tru_no fun e => (ntT h5) (by rw [e])))
  refine brn_split (fun h6 => ?_) (fun h6 => ?_)
  · exact retP rfl (congrArg C.bool (tru_no fun e => (lenNe (by have q := ndT h6; rwa [lenM, lenM] at q)) (by rw [e])))
  have h6 := lenMEq h6
  refine loopN x.entry.length 5 [] () (fun _ => []) (fun _ => []) (fun k _ => ∀ j < k, x.entry[j]? = y.entry[j]?) (fun j hj => absurd hj (by omega)) (same_keys rfl) trivial trivial (fun _ => rfl) (fun _ => rfl) ?_
  rintro kA ⟨⟩ hkA invA _ _ _
  refine brn_p (fun ltA => ?_) (fun geA => ?_)
  · have ltA : kA < x.entry.length := by rw [lenM] at ltA; omega
    have mxA := wf_lenM hw1
    obtain ⟨xA, hxA⟩ := get_of ltA
    obtain ⟨yA, hyA⟩ := get_of (l := y.entry) (k := kA) (by omega)
    refine idxT hxA rfl rfl ?_
    refine idxT hyA rfl rfl ?_
    refine callPD (t102 xA yA) rfl fun _ => ?_
    refine brn_split (fun h7 => ?_) (fun h7 => ?_)
    · exact retP rfl (congrArg C.bool (tru_no fun e => get_ne hxA hyA (ntT h7) (by rw [e])))
    refine Fit.in64 (by omega) (by omega) ?_
    exact ⟨(kA + 1, ()), ⟨ltA, get_step invA hxA hyA (ntF h7)⟩, ⟨nextI, trivial⟩, trivial, nextM ltA⟩
  · have geA : ¬ kA < x.entry.length := by rw [lenM] at geA; omega
    have eA : x.entry = y.entry := lists_eq (n := kA) (by omega) (by omega) invA
    exact retP rfl (congrArg C.bool (tru_yes (rout_eq (str_ext (ndF h0)) (ntF h1) (ntF h2) (ntF h3) (ndF h4) (ntF h5) eA)))
set_option maxRecDepth 10000 in
theorem t15 (x y : Img) : EqOk 15 [.agg (imgC x), .agg (imgC y)] (x = y) := by
  refine callsT_facts Tryz.func15 facts15 rfl fun hw _ => ?_
  have hw1 : Wf (.sl (x.datas.map dataC)) := hw.1.1
  have hw2 : Wf (.sl (x.routs.map routC)) := hw.1.2.1
  refine brn_split (fun h0 => ?_) (fun h0 => ?_)
  · exact retP rfl (congrArg C.bool (tru_no fun e => (ndT h0) (by rw [e])))
  refine brn_split (fun h1 => ?_) (fun h1 => ?_)
  · exact retP rfl (congrArg C.bool (tru_no fun e => (lenNe (by have q := ndT h1; rwa [lenM, lenM] at q)) (by rw [e])))
  have h1 := lenMEq h1
  refine brn_split (fun h2 => ?_) (fun h2 => ?_)
  · exact retP rfl (congrArg C.bool (tru_no fun e => (lenNe (by have q := ndT h2; rwa [lenM, lenM] at q)) (by rw [e])))
  have h2 := lenMEq h2
  refine loopN x.datas.length 5 [] () (fun _ => []) (fun _ => []) (fun k _ => ∀ j < k, x.datas[j]? = y.datas[j]?) (fun j hj => absurd hj (by omega)) (same_keys rfl) trivial trivial (fun _ => rfl) (fun _ => rfl) ?_
  rintro kA ⟨⟩ hkA invA _ _ _
  refine brn_p (fun ltA => ?_) (fun geA => ?_)
  · have ltA : kA < x.datas.length := by rw [lenM] at ltA; omega
    have mxA := wf_lenM hw1
    obtain ⟨xA, hxA⟩ := get_of ltA
    obtain ⟨yA, hyA⟩ := get_of (l := y.datas) (k := kA) (by omega)
    refine idxT hxA rfl rfl ?_
    refine idxT hyA rfl rfl ?_
    refine callPD (t50 xA yA) rfl fun _ => ?_
    refine brn_split (fun h3 => ?_) (fun h3 => ?_)
    · exact retP rfl (congrArg C.bool (tru_no fun e => get_ne hxA hyA (ntT h3) (by rw [e])))
    refine Fit.in64 (by omega) (by omega) ?_
    exact ⟨(kA + 1, ()), ⟨ltA, get_step invA hxA hyA (ntF h3)⟩, ⟨nextI, trivial⟩, trivial, nextM ltA⟩
  · have geA : ¬ kA < x.datas.length := by rw [lenM] at geA; omega
    have eA : x.datas = y.datas := lists_eq (n := kA) (by omega) (by omega) invA
    refine loopN x.routs.length 6 [] () (fun _ => []) (fun _ => []) (fun k _ => ∀ j < k, x.routs[j]? = y.routs[j]?) (fun j hj => absurd hj (by omega)) (same_keys rfl) trivial trivial (fun _ => rfl) (fun _ => rfl) ?_
    rintro kB ⟨⟩ hkB invB _ _ _
    refine brn_p (fun ltB => ?_) (fun geB => ?_)
    · have ltB : kB < x.routs.length := by rw [lenM] at ltB; omega
      have mxB := wf_lenM hw2
      obtain ⟨xB, hxB⟩ := get_of ltB
      obtain ⟨yB, hyB⟩ := get_of (l := y.routs) (k := kB) (by omega)
      refine idxT hxB rfl rfl ?_
      refine idxT hyB rfl rfl ?_
      refine callPD (t51 xB yB) rfl fun _ => ?_
      refine brn_split (fun h4 => ?_) (fun h4 => ?_)
      · exact retP rfl (congrArg C.bool (tru_no fun e => get_ne hxB hyB (ntT h4) (by rw [e])))
      refine Fit.in64 (by omega) (by omega) ?_
      exact ⟨(kB + 1, ()), ⟨ltB, get_step invB hxB hyB (ntF h4)⟩, ⟨nextI, trivial⟩, trivial, nextM ltB⟩
    · have geB : ¬ kB < x.routs.length := by rw [lenM] at geB; omega
      have eB : x.routs = y.routs := lists_eq (n := kB) (by omega) (by omega) invB
      exact retP rfl (congrArg C.bool (tru_yes (img_eq (ndF h0) eA eB)))
end Go.Fr.Tryz

set_option linter.unusedVariables false
set_option linter.unusedSimpArgs false
namespace Go.Fr.Tryz
open Go Go.RowKit Go.Proofs Go.Fr Go.Fr.T Go.Fr.Api

section
variable {L : TL} {ρ : TEnv}
end
end Go.Fr.Tryz
