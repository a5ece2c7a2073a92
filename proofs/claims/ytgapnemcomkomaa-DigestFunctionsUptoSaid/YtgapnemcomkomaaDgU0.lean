/- Digest: how long codes can be. -/
import Derived.Test.YtgapnemcomkomaaDgT8
import Derived.Test.YtgapnemcomkomaaTlBytes
set_option linter.unusedVariables false
set_option linter.unusedSimpArgs false
namespace Go.Fr.Try
open Go Go.RowKit Go.Proofs Go.Fr Go.Fr.T Go.Fr.Api

theorem encN_le : ∀ (j n : Nat), n < 128 ^ (j + 1) → (encN n).length ≤ j + 1
  | 0, n, h => by rw [encN, dif_pos (by simpa using h)]; simp
  | j + 1, n, h => by
    rw [encN]
    split
    · simp
    · have := encN_le j (n / 128) (by rw [Nat.div_lt_iff_lt_mul (by omega)]; rw [Nat.pow_succ] at h; exact h)
      simp only [List.length_cons]; omega
theorem encI_le {n : Int} (h : Wf (IC n)) : (encI n).length ≤ 10 := by
  have h := wf_I h
  refine encN_le 9 _ ?_
  unfold zig
  split <;> omega
theorem encI_leN {n : Nat} (h : n ≤ 9223372036854775807) : (encI n).length ≤ 10 := by
  refine encN_le 9 _ ?_
  unfold zig
  split <;> omega
theorem encIs_one {n : Int} (h : Wf (IC n)) : (encIs [n]).length ≤ 10 := by simpa [encIs] using encI_le h
theorem encS_le {s : ByteArray} (h : s.size ≤ 9223372036854775807) : (encS s).length ≤ 10 + s.size := by
  have := encI_leN h
  have e : s.data.toList.length = s.size := rfl
  simp only [encS, List.length_append, e]
  omega
theorem encSs_one {s : ByteArray} (h : s.size ≤ 1048576) : (encSs [s]).length ≤ 4194304 := by
  have := encS_le (s := s) (by omega)
  rw [show encSs [s] = encS s from List.append_nil _]
  omega
theorem flat_le {α : Type} {e : α → List UInt8} {g : α → G} {W : Nat} : ∀ {l : List α}, (∀ x ∈ l, (e x).length ≤ W * (g x).bulk) → (l.flatMap e).length ≤ W * G.bulkAll (l.map g)
  | [], _ => by simp
  | x :: l, h => by
    have h1 := h x (by simp)
    have h2 := flat_le (l := l) fun y hy => h y (by simp [hy])
    simp only [List.flatMap_cons, List.length_append, List.map_cons, G.bulkAll, Nat.mul_add]
    omega
theorem encL_le {α : Type} {e : α → List UInt8} {g : α → G} {l : List α} {W : Nat} (hl : l.length ≤ 9223372036854775807) (h : ∀ x ∈ l, (e x).length ≤ W * (g x).bulk) : (encL e l).length ≤ W * G.bulkAll (l.map g) + 10 := by
  have := flat_le h
  have := encI_leN hl
  simp only [encL, List.length_append]
  omega
/-- the names of a program are short -/
def Names : Option Prog → Prop
  | none => True
  | some q => (∀ s ∈ q.modules, s.size ≤ 1048576) ∧ (∀ s ∈ q.traits, s.size ≤ 1048576) ∧ (∀ d ∈ q.datas, d.name.size ≤ 1048576) ∧ ∀ f ∈ q.funcs, f.name.size ≤ 1048576
theorem elem_mem {α : Type} {l : List α} {i : Int} {x : α} (h : elem l i = some x) : x ∈ l := by
  unfold elem at h
  split at h
  · cases h
  · exact List.mem_of_getElem? h
theorem nm_le {l : List ByteArray} (h : ∀ s ∈ l, s.size ≤ 1048576) (i : Int) : (nm l i).size ≤ 1048576 := by
  unfold nm
  cases e : elem l i with
  | none => decide
  | some x => exact h x (elem_mem e)
theorem wfS_app {a b : List C} (h : WfS (a ++ b)) : WfS a ∧ WfS b := by
  rw [WfS_iff] at h
  exact ⟨WfS_iff.2 fun c hc => h c (by simp [hc]), WfS_iff.2 fun c hc => h c (by simp [hc])⟩
theorem wf_map {α : Type} {f : α → List C} {l : List α} (h : Wf (.sl (l.map f))) : ∀ x ∈ l, WfS (f x) := by
  intro x hx
  simp only [Wf] at h
  exact WfSS_iff.1 h.2 _ (List.mem_map.2 ⟨x, hx, rfl⟩)
theorem encName_le {po : Option Prog} (hn : Names po) {k i : Int} {b : List UInt8} (h : encName po k i = some b) : b.length ≤ 4194304 := by
  cases po with
  | none => simp [encName] at h
  | some q =>
    obtain ⟨h1, h2, h3, h4⟩ := hn
    unfold encName at h
    simp only at h
    split at h
    · cases e : elem q.datas i with
      | none => rw [e] at h; cases h
      | some d =>
        rw [e] at h
        simp only [Option.map_some, Option.some.injEq] at h
        subst h
        have a1 := encS_le (s := nm q.modules d.module) (by have := nm_le h1 d.module; omega)
        have a2 := encS_le (s := d.name) (by have := h3 d (elem_mem e); omega)
        have := nm_le h1 d.module
        have := h3 d (elem_mem e)
        simp [encSs]
        omega
    · cases h
theorem encTrait_le {po : Option Prog} (hn : Names po) {n : Int} (h : Wf (IC n)) : (encTrait po n).length ≤ 4194304 := by
  cases po with
  | none => have := encIs_one h; simp only [encTrait]; omega
  | some q => exact encSs_one (nm_le hn.2.1 n)
theorem encTy_le {po : Option Prog} (hn : Names po) : ∀ t : Ty, WfS (tyC t) → (encTy po t).length ≤ 4194304 * t.g.bulk
  | .mk k i l, h => by
    have ih : ∀ x ∈ l, (encTy po x).length ≤ 4194304 * x.g.bulk := fun x hx => encTy_le hn x (by
      rw [tyC_eq] at h
      exact wf_map h.2.2.1 x hx)
    rw [tyC_eq] at h
    simp only [Ty.kind, Ty.id, Ty.args] at h
    have h1 := encIs_one h.1
    have h2 := encIs_one h.2.1
    have h3 := encL_le (e := encTy po) (g := Ty.g) (wf_lenM h.2.2.1) ih
    have hb : (Ty.g (.mk k i l)).bulk = 4 + G.bulkAll (l.map Ty.g) := by
      simp only [Ty.g, G.bulk, G.bulkAll, Ty.gs_map]; omega
    rw [encTy_eq, hb]
    simp only [Ty.kind, Ty.id, Ty.args, List.length_append]
    have h1 : (encI k).length ≤ 10 := by simpa [encIs] using h1
    have h2 : (encI i).length ≤ 10 := by simpa [encIs] using h2
    cases e : encName po k i with
    | none => simp [encIs]; omega
    | some b =>
      have := encName_le hn e
      simp [encIs]; omega
termination_by t => SizeOf.sizeOf t
decreasing_by
  have := List.sizeOf_lt_of_mem hx
  simp only [Ty.mk.sizeOf_spec]
  omega
theorem encBound_le {po : Option Prog} (hn : Names po) (b : Bound) (h : WfS (boundC b)) : (encBound po b).length ≤ 4194304 * b.g.bulk := by
  have h1 := encIs_one h.1
  have h2 := encTrait_le hn h.2.1
  simp only [encBound, List.length_append, Bound.g, G.bulk, G.bulkAll]
  omega
theorem ints_le {l : List Int} (h : Wf (.sl (ics l))) : (encL encI l).length ≤ 4194304 * G.bulkAll (l.map I) + 10 := by
  refine encL_le (g := I) (wf_lenM h) fun x hx => ?_
  have h1 := wf_map h x hx
  have := encI_le h1.1
  simp only [G.bulk]
  omega
theorem bulk_take {α : Type} (g : α → G) : ∀ (l : List α) (n : Nat), G.bulkAll ((l.take n).map g) ≤ G.bulkAll (l.map g)
  | [], n => by simp
  | x :: l, 0 => by simp [G.bulkAll]
  | x :: l, n + 1 => by
    have := bulk_take g l n
    simp only [List.take_succ_cons, List.map_cons, G.bulkAll]
    omega
theorem bulk_filter {α : Type} (g : α → G) (p : α → Bool) : ∀ l : List α, G.bulkAll ((l.filter p).map g) ≤ G.bulkAll (l.map g)
  | [] => by simp
  | x :: l => by
    have := bulk_filter g p l
    simp only [List.filter_cons]
    split <;> simp only [List.map_cons, G.bulkAll] <;> omega
theorem encSig_le {po : Option Prog} (hn : Names po) (f : Fun) (h : WfS (funC f)) (hs : f.name.size ≤ 1048576) : (encSig po f).length ≤ 4194304 * f.g.bulk := by
  have ht : WfS (tyC f.result) := by
    rw [tyC_eq]
    exact ⟨h.2.2.2.2.2.1, h.2.2.2.2.2.2.1, h.2.2.2.2.2.2.2.1, trivial⟩
  have w1 := encS_le (s := f.name) (by omega)
  have w2 := encIs_one h.2.2.1
  have w3 := encL_le (e := encBound po) (g := Bound.g) (wf_lenM h.2.2.2.1) fun b hb => encBound_le hn b (wf_map h.2.2.2.1 b hb)
  have w4 := encIs_one h.2.2.2.2.1
  have w5 := encL_le (e := encTy po) (g := Ty.g) (l := argsOf f) (by have := wf_lenM h.2.2.2.2.2.2.2.2.1; simp only [argsOf, List.length_take]; omega) fun t ht => encTy_le hn t (wf_map h.2.2.2.2.2.2.2.2.1 t (List.mem_of_mem_take ht))
  have w6 := encTy_le hn f.result ht
  have w7 := ints_le h.2.2.2.2.2.2.2.2.2.2.1
  have w8 := bulk_take Ty.g f.locals (max 0 (min f.arity f.locals.length)).toNat
  have e1 : (encSs [f.name]).length = (encS f.name).length := by simp [encSs]
  simp only [encSig, List.length_append, Fun.g, G.bulk, G.bulkAll, e1]
  simp only [argsOf] at w5 ⊢
  omega
theorem encIns_le {po : Option Prog} (hn : Names po) (x : Ins) (h : WfS (insC x)) : (encIns po x).length ≤ 4194304 * x.g.bulk := by
  have w1 := encI_le h.1
  have w2 := encI_le h.2.1
  have w3 := encI_le h.2.2.1
  have w4 := encI_le h.2.2.2.1
  have w5 := encI_le h.2.2.2.2.1
  have w6 := ints_le h.2.2.2.2.2.1
  have w7 := encL_le (e := encTy po) (g := Ty.g) (wf_lenM h.2.2.2.2.2.2.1) fun t ht => encTy_le hn t (wf_map h.2.2.2.2.2.2.1 t ht)
  simp only [encIns, encIs, List.flatMap_cons, List.flatMap_nil, List.length_append, List.length_nil, Ins.g, G.bulk, G.bulkAll]
  omega
theorem encBlock_le {po : Option Prog} (hn : Names po) (x : Block) (h : WfS (blockC x)) : (encBlock po x).length ≤ 4194304 * x.g.bulk := by
  have w1 := encI_le h.2.1
  have w2 := encI_le h.2.2.1
  have w6 := ints_le h.2.2.2.1
  have w7 := encL_le (e := encIns po) (g := Ins.g) (wf_lenM h.1) fun t ht => encIns_le hn t (wf_map h.1 t ht)
  simp only [encBlock, encIs, List.flatMap_cons, List.flatMap_nil, List.length_append, List.length_nil, Block.g, Term.g, G.bulk, G.bulkAll]
  omega
theorem encFun_le {po : Option Prog} (hn : Names po) (f : Fun) (h : WfS (funC f)) (hs : f.name.size ≤ 1048576) : (encFun po f).length ≤ 8388608 * f.g.bulk := by
  have w0 := encSig_le hn f h hs
  have w1 := encL_le (e := encTy po) (g := Ty.g) (wf_lenM h.2.2.2.2.2.2.2.2.1) fun t ht => encTy_le hn t (wf_map h.2.2.2.2.2.2.2.2.1 t ht)
  have w2 := encL_le (e := encBlock po) (g := Block.g) (wf_lenM h.2.2.2.2.2.2.2.2.2.1) fun t ht => encBlock_le hn t (wf_map h.2.2.2.2.2.2.2.2.2.1 t ht)
  have e : f.g.bulk = 9 + f.name.size + G.bulkAll (f.bounds.map Bound.g) + f.result.g.bulk + G.bulkAll (f.locals.map Ty.g) + G.bulkAll (f.blocks.map Block.g) + G.bulkAll (f.ties.map I) := by
    simp only [Fun.g, G.bulk, G.bulkAll]; omega
  simp only [encFun, List.length_append]
  omega
end Go.Fr.Try
