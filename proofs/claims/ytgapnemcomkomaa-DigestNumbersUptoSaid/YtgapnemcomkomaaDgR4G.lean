/- Part of the proofs of the statements of this seat. -/
import Derived.Test.YtgapnemcomkomaaDgT8G
import Derived.Test.YtgapnemcomkomaaFW2
/- Digest: how long codes can be. -/
set_option linter.unusedVariables false
set_option linter.unusedSimpArgs false
namespace Go.Fr.Try
open Go Go.RowKit Go.Proofs Go.Fr Go.Fr.T Go.Fr.Api

theorem encN_le : ∀ (j n : Nat), n < 128 ^ (j + 1) → (encN n).length ≤ j + 1
  | 0, n, h => by rw [encN, dif_pos (by simpa using h)]; simp
  | j + 1, n, h => by
    rw [encN]
    split
    · simp
    · have := encN_le j (n / 128) (by rw [Nat.div_lt_iff_lt_mul (by omega)]; rw [Nat.pow_succ] at h; exact h)
      simp only [List.length_cons]; omega
theorem encI_le {n : Int} (h : Wf (IC n)) : (encI n).length ≤ 10 := by
  have h := wf_I h
  refine encN_le 9 _ ?_
  unfold zig
  split <;> omega
theorem encI_leN {n : Nat} (h : n ≤ 9223372036854775807) : (encI n).length ≤ 10 := by
  refine encN_le 9 _ ?_
  unfold zig
  split <;> omega
theorem encIs_one {n : Int} (h : Wf (IC n)) : (encIs [n]).length ≤ 10 := by simpa [encIs] using encI_le h
theorem encS_le {s : ByteArray} (h : s.size ≤ 9223372036854775807) : (encS s).length ≤ 10 + s.size := by
  have := encI_leN h
  have e : s.data.toList.length = s.size := rfl
  simp only [encS, List.length_append, e]
  omega
theorem encSs_one {s : ByteArray} (h : s.size ≤ 1048576) : (encSs [s]).length ≤ 4194304 := by
  have := encS_le (s := s) (by omega)
  rw [show encSs [s] = encS s from List.append_nil _]
  omega
theorem flat_le {α : Type} {e : α → List UInt8} {g : α → G} {W : Nat} : ∀ {l : List α}, (∀ x ∈ l, (e x).length ≤ W * (g x).bulk) → (l.flatMap e).length ≤ W * G.bulkAll (l.map g)
  | [], _ => by simp
  | x :: l, h => by
    have h1 := h x (by simp)
    have h2 := flat_le (l := l) fun y hy => h y (by simp [hy])
    simp only [List.flatMap_cons, List.length_append, List.map_cons, G.bulkAll, Nat.mul_add]
    omega
theorem encL_le {α : Type} {e : α → List UInt8} {g : α → G} {l : List α} {W : Nat} (hl : l.length ≤ 9223372036854775807) (h : ∀ x ∈ l, (e x).length ≤ W * (g x).bulk) : (encL e l).length ≤ W * G.bulkAll (l.map g) + 10 := by
  have := flat_le h
  have := encI_leN hl
  simp only [encL, List.length_append]
  omega
/-- the names of a program are short -/
def Names : Option Prog → Prop
  | none => True
  | some q => (∀ s ∈ q.modules, s.size ≤ 1048576) ∧ (∀ s ∈ q.traits, s.size ≤ 1048576) ∧ (∀ d ∈ q.datas, d.name.size ≤ 1048576) ∧ ∀ f ∈ q.funcs, f.name.size ≤ 1048576
theorem elem_mem {α : Type} {l : List α} {i : Int} {x : α} (h : elem l i = some x) : x ∈ l := by
  unfold elem at h
  split at h
  · cases h
  · exact List.mem_of_getElem? h
theorem nm_le {l : List ByteArray} (h : ∀ s ∈ l, s.size ≤ 1048576) (i : Int) : (nm l i).size ≤ 1048576 := by
  unfold nm
  cases e : elem l i with
  | none => decide
  | some x => exact h x (elem_mem e)
theorem wfS_app {a b : List C} (h : WfS (a ++ b)) : WfS a ∧ WfS b := by
  rw [WfS_iff] at h
  exact ⟨WfS_iff.2 fun c hc => h c (by simp [hc]), WfS_iff.2 fun c hc => h c (by simp [hc])⟩
theorem wf_map {α : Type} {f : α → List C} {l : List α} (h : Wf (.sl (l.map f))) : ∀ x ∈ l, WfS (f x) := by
  intro x hx
  simp only [Wf] at h
  exact WfSS_iff.1 h.2 _ (List.mem_map.2 ⟨x, hx, rfl⟩)
theorem encName_le {po : Option Prog} (hn : Names po) {k i : Int} {b : List UInt8} (h : encName po k i = some b) : b.length ≤ 4194304 := by
  cases po with
  | none => simp [encName] at h
  | some q =>
    obtain ⟨h1, h2, h3, h4⟩ := hn
    unfold encName at h
    simp only at h
    split at h
    · cases e : elem q.datas i with
      | none => rw [e] at h; cases h
      | some d =>
        rw [e] at h
        simp only [Option.map_some, Option.some.injEq] at h
        subst h
        have a1 := encS_le (s := nm q.modules d.module) (by have := nm_le h1 d.module; omega)
        have a2 := encS_le (s := d.name) (by have := h3 d (elem_mem e); omega)
        have := nm_le h1 d.module
        have := h3 d (elem_mem e)
        simp [encSs]
        omega
    · cases h
theorem encTrait_le {po : Option Prog} (hn : Names po) {n : Int} (h : Wf (IC n)) : (encTrait po n).length ≤ 4194304 := by
  cases po with
  | none => have := encIs_one h; simp only [encTrait]; omega
  | some q => exact encSs_one (nm_le hn.2.1 n)
theorem encTy_le {po : Option Prog} (hn : Names po) : ∀ t : Ty, WfS (tyC t) → (encTy po t).length ≤ 4194304 * t.g.bulk
  | .mk k i l, h => by
    have ih : ∀ x ∈ l, (encTy po x).length ≤ 4194304 * x.g.bulk := fun x hx => encTy_le hn x (by
      rw [tyC_eq] at h
      exact wf_map h.2.2.1 x hx)
    rw [tyC_eq] at h
    simp only [Ty.kind, Ty.id, Ty.args] at h
    have h1 := encIs_one h.1
    have h2 := encIs_one h.2.1
    have h3 := encL_le (e := encTy po) (g := Ty.g) (wf_lenM h.2.2.1) ih
    have hb : (Ty.g (.mk k i l)).bulk = 4 + G.bulkAll (l.map Ty.g) := by
      simp only [Ty.g, G.bulk, G.bulkAll, Ty.gs_map]; omega
    rw [encTy_eq, hb]
    simp only [Ty.kind, Ty.id, Ty.args, List.length_append]
    have h1 : (encI k).length ≤ 10 := by simpa [encIs] using h1
    have h2 : (encI i).length ≤ 10 := by simpa [encIs] using h2
    cases e : encName po k i with
    | none => simp [encIs]; omega
    | some b =>
      have := encName_le hn e
      simp [encIs]; omega
termination_by t => SizeOf.sizeOf t
decreasing_by
  have := List.sizeOf_lt_of_mem hx
  simp only [Ty.mk.sizeOf_spec]
  omega
theorem encBound_le {po : Option Prog} (hn : Names po) (b : Bound) (h : WfS (boundC b)) : (encBound po b).length ≤ 4194304 * b.g.bulk := by
  have h1 := encIs_one h.1
  have h2 := encTrait_le hn h.2.1
  simp only [encBound, List.length_append, Bound.g, G.bulk, G.bulkAll]
  omega
theorem ints_le {l : List Int} (h : Wf (.sl (ics l))) : (encL encI l).length ≤ 4194304 * G.bulkAll (l.map I) + 10 := by
  refine encL_le (g := I) (wf_lenM h) fun x hx => ?_
  have h1 := wf_map h x hx
  have := encI_le h1.1
  simp only [G.bulk]
  omega
theorem bulk_take {α : Type} (g : α → G) : ∀ (l : List α) (n : Nat), G.bulkAll ((l.take n).map g) ≤ G.bulkAll (l.map g)
  | [], n => by simp
  | x :: l, 0 => by simp [G.bulkAll]
  | x :: l, n + 1 => by
    have := bulk_take g l n
    simp only [List.take_succ_cons, List.map_cons, G.bulkAll]
    omega
theorem bulk_filter {α : Type} (g : α → G) (p : α → Bool) : ∀ l : List α, G.bulkAll ((l.filter p).map g) ≤ G.bulkAll (l.map g)
  | [] => by simp
  | x :: l => by
    have := bulk_filter g p l
    simp only [List.filter_cons]
    split <;> simp only [List.map_cons, G.bulkAll] <;> omega
theorem encSig_le {po : Option Prog} (hn : Names po) (f : Fun) (h : WfS (funC f)) (hs : f.name.size ≤ 1048576) : (encSig po f).length ≤ 4194304 * f.g.bulk := by
  have ht : WfS (tyC f.result) := by
    rw [tyC_eq]
    exact ⟨h.2.2.2.2.2.1, h.2.2.2.2.2.2.1, h.2.2.2.2.2.2.2.1, trivial⟩
  have w1 := encS_le (s := f.name) (by omega)
  have w2 := encIs_one h.2.2.1
  have w3 := encL_le (e := encBound po) (g := Bound.g) (wf_lenM h.2.2.2.1) fun b hb => encBound_le hn b (wf_map h.2.2.2.1 b hb)
  have w4 := encIs_one h.2.2.2.2.1
  have w5 := encL_le (e := encTy po) (g := Ty.g) (l := argsOf f) (by have := wf_lenM h.2.2.2.2.2.2.2.2.1; simp only [argsOf, List.length_take]; omega) fun t ht => encTy_le hn t (wf_map h.2.2.2.2.2.2.2.2.1 t (List.mem_of_mem_take ht))
  have w6 := encTy_le hn f.result ht
  have w7 := ints_le h.2.2.2.2.2.2.2.2.2.2.1
  have w8 := bulk_take Ty.g f.locals (max 0 (min f.arity f.locals.length)).toNat
  have e1 : (encSs [f.name]).length = (encS f.name).length := by simp [encSs]
  simp only [encSig, List.length_append, Fun.g, G.bulk, G.bulkAll, e1]
  simp only [argsOf] at w5 ⊢
  omega
theorem encIns_le {po : Option Prog} (hn : Names po) (x : Ins) (h : WfS (insC x)) : (encIns po x).length ≤ 4194304 * x.g.bulk := by
  have w1 := encI_le h.1
  have w2 := encI_le h.2.1
  have w3 := encI_le h.2.2.1
  have w4 := encI_le h.2.2.2.1
  have w5 := encI_le h.2.2.2.2.1
  have w6 := ints_le h.2.2.2.2.2.1
  have w7 := encL_le (e := encTy po) (g := Ty.g) (wf_lenM h.2.2.2.2.2.2.1) fun t ht => encTy_le hn t (wf_map h.2.2.2.2.2.2.1 t ht)
  simp only [encIns, encIs, List.flatMap_cons, List.flatMap_nil, List.length_append, List.length_nil, Ins.g, G.bulk, G.bulkAll]
  omega
theorem encBlock_le {po : Option Prog} (hn : Names po) (x : Block) (h : WfS (blockC x)) : (encBlock po x).length ≤ 4194304 * x.g.bulk := by
  have w1 := encI_le h.2.1
  have w2 := encI_le h.2.2.1
  have w6 := ints_le h.2.2.2.1
  have w7 := encL_le (e := encIns po) (g := Ins.g) (wf_lenM h.1) fun t ht => encIns_le hn t (wf_map h.1 t ht)
  simp only [encBlock, encIs, List.flatMap_cons, List.flatMap_nil, List.length_append, List.length_nil, Block.g, Term.g, G.bulk, G.bulkAll]
  omega
theorem encFun_le {po : Option Prog} (hn : Names po) (f : Fun) (h : WfS (funC f)) (hs : f.name.size ≤ 1048576) : (encFun po f).length ≤ 8388608 * f.g.bulk := by
  have w0 := encSig_le hn f h hs
  have w1 := encL_le (e := encTy po) (g := Ty.g) (wf_lenM h.2.2.2.2.2.2.2.2.1) fun t ht => encTy_le hn t (wf_map h.2.2.2.2.2.2.2.2.1 t ht)
  have w2 := encL_le (e := encBlock po) (g := Block.g) (wf_lenM h.2.2.2.2.2.2.2.2.2.1) fun t ht => encBlock_le hn t (wf_map h.2.2.2.2.2.2.2.2.2.1 t ht)
  have e : f.g.bulk = 9 + f.name.size + G.bulkAll (f.bounds.map Bound.g) + f.result.g.bulk + G.bulkAll (f.locals.map Ty.g) + G.bulkAll (f.blocks.map Block.g) + G.bulkAll (f.ties.map I) := by
    simp only [Fun.g, G.bulk, G.bulkAll]; omega
  simp only [encFun, List.length_append]
  omega
end Go.Fr.Try

/- Digest: the fixed examples. -/
set_option linter.unusedVariables false
set_option linter.unusedSimpArgs false
namespace Go.Fr.Try
open Go Go.RowKit Go.Proofs Go.Fr Go.Fr.T Go.Fr.Api

def f0 : Fun := ⟨⟨#[102]⟩, 0, 0, [], 1, tyInt, [tyInt], [], []⟩
def f1 : Fun := ⟨⟨#[102]⟩, 0, 0, [], 1, tyInt, [tyInt, tyInt], [], []⟩
def p0 : Prog := ⟨[⟨#[97]⟩], [], [], [], [], [], [f1], 0⟩
def tyV : Ty := .mk 9 (-1) []
theorem encN_lt {n : Nat} (h : n < 128) : encN n = [UInt8.ofNat n] := by rw [encN, dif_pos h]
theorem size1 (b : UInt8) : (ByteArray.size ⟨#[b]⟩ : Nat) = 1 := rfl
theorem v_tyInt (po : Option Prog) : encTy po tyInt = [2, 0, 0] := by
  cases po <;> simp [encTy, encTys, encName, tyInt, encI, zig, encN_lt] <;> decide
theorem v_tyV : encTy none tyV = [18, 1, 0] := by
  simp [encTy, encTys, encName, tyV, encI, zig, encN_lt] <;> decide
theorem a0 : argsOf f0 = [tyInt] := rfl
theorem a1 : argsOf f1 = [tyInt] := rfl
theorem v_sig0 : encSig none f0 = [2, 102, 0, 0, 2, 2, 2, 0, 0, 2, 0, 0, 0] := by
  simp only [encSig, a0]
  simp [encSs, encS, encIs, encL, encI, zig, encN_lt, f0, v_tyInt, size1] <;> decide
theorem v_sig1 (po : Option Prog) : encSig po f1 = [2, 102, 0, 0, 2, 2, 2, 0, 0, 2, 0, 0, 0] := by
  simp only [encSig, a1]
  simp [encSs, encS, encIs, encL, encI, zig, encN_lt, f1, v_tyInt, size1] <;> decide
theorem v_fun0 : encFun none f0 = [2, 102, 0, 0, 2, 2, 2, 0, 0, 2, 0, 0, 0, 2, 2, 0, 0, 0] := by
  simp only [encFun, v_sig0]
  simp [encL, encI, zig, encN_lt, f0, v_tyInt] <;> decide
theorem v_fun1 : encFun none f1 = [2, 102, 0, 0, 2, 2, 2, 0, 0, 2, 0, 0, 0, 4, 2, 0, 0, 2, 0, 0, 0] := by
  simp only [encFun, v_sig1]
  simp [encL, encI, zig, encN_lt, f1, v_tyInt] <;> decide
theorem v_mod : encModule p0 ⟨#[97]⟩ 0 = [2, 97, 0, 0, 2, 2, 102, 0, 0, 2, 2, 2, 0, 0, 2, 0, 0, 0] := by
  have h : (p0.funcs.filter fun x => decide (x.module = 0)) = [f1] := rfl
  simp only [encModule, h]
  simp [encL, v_sig1, encSs, encS, encI, zig, encN_lt, p0, size1] <;> decide
theorem d0 : digM p0 0 = 1624842418 := by
  show foldN (bytesN (encModule p0 ⟨#[97]⟩ 0)) = _
  rw [v_mod]; rfl
theorem d1 : digM p0 1 = 0 := rfl

theorem h13_0 : CallsT P 13 [.agg (funC f0)] [] (Ret [] (.tup [.int .i64 1381056169, .int .i64 18088938])) := by
  have h := t13 f0 (by rw [v_fun0]; decide)
  rw [v_sig0, v_fun0] at h
  exact h
theorem h13_1 : CallsT P 13 [.agg (funC f1)] [] (Ret [] (.tup [.int .i64 1381056169, .int .i64 721228548])) := by
  have h := t13 f1 (by rw [v_fun1]; decide)
  rw [v_sig1, v_fun1] at h
  exact h
theorem h15_0 : CallsT P 15 [.sl (bcells [])] [] (Ret [] (.int .i64 7)) := t15 []
theorem h15_1 : CallsT P 15 [.sl (bcells [0])] [] (Ret [] (.int .i64 7000022)) := t15 [0]
theorem h17_0 : CallsT P 17 [.sl (ics [0])] [] (Ret [] (.int .i64 7000022)) := t17 [0]
theorem h17_1 : CallsT P 17 [.sl (ics [-1])] [] (Ret [] (.int .i64 7000021)) := t17 [-1]
theorem h20_0 : CallsT P 20 [.agg (tyC tyInt)] [] (Ret [] (.sl (bcells [2, 0, 0]))) := by
  have h := t20 tyInt (by rw [v_tyInt]; decide)
  rw [v_tyInt] at h
  exact h
theorem h20_1 : CallsT P 20 [.agg (tyC tyV)] [] (Ret [] (.sl (bcells [18, 1, 0]))) := by
  have h := t20 tyV (by rw [v_tyV]; decide)
  rw [v_tyV] at h
  exact h
theorem h19_0 : CallsT P 19 [.sl (bcells [2, 0, 0]), .sl (bcells [2, 0, 0])] [] (Ret [] (.bool true)) := t19 [2, 0, 0] [2, 0, 0]
theorem h19_1 : CallsT P 19 [.sl (bcells [18, 1, 0]), .sl (bcells [18, 1, 0])] [] (Ret [] (.bool true)) := t19 [18, 1, 0] [18, 1, 0]
theorem h22_0 : CallsT P 22 [.agg (progC p0), IC 0] [] (Ret [] (.int .i64 1624842418)) := by
  have h := t22 p0 0 (fun name hn => by
    have : name = ⟨#[97]⟩ := by
      have h2 : elem p0.modules 0 = some ⟨#[97]⟩ := rfl
      rw [h2] at hn
      injection hn with hn
      exact hn.symm
    subst this
    rw [v_mod]; decide) (by decide) (by decide) (by decide)
  rw [d0] at h
  exact h
theorem h22_1 : CallsT P 22 [.agg (progC p0), IC 1] [] (Ret [] (.int .i64 0)) := by
  have h := t22 p0 1 (fun name hn => by
    have h2 : elem p0.modules 1 = none := rfl
    rw [h2] at hn
    cases hn) (by decide) (by decide) (by decide)
  rw [d1] at h
  exact h
theorem brn_y {p : Prop} [Decidable p] {A B : Prop} (h : p) (k : A) : brn (decide p) A B := by simp only [h, decide_true]; exact k
theorem brn_n {p : Prop} [Decidable p] {A B : Prop} (h : ¬ p) (k : A) : brn (!decide p) A B := by simp only [h, decide_false]; exact k
set_option maxRecDepth 20000 in
theorem t9 : CallsT P 9 [] [] (Ret [] (.bool true)) := by
  refine callsT_facts Try.func9 facts9 rfl fun hw _ => ?_
  refine callP t30 rfl fun _ => ?_
  refine callP t30 rfl fun _ => ?_
  refine callP h13_0 rfl fun _ => ?_
  refine callPD t30 rfl fun _ => ?_
  refine ⟨Nat.zero_lt_one, ?_, AppT.mk ?_ ?_ ?_ ?_⟩
  · intro es h
    rcases List.mem_cons.1 h with rfl | h
    · rfl
    · cases h
  · intro es h
    rcases List.mem_cons.1 h with rfl | h
    · rfl
    · cases h
  · show 1 + 1 ≤ maxLen
    decide
  · show (1 + 1) * 40 ≤ _
    decide
  refine callF [20] [] [] h13_1 ⟨[], rfl, rfl, rfl, rfl, rfl, fun _ _ => ?_⟩
  refine callPD h15_0 rfl fun _ => ?_
  refine callPD h15_1 rfl fun _ => ?_
  refine callPD h17_0 rfl fun _ => ?_
  refine callPD h17_1 rfl fun _ => ?_
  refine callPD t30 rfl fun _ => ?_
  refine callPD h20_0 rfl fun _ => ?_
  refine callPD h19_0 rfl fun _ => ?_
  refine callPD h20_1 rfl fun _ => ?_
  refine callPD h19_1 rfl fun _ => ?_
  refine callPD h22_0 rfl fun _ => ?_
  refine callPD h22_1 rfl fun _ => ?_
  refine callPD h22_1 rfl fun _ => ?_
  exact retP rfl rfl
end Go.Fr.Try

/- Digest: sizes and comparisons of types. -/
set_option linter.unusedVariables false
set_option linter.unusedSimpArgs false
namespace Go.Fr.Try
open Go Go.RowKit Go.Proofs Go.Fr Go.Fr.T Go.Fr.Api

mutual
def few : Ty → Int → Int
  | .mk _ _ l, m => fewL l m 1
def fewL : List Ty → Int → Int → Int
  | [], _, n => n
  | x :: l, m, n => if n ≤ m then fewL l m (n + few x (m - n)) else n
end
mutual
theorem few_bd : ∀ (t : Ty) (m : Int), 0 ≤ m → 1 ≤ few t m ∧ few t m ≤ m + 1
  | .mk _ _ l, m, h => by
    rw [few]
    exact fewL_bd l m 1 h (by omega) (by omega)
theorem fewL_bd : ∀ (l : List Ty) (m n : Int), 0 ≤ m → 1 ≤ n → n ≤ m + 1 → 1 ≤ fewL l m n ∧ fewL l m n ≤ m + 1
  | [], m, n, _, h1, h2 => by rw [fewL]; exact ⟨h1, h2⟩
  | x :: l, m, n, h0, h1, h2 => by
    rw [fewL]
    split
    · have := few_bd x (m - n) (by omega)
      exact fewL_bd l m _ h0 (by omega) (by omega)
    · exact ⟨h1, h2⟩
end
theorem fewL_stop {l : List Ty} {m n : Int} (h : ¬ n ≤ m) : fewL l m n = n := by
  cases l with
  | nil => rw [fewL]
  | cons x l => rw [fewL, if_neg h]
theorem wf_lenT {l : List Ty} (h : Wf (.sl (l.map tyC))) : l.length ≤ 9223372036854775807 := wf_lenM h
set_option maxRecDepth 10000 in
theorem t31 : ∀ (t : Ty) (m : Int), 0 ≤ m → m ≤ 1000 → CallsT P 31 [.agg (tyC t), IC m] [] (Ret [] (IC (few t m)))
  | .mk k i l, m, h0, h1 => by
    have ih : ∀ x ∈ l, ∀ m' : Int, 0 ≤ m' → m' ≤ 1000 → CallsT P 31 [.agg [IC x.kind, IC x.id, .sl (x.args.map tyC)], IC m'] [] (Ret [] (IC (few x m'))) := fun x hx m' a b => by
      have := t31 x m' a b
      rw [tyC_eq] at this
      exact this
    have hfb := few_bd
    rw [tyC_eq, few]
    simp only [Ty.kind, Ty.id, Ty.args]
    generalize hfew : few = few' at ih hfb
    have hfl : ∀ x r n, fewL (x :: r) m n = if n ≤ m then fewL r m (n + few' x (m - n)) else n := by
      intro x r n; rw [fewL, hfew]
    refine callsT_facts Try.func31 facts31 rfl fun hw _ => ?_
    refine loopN l.length 6 [5] (1 : Int) (fun n => [IC n]) (fun _ => [(2, .box 26 [IC k, IC i, .sl (l.map tyC)])]) (fun k n => fewL (l.drop k) m n = fewL l m 1 ∧ 1 ≤ n ∧ n ≤ m + 1) ⟨rfl, by omega, by omega⟩ (same_keys rfl) ⟨same_keys rfl, trivial⟩ ⟨.inl ⟨_, rfl, .inl ⟨rfl, rfl⟩⟩, trivial⟩ (fun _ => rfl) (fun _ => rfl) ?_
    rintro j n hj ⟨hinv, hn0, hn1⟩ _ _ _
    have hlen : l.length ≤ 9223372036854775807 := wf_lenT hw.1.2.2.1
    refine brn_p (fun hlt => ?_) (fun hge => ?_)
    · have hlt : j < l.length := by simpa using hlt
      have hd := drop_cons hlt
      have hx := hd.choose_spec.1
      have hdr := hd.choose_spec.2
      generalize hd.choose = x at hx hdr
      refine brn_p (fun hle => ?_) (fun hgt => ?_)
      · refine idxTy hx ?_
        refine Fit.in64 (by omega) (by omega) ?_
        refine callP (ih x (List.mem_of_getElem? hx) (m - n) (by omega) (by omega)) rfl fun _ => ?_
        have hb := hfb x (m - n) (by omega)
        refine Fit.in64 (by omega) (by omega) ?_
        refine Fit.in64 (by omega) (by omega) ?_
        refine ⟨(j + 1, n + few' x (m - n)), ⟨hlt, ?_, by omega, by omega⟩, ⟨nextI, same_keys rfl, trivial⟩, ⟨.inl ⟨_, rfl, .inl ⟨rfl, rfl⟩⟩, trivial⟩, nextM hlt⟩
        rw [hdr, hfl, if_pos hle] at hinv
        exact hinv
      · refine retP rfl ?_
        rw [fewL_stop hgt] at hinv
        exact congrArg IC hinv
    · have hge : ¬ j < l.length := by simpa using hge
      rw [drop_end hge] at hinv
      refine retP rfl ?_
      rw [fewL] at hinv
      exact congrArg IC hinv
termination_by t => SizeOf.sizeOf t
decreasing_by
  have := List.sizeOf_lt_of_mem hx
  simp only [Ty.mk.sizeOf_spec]
  omega
end Go.Fr.Try

/- Digest: lists of small types, equal types, and the statement on types. -/
set_option linter.unusedVariables false
set_option linter.unusedSimpArgs false
namespace Go.Fr.Try
open Go Go.RowKit Go.Proofs Go.Fr Go.Fr.T Go.Fr.Api

def smallL (l : List Ty) : Bool := l.all (fun t => decide (few t 30 ≤ 30)) && decide ((l.length : Int) ≤ 8)
set_option maxRecDepth 10000 in
theorem t10 (l : List Ty) : CallsT P 10 [.sl (l.map tyC)] [] (Ret [] (.bool (smallL l))) := by
  have h31 : ∀ x : Ty, CallsT P 31 [.agg [IC x.kind, IC x.id, .sl (x.args.map tyC)], IC 30] [] (Ret [] (IC (few x 30))) := fun x => by
    have := t31 x 30 (by omega) (by omega)
    rw [tyC_eq] at this
    exact this
  have hsm : smallL l = (l.all (fun t => decide (few t 30 ≤ 30)) && decide ((l.length : Int) ≤ 8)) := rfl
  generalize few = fw at h31 hsm
  refine callsT_facts Try.func10 facts10 rfl fun hw _ => ?_
  have hlen : l.length ≤ 9223372036854775807 := wf_lenT hw.1
  refine loopN l.length 3 [] () (fun _ => []) (fun _ => []) (fun k _ => (l.drop k).all (fun t => decide (fw t 30 ≤ 30)) = l.all (fun t => decide (fw t 30 ≤ 30))) rfl (same_keys rfl) trivial trivial (fun _ => rfl) (fun _ => rfl) ?_
  rintro k _ hk hinv _ _ _
  refine brn_p (fun hlt => ?_) (fun hge => ?_)
  · have hlt : k < l.length := by simpa using hlt
    have hd := drop_cons hlt
    have hx := hd.choose_spec.1
    have hdr := hd.choose_spec.2
    generalize hd.choose = x at hx hdr
    refine idxTy hx ?_
    refine callP (h31 x) rfl fun _ => ?_
    rw [hdr, List.all_cons] at hinv
    refine brn_p (fun hgt => ?_) (fun hle => ?_)
    · have hdc : decide (fw x 30 ≤ 30) = false := decide_eq_false (by omega)
      rw [hdc, Bool.false_and] at hinv
      have e : false = smallL l := by rw [hsm, ← hinv, Bool.false_and]
      exact retP rfl (congrArg C.bool e)
    · refine Fit.in64 (by omega) (by omega) ?_
      have hdc : decide (fw x 30 ≤ 30) = true := decide_eq_true (by omega)
      rw [hdc, Bool.true_and] at hinv
      exact ⟨(k + 1, ()), ⟨hlt, hinv⟩, ⟨nextI, trivial⟩, trivial, nextM hlt⟩
  · have hge : ¬ k < l.length := by simpa using hge
    rw [drop_end hge, List.all_nil] at hinv
    have e : decide (((l.map tyC).length : Int) ≤ 8) = smallL l := by rw [hsm, ← hinv, Bool.true_and, List.length_map]
    exact retP rfl (congrArg C.bool e)

def beginsB (b first : List UInt8) : Bool := decide (first.length ≤ b.length) && decide (b.take first.length = first)
theorem bcells_take (b : List UInt8) (n : Nat) : (bcells b).take n = bcells (b.take n) := by simp [bcells, List.map_take]
set_option maxRecDepth 10000 in
theorem t24 (b f : List UInt8) : CallsT P 24 [.sl (bcells b), .sl (bcells f)] [] (Ret [] (.bool (beginsB b f))) := by
  have h19 := t19 (b.take f.length) f
  refine callsT_facts Try.func24 facts24 rfl fun hw _ => ?_
  refine brn_p (fun hle => ?_) (fun hgt => ?_)
  · have hle : f.length ≤ b.length := by simpa [bcells] using hle
    refine SlcT.mk (by omega) (by omega) ?_ bcells_sz ?_
    · simpa [bcells] using hle
    refine callP h19 ?_ fun _ => ?_
    · show [C.sl (((bcells b).drop 0).take (((bcells f).length : Int).toNat - 0)), C.sl (bcells f)] = _
      rw [List.drop_zero, Nat.sub_zero, Int.toNat_natCast, bcells_len, bcells_take]
    have e : decide (b.take f.length = f) = beginsB b f := by unfold beginsB; rw [decide_eq_true hle, Bool.true_and]
    exact retP rfl (congrArg C.bool e)
  · have hgt : ¬ f.length ≤ b.length := by simpa [bcells] using hgt
    have e : false = beginsB b f := by unfold beginsB; rw [decide_eq_false hgt]; rfl
    exact retP rfl (congrArg C.bool e)

mutual
def tyEq : Ty → Ty → Bool
  | .mk k i l, .mk k' i' l' => decide (k = k') && (decide (i = i') && tysEq l l')
def tysEq : List Ty → List Ty → Bool
  | [], [] => true
  | x :: l, y :: l' => tyEq x y && tysEq l l'
  | _, _ => false
end
mutual
theorem tyEq_iff : ∀ a b : Ty, tyEq a b = true ↔ a = b
  | .mk k i l, .mk k' i' l' => by
    simp only [tyEq, Bool.and_eq_true, decide_eq_true_eq, tysEq_iff l l', Ty.mk.injEq]
theorem tysEq_iff : ∀ a b : List Ty, tysEq a b = true ↔ a = b
  | [], [] => by simp [tysEq]
  | x :: l, y :: l' => by simp only [tysEq, Bool.and_eq_true, tyEq_iff x y, tysEq_iff l l', List.cons.injEq]
  | [], y :: l' => by simp [tysEq]
  | x :: l, [] => by simp [tysEq]
end
theorem tysEq_len {l m : List Ty} (h : l.length ≠ m.length) : tysEq l m = false := by
  cases e : tysEq l m with
  | false => rfl
  | true => exact absurd (congrArg List.length ((tysEq_iff l m).1 e)) h
set_option maxRecDepth 10000 in
theorem t70 (l m : List Ty) (ih : ∀ x ∈ l, ∀ y : Ty, CallsT P 25 [.agg [IC x.kind, IC x.id, .sl (x.args.map tyC)], .agg [IC y.kind, IC y.id, .sl (y.args.map tyC)]] [] (Ret [] (.bool (tyEq x y)))) : CallsT P 70 [.sl (l.map tyC), .sl (m.map tyC)] [] (Ret [] (.bool (tysEq l m))) := by
  have hne := tysEq_len (l := l) (m := m)
  have hcons : ∀ x r y s, tysEq (x :: r) (y :: s) = (tyEq x y && tysEq r s) := fun x r y s => by rw [tysEq]
  have hnil : tysEq [] [] = true := by rw [tysEq]
  generalize tyEq = te at ih hcons
  generalize tysEq = ts at hne hcons hnil ⊢
  refine callsT_facts Try.func70 facts70 rfl fun hw _ => ?_
  have hlen : l.length ≤ 9223372036854775807 := wf_lenT hw.1
  refine brn_split (fun hn => ?_) (fun hn => ?_)
  · have hn : (!decide (((l.map tyC).length : Int) = ((m.map tyC).length : Int))) = true := hn
    simp only [List.length_map, Bool.not_eq_true', decide_eq_false_iff_not] at hn
    exact retP rfl (congrArg C.bool (hne (by omega)).symm)
  have hn : (!decide (((l.map tyC).length : Int) = ((m.map tyC).length : Int))) = false := hn
  simp only [List.length_map, Bool.not_eq_false', decide_eq_true_eq] at hn
  refine loopN l.length 5 [] () (fun _ => []) (fun _ => []) (fun k _ => ts (l.drop k) (m.drop k) = ts l m) rfl (same_keys rfl) trivial trivial (fun _ => rfl) (fun _ => rfl) ?_
  rintro k _ hk hinv _ _ _
  refine brn_p (fun hlt => ?_) (fun hge => ?_)
  · have hlt : k < l.length := by simpa using hlt
    have hd := drop_cons hlt
    have hx := hd.choose_spec.1
    have hdr := hd.choose_spec.2
    generalize hd.choose = x at hx hdr
    have hd' := drop_cons (l := m) (k := k) (by omega)
    have hy := hd'.choose_spec.1
    have hdr' := hd'.choose_spec.2
    generalize hd'.choose = y at hy hdr'
    rw [hdr, hdr', hcons] at hinv
    refine idxTy hx ?_
    refine idxTy hy ?_
    refine callPD (ih x (List.mem_of_getElem? hx) y) rfl fun _ => ?_
    refine brn_split (fun hb => ?_) (fun hb => ?_)
    · have hb : (!te x y) = true := hb
      have q : false = ts l m := by rw [← hinv]; cases e : te x y <;> simp_all
      exact retP rfl (congrArg C.bool q)
    · have hb : (!te x y) = false := hb
      refine Fit.in64 (by omega) (by omega) ?_
      have q : ts (l.drop (k + 1)) (m.drop (k + 1)) = ts l m := by rw [← hinv]; cases e : te x y <;> simp_all
      exact ⟨(k + 1, ()), ⟨hlt, q⟩, ⟨nextI, trivial⟩, trivial, nextM hlt⟩
  · have hge : ¬ k < l.length := by simpa using hge
    rw [drop_end hge, drop_end (by omega), hnil] at hinv
    exact retP rfl (congrArg C.bool hinv)
set_option maxRecDepth 10000 in
theorem t25' : ∀ (a b : Ty), CallsT P 25 [.agg [IC a.kind, IC a.id, .sl (a.args.map tyC)], .agg [IC b.kind, IC b.id, .sl (b.args.map tyC)]] [] (Ret [] (.bool (tyEq a b)))
  | .mk k i l, .mk k' i' l' => by
    have h70 := t70 l l' (fun x hx y => t25' x y)
    rw [tyEq]
    simp only [Ty.kind, Ty.id, Ty.args]
    generalize tysEq l l' = e at h70 ⊢
    refine callsT_facts Try.func25 facts25 rfl fun hw _ => ?_
    refine brn_p (fun h1 => ?_) (fun h1 => ?_)
    · refine brn_p (fun h2 => ?_) (fun h2 => ?_)
      · refine callP h70 rfl fun _ => ?_
        have q : e = (decide (k = k') && (decide (i = i') && e)) := by rw [decide_eq_true h1, decide_eq_true h2]; rfl
        exact retP rfl (congrArg C.bool q)
      · have q : false = (decide (k = k') && (decide (i = i') && e)) := by rw [decide_eq_true h1, decide_eq_false h2]; rfl
        exact retP rfl (congrArg C.bool q)
    · have q : false = (decide (k = k') && (decide (i = i') && e)) := by rw [decide_eq_false h1]; rfl
      exact retP rfl (congrArg C.bool q)
termination_by a => SizeOf.sizeOf a
decreasing_by
  have := List.sizeOf_lt_of_mem hx
  simp only [Ty.mk.sizeOf_spec]
  omega
theorem t25 (a b : Ty) : CallsT P 25 [.agg (tyC a), .agg (tyC b)] [] (Ret [] (.bool (tyEq a b))) := by
  have := t25' a b
  rw [← tyC_eq, ← tyC_eq] at this
  exact this
end Go.Fr.Try

/- Digest: tiny functions, small programs: nothing is asked of the answer. -/
set_option linter.unusedVariables false
set_option linter.unusedSimpArgs false
namespace Go.Fr.Try
open Go Go.RowKit Go.Proofs Go.Fr Go.Fr.T Go.Fr.Api

theorem t31' (x : Ty) : CallsT P 31 [.agg [IC x.kind, IC x.id, .sl (x.args.map tyC)], IC 30] [] (Ret [] (IC (few x 30))) := by
  have := t31 x 30 (by omega) (by omega)
  rw [tyC_eq] at this
  exact this
set_option maxRecDepth 10000 in
theorem t11 (f : Fun) : CallsT P 11 [.agg (funC f)] [] (Such True) := by
  have h31 := t31'
  have h10 := t10
  generalize few = fw at h31
  generalize smallL = sm at h10
  refine callsT_facts Try.func11 facts11 rfl fun hw _ => ?_
  have hw := hw.1
  have hl1 : f.locals.length ≤ 9223372036854775807 := wf_lenM hw.2.2.2.2.2.2.2.2.1
  have hl2 : f.blocks.length ≤ 9223372036854775807 := wf_lenM hw.2.2.2.2.2.2.2.2.2.1
  have hlb : ∀ b ∈ f.blocks, b.code.length ≤ 9223372036854775807 := fun b hb => wf_lenM (wf_map hw.2.2.2.2.2.2.2.2.2.1 b hb).1
  refine brn_p (fun _ => ?_) (fun _ => ?_)
  · exact retB false rfl rfl (fun _ => trivial)
  refine brn_p (fun _ => ?_) (fun _ => ?_)
  · exact retB false rfl rfl (fun _ => trivial)
  refine brn_p (fun _ => ?_) (fun _ => ?_)
  · exact retB false rfl rfl (fun _ => trivial)
  refine brn_p (fun _ => ?_) (fun _ => ?_)
  · exact retB false rfl rfl (fun _ => trivial)
  refine callP (h31 f.result) rfl fun _ => ?_
  refine brn_p (fun _ => ?_) (fun _ => ?_)
  · exact retB false rfl rfl (fun _ => trivial)
  refine loopN f.locals.length 3 [] () (fun _ => []) (fun _ => [(1, .box 30 (funC f))]) (fun _ _ => True) trivial (same_keys rfl) trivial ⟨.inl ⟨_, rfl, .inl ⟨rfl, rfl⟩⟩, trivial⟩ (fun _ => rfl) (fun _ => rfl) ?_
  rintro k _ hk _ _ _ _
  refine brn_p (fun hlt => ?_) (fun hge => ?_)
  · have hlt : k < f.locals.length := by simpa using hlt
    refine withGet hlt fun x hx _ => ?_
    refine idxTy hx ?_
    refine callP (h31 _) rfl fun _ => ?_
    refine brn_p (fun _ => ?_) (fun _ => ?_)
    · exact retB false rfl rfl (fun _ => trivial)
    refine Fit.in64 (by omega) (by omega) ?_
    exact ⟨(k + 1, ()), ⟨hlt, trivial⟩, ⟨nextI, trivial⟩, ⟨.inl ⟨_, rfl, .inl ⟨rfl, rfl⟩⟩, trivial⟩, nextM hlt⟩
  refine loopN f.blocks.length 4 [] () (fun _ => []) (fun _ => [(1, .box 30 (funC f))]) (fun _ _ => True) trivial (same_keys rfl) trivial ⟨.inl ⟨_, rfl, .inl ⟨rfl, rfl⟩⟩, trivial⟩ (fun _ => rfl) (fun _ => rfl) ?_
  rintro k _ hk _ _ _ _
  refine brn_p (fun hlt => ?_) (fun hge => ?_)
  · have hlt : k < f.blocks.length := by simpa using hlt
    refine withGet hlt fun b hbx hbm => ?_
    have hbl := hlb b hbm
    refine idxT hbx rfl rfl ?_
    refine brn_p (fun _ => ?_) (fun _ => ?_)
    · exact retB false rfl rfl (fun _ => trivial)
    refine idxT hbx rfl rfl ?_
    refine brn_p (fun _ => ?_) (fun _ => ?_)
    · exact retB false rfl rfl (fun _ => trivial)
    refine loopN b.code.length 5 [4] () (fun _ => [IC k]) (fun _ => [(1, .box 30 (funC f))]) (fun _ _ => True) trivial (same_keys rfl) ⟨same_keys rfl, trivial⟩ ⟨.inl ⟨_, rfl, .inl ⟨rfl, rfl⟩⟩, trivial⟩ (fun _ => rfl) (fun _ => rfl) ?_
    rintro j _ hj _ _ _ _
    refine idxT hbx rfl rfl ?_
    refine brn_p (fun hlt' => ?_) (fun hge => ?_)
    · have hlt' : j < b.code.length := by simpa using hlt'
      refine idxT hbx rfl rfl ?_
      refine withGet hlt' fun y hy _ => ?_
      refine idxT hy rfl rfl ?_
      refine brn_p (fun _ => ?_) (fun _ => ?_)
      · exact retB false rfl rfl (fun _ => trivial)
      refine callP (h10 _) rfl fun _ => ?_
      refine brn_split (fun _ => ?_) (fun _ => ?_)
      · exact retB false rfl rfl (fun _ => trivial)
      refine Fit.in64 (by omega) (by omega) ?_
      exact ⟨(j + 1, ()), ⟨hlt', trivial⟩, ⟨nextI, same_keys rfl, trivial⟩, ⟨.inl ⟨_, rfl, .inl ⟨rfl, rfl⟩⟩, trivial⟩, nextM hlt'⟩
    refine Fit.in64 (by omega) (by omega) ?_
    exact ⟨(k + 1, ()), ⟨hlt, trivial⟩, ⟨nextI, trivial⟩, ⟨.inl ⟨_, rfl, .inl ⟨rfl, rfl⟩⟩, trivial⟩, nextM hlt⟩
  exact retB true rfl rfl (fun _ => trivial)
end Go.Fr.Try

/- Digest: the reference implementation: numbers, lists of numbers, texts, sums. -/
set_option linter.unusedVariables false
set_option linter.unusedSimpArgs false
namespace Go.Fr.Try
open Go Go.RowKit Go.Proofs Go.Fr Go.Fr.T Go.Fr.Api

/-- bytes are handed back, the caller's from now on -/
abbrev Rb (f : Nat) (args : List C) (code : List UInt8) : Prop := CallsT P f args [] (Ret [.row 5 1 (bcells code)] (.rw 1000))
section
variable {L : TL} {ρ : TEnv}
theorem callDO {f : Nat} {args args' : List C} {K : TL → C → Prop} {t sz : Nat} {els : List (List C)} {k : Nat} (h : CallsT P f args' [] (Ret [.row t sz els] (.rw 1000))) (ha : (args.map fun c => c.canA.ren (toIn [] 1000)) = args') (hk : L.get k = none) (kk : K (L.set k (.row t sz els)) (.rw k)) : CallDT P f args L (some k) K := by
  subst ha
  exact .own _ k h rfl hk fun v Mo ⟨e1, e2⟩ _ _ => by subst e1 e2; exact ⟨_, rfl, kk⟩
end
theorem appB {a b : List UInt8} {K : Prop} (h : a.length + b.length ≤ 140737488355328) (k : K) : AppT (bcells a) (bcells b) 1 1 K :=
  ⟨bcells_sz, by rw [bcells_len, bcells_len]; simp [maxLen]; omega, by rw [bcells_len, bcells_len]; simp; omega, k⟩
set_option maxRecDepth 10000 in
theorem t77 (n : Int) : Rb 77 [IC n] (encI n) := by
  refine callsT_facts Try.func77 facts77 rfl fun hw _ => ?_
  have hn := wf_I hw.1
  have hzl : (encI n).length ≤ 10 := encI_le hw.1
  refine Fit.to (wrap_u64 _) ?_
  refine Fit.to (wrap_u64 _) ?_
  refine brn_p (fun hneg => ?_) (fun hpos => ?_)
  · refine Fit.in64 (by omega) (by omega) ?_
    refine Fit.in64 (by omega) (by omega) ?_
    refine Fit.to (wrap_u64 _) ?_
    refine Fit.to (wrap_u64 _) ?_
    refine Fit.to (wrap_u64 _) ?_
    refine LoopT.mk ⟨Nat × List UInt8, (zig n, []), fun y => y.1 < 18446744073709551616 ∧ y.2 ++ encN y.1 = encI n, [3, 4], fun y => [.int .u64 y.1, .rw 24], fun y => [(24, .row 5 1 (bcells y.2))], fun y => y.1, ⟨?_, rfl⟩, ⟨.inr (.inl ⟨?_, rfl⟩), .inr (.inr (.inr (.inl ⟨rfl, 24, 5, 1, rfl, rfl, rfl⟩))), trivial⟩,
      ⟨.inr ⟨rfl, 5, 1, rfl⟩, trivial⟩, fun _ => rfl, fun _ => rfl, ?_⟩
    · show zig n < _
      unfold zig; split <;> omega
    · refine congrArg (C.int .u64) ?_
      unfold zig; rw [if_pos hneg]; omega
    · rintro ⟨m, done⟩ ⟨hm64, hmi⟩ _ _
      simp only at hmi hm64
      have hdl : done.length + (encN m).length ≤ 10 := by
        have := congrArg List.length hmi
        simp only [List.length_append] at this
        omega
      have h1 := encN_len m
      refine brn_p (fun hm => ?_) (fun hm => ?_)
      · have hm : 128 ≤ m := by have : (128 : Int) ≤ (m : Int) := hm; omega
        have hde : encN m = UInt8.ofNat (128 + m % 128) :: encN (m / 128) := by rw [encN, dif_neg (by omega)]
        refine NonZ.mk (by omega) ?_
        refine Fit.to (wrap_u64 _) ?_
        refine Fit.to (u8_hi m) ?_
        refine app1 (bs := done) (by omega) ?_
        refine NonZ.mk (by omega) ?_
        refine Fit.to (wrap_u64 _) ?_
        refine ⟨(m / 128, done ++ [UInt8.ofNat (128 + m % 128)]), ⟨?_, ?_⟩, ⟨.inr (.inl ⟨?_, rfl⟩), same_keys rfl, trivial⟩, ⟨.inl ⟨_, rfl, .inl ⟨?_, rfl⟩⟩, trivial⟩, ?_⟩
        · show m / 128 < _; omega
        · show done ++ [UInt8.ofNat (128 + m % 128)] ++ encN (m / 128) = encI n
          rw [← hmi, hde]; simp
        · refine congrArg (C.int .u64) ?_
          show ((m / 128 : Nat) : Int) % _ = ((m / 128 : Nat) : Int)
          omega
        · exact congrArg (TO.row 5 1) (bcells_snoc _ _).symm
        · show m / 128 < m; omega
      · have hm : m < 128 := by have : ¬ (128 : Int) ≤ (m : Int) := hm; omega
        have hde : encN m = [UInt8.ofNat m] := by rw [encN, dif_pos hm]
        refine Fit.to (u8_lo m) ?_
        refine app1 (bs := done) (by omega) ?_
        have e : bcells done ++ [[bcell (UInt8.ofNat m)]] = bcells (encI n) := by rw [← hmi, hde, bcells_snoc]
        exact retO [24] rfl rfl (congrArg (fun c => [TO.row 5 1 c]) e) rfl
  · refine LoopT.mk ⟨Nat × List UInt8, (zig n, []), fun y => y.1 < 18446744073709551616 ∧ y.2 ++ encN y.1 = encI n, [3, 4], fun y => [.int .u64 y.1, .rw 24], fun y => [(24, .row 5 1 (bcells y.2))], fun y => y.1, ⟨?_, rfl⟩, ⟨.inr (.inl ⟨?_, rfl⟩), .inr (.inr (.inr (.inl ⟨rfl, 24, 5, 1, rfl, rfl, rfl⟩))), trivial⟩,
      ⟨.inr ⟨rfl, 5, 1, rfl⟩, trivial⟩, fun _ => rfl, fun _ => rfl, ?_⟩
    · show zig n < _
      unfold zig; split <;> omega
    · refine congrArg (C.int .u64) ?_
      unfold zig; rw [if_neg hpos]; omega
    · rintro ⟨m, done⟩ ⟨hm64, hmi⟩ _ _
      simp only at hmi hm64
      have hdl : done.length + (encN m).length ≤ 10 := by
        have := congrArg List.length hmi
        simp only [List.length_append] at this
        omega
      have h1 := encN_len m
      refine brn_p (fun hm => ?_) (fun hm => ?_)
      · have hm : 128 ≤ m := by have : (128 : Int) ≤ (m : Int) := hm; omega
        have hde : encN m = UInt8.ofNat (128 + m % 128) :: encN (m / 128) := by rw [encN, dif_neg (by omega)]
        refine NonZ.mk (by omega) ?_
        refine Fit.to (wrap_u64 _) ?_
        refine Fit.to (u8_hi m) ?_
        refine app1 (bs := done) (by omega) ?_
        refine NonZ.mk (by omega) ?_
        refine Fit.to (wrap_u64 _) ?_
        refine ⟨(m / 128, done ++ [UInt8.ofNat (128 + m % 128)]), ⟨?_, ?_⟩, ⟨.inr (.inl ⟨?_, rfl⟩), same_keys rfl, trivial⟩, ⟨.inl ⟨_, rfl, .inl ⟨?_, rfl⟩⟩, trivial⟩, ?_⟩
        · show m / 128 < _; omega
        · show done ++ [UInt8.ofNat (128 + m % 128)] ++ encN (m / 128) = encI n
          rw [← hmi, hde]; simp
        · refine congrArg (C.int .u64) ?_
          show ((m / 128 : Nat) : Int) % _ = ((m / 128 : Nat) : Int)
          omega
        · exact congrArg (TO.row 5 1) (bcells_snoc _ _).symm
        · show m / 128 < m; omega
      · have hm : m < 128 := by have : ¬ (128 : Int) ≤ (m : Int) := hm; omega
        have hde : encN m = [UInt8.ofNat m] := by rw [encN, dif_pos hm]
        refine Fit.to (u8_lo m) ?_
        refine app1 (bs := done) (by omega) ?_
        have e : bcells done ++ [[bcell (UInt8.ofNat m)]] = bcells (encI n) := by rw [← hmi, hde, bcells_snoc]
        exact retO [24] rfl rfl (congrArg (fun c => [TO.row 5 1 c]) e) rfl
end Go.Fr.Try

/- Digest: the reference implementation: lists of numbers, texts, sums. -/
set_option linter.unusedVariables false
set_option linter.unusedSimpArgs false
namespace Go.Fr.Try
open Go Go.RowKit Go.Proofs Go.Fr Go.Fr.T Go.Fr.Api

theorem rowE {a b : List (List C)} (h : a = b) : [TO.row 5 1 a] = [TO.row 5 1 b] := by rw [h]
set_option maxRecDepth 10000 in
theorem t46 (l : List Int) (hb : (encIs l).length ≤ 2 ^ 46) : Rb 46 [.sl (ics l)] (encIs l) := by
  have h77 := fun n => (t77 n).give
  refine callsT_facts Try.func46 facts46 rfl fun hw _ => ?_
  have hlen : l.length ≤ 9223372036854775807 := wf_lenM hw.1
  refine loopN l.length 4 [3] ([] : List UInt8) (fun _ => [.rw 17]) (fun s => [(17, .row 5 1 (bcells s))]) (fun k s => s ++ encIs (l.drop k) = encIs l) rfl (same_keys rfl) ⟨.inr (.inr (.inr (.inl ⟨rfl, 17, 5, 1, rfl, rfl, rfl⟩))), trivial⟩
    ⟨.inr ⟨rfl, 5, 1, rfl⟩, trivial⟩ (fun _ => rfl) (fun _ => rfl) ?_
  rintro k s hk hinv _ _ _
  refine brn_p (fun hlt => ?_) (fun hge => ?_)
  · have hlt : k < l.length := by simpa [ics] using hlt
    refine withDrop hlt fun x hx hxm hd => ?_
    rw [hd] at hinv
    have hsz : s.length + (encI x).length ≤ 2 ^ 46 := by
      have := congrArg List.length hinv
      simp only [encIs, List.flatMap_cons, List.length_append] at this hb
      omega
    refine idxI hx ?_
    refine callP (h77 x) rfl fun _ => ?_
    refine appB (a := s) (b := encI x) (by omega) ?_
    refine Fit.in64 (by omega) (by omega) ?_
    refine ⟨(k + 1, s ++ encI x), ⟨hlt, ?_⟩, ⟨nextI, same_keys rfl, trivial⟩, ⟨.inl ⟨_, rfl, .inl ⟨?_, rfl⟩⟩, trivial⟩, nextM hlt⟩
    · show s ++ encI x ++ encIs (l.drop (k + 1)) = encIs l
      rw [← hinv]; simp [encIs]
    · exact congrArg (TO.row 5 1) (bcells_app _ _).symm
  · have hge : ¬ k < l.length := by simpa [ics] using hge
    rw [drop_end hge] at hinv
    have e : s = encIs l := by rw [← hinv]; simp [encIs]
    exact retO [17] rfl rfl (rowE (congrArg bcells e)) rfl
set_option maxRecDepth 10000 in
theorem t79 (l : List Int) (hb : (encL encI l).length ≤ 2 ^ 46) : Rb 79 [.sl (ics l)] (encL encI l) := by
  have e : encL encI l = encI l.length ++ encIs l := rfl
  have e2 : bcells (encI l.length) ++ bcells (encIs l) = bcells (encL encI l) := by rw [e, bcells_app]
  have h46 := (t46 l (by rw [e] at hb; simp only [List.length_append] at hb; omega)).give
  have h77 := t77 l.length
  have hl : (ics l).length = l.length := by simp [ics]
  rw [← hl] at h77
  rw [← hl] at e2
  have hsz : (encI (ics l).length).length + (encIs l).length ≤ 140737488355328 := by rw [hl]; rw [e] at hb; simp only [List.length_append] at hb; omega
  generalize encIs l = c2 at *
  generalize encL encI l = c3 at *
  refine callsT_facts Try.func79 facts79 rfl fun hw _ => ?_
  refine callO [] [5] h77 rfl rfl rfl rfl rfl fun _ _ => ?_
  refine callP h46 rfl fun _ => ?_
  refine appB hsz ?_
  exact retO [5] rfl rfl (rowE e2) rfl
set_option maxRecDepth 10000 in
theorem t76 (s : ByteArray) (hb : (encS s).length ≤ 2 ^ 46) : Rb 76 [.str s] (encS s) := by
  have e : encS s = encI s.size ++ s.data.toList := rfl
  have e2 : bcells (encI s.size) ++ bcells s.data.toList = bcells (encS s) := by rw [e, bcells_app]
  have h77 := t77 s.size
  have hsz : (encI s.size).length + s.data.toList.length ≤ 140737488355328 := by rw [e] at hb; simp only [List.length_append] at hb; omega
  generalize encS s = c3 at *
  refine callsT_facts Try.func76 facts76 rfl fun hw _ => ?_
  refine callO [] [5] h77 rfl rfl rfl rfl rfl fun _ _ => ?_
  refine appB hsz ?_
  exact retO [5] rfl rfl (rowE e2) rfl
set_option maxRecDepth 10000 in
theorem t86 (l : List ByteArray) (i : Int) : CallsT P 86 [.sl (scs l), IC i] [] (Ret [] (.str (nm l i))) := by
  have hl : (scs l).length = l.length := by simp [scs]
  refine callsT_facts Try.func86 facts86 rfl fun hw _ => ?_
  refine brn_p (fun h1 => ?_) (fun h1 => ?_)
  · have e : (⟨#[]⟩ : ByteArray) = nm l i := by simp [nm, elem, h1]
    exact retP rfl (congrArg C.str e)
  refine brn_p (fun h2 => ?_) (fun h2 => ?_)
  · have e : (⟨#[]⟩ : ByteArray) = nm l i := by
      rw [hl] at h2
      simp [nm, elem, h1, List.getElem?_eq_none (show l.length ≤ i.toNat by omega)]
    exact retP rfl (congrArg C.str e)
  · rw [hl] at h2
    have hlt : i.toNat < l.length := by omega
    refine withGet hlt fun x hx _ => ?_
    have e : x = nm l i := by simp [nm, elem, h1, hx]
    refine ⟨[.str x], by omega, by simp [scs, hx], rfl, ?_⟩
    exact retP rfl (congrArg C.str e)
set_option maxRecDepth 10000 in
theorem t16 (bs : List UInt8) : CallsT P 16 [.sl (bcells bs)] [] (Ret [] (.int .i64 (foldN (bytesN bs)))) := by
  refine callsT_facts Try.func16 facts16 rfl fun hw _ => ?_
  have hlen : bs.length ≤ 9223372036854775807 := wf_lenB hw.1
  refine loopN bs.length 4 [3] (7 : Int) (fun h => [IC h]) (fun _ => []) (fun k h => (bytesN (bs.drop k)).foldl stepN h = foldN (bytesN bs) ∧ 0 ≤ h ∧ h < 2147483647) ⟨rfl, by omega, by omega⟩ (same_keys rfl) ⟨same_keys rfl, trivial⟩ trivial (fun _ => rfl) (fun _ => rfl) ?_
  rintro k h hk ⟨hinv, h0, h1⟩ _ _ _
  refine brn_p (fun hlt => ?_) (fun hge => ?_)
  · have hlt : k < bs.length := by simpa [bcells] using hlt
    refine withDrop hlt fun x hx hxm hd => ?_
    rw [hd] at hinv
    have hxb := x.toNat_lt
    refine Fit.in64 (by omega) (by omega) ?_
    refine idxB hx ?_
    refine Fit.in64 (by omega) (by omega) ?_
    refine Fit.in64 (by omega) (by omega) ?_
    refine Fit.in64 (by omega) (by omega) ?_
    refine NonZ.mk (by omega) ?_
    have hs : 0 ≤ stepN h x.toNat ∧ stepN h x.toNat < 2147483647 := by
      unfold stepN
      rw [Int.tmod_eq_emod_of_nonneg (by omega)]
      exact ⟨Int.emod_nonneg _ (by omega), Int.emod_lt_of_pos _ (by omega)⟩
    refine Fit.in64 (by omega) (by omega) ?_
    exact ⟨(k + 1, stepN h x.toNat), ⟨hlt, hinv, hs.1, hs.2⟩, ⟨nextI, same_keys rfl, trivial⟩, trivial, nextM hlt⟩
  · have hge : ¬ k < bs.length := by simpa [bcells] using hge
    rw [drop_end hge] at hinv
    exact retP rfl (congrArg (C.int .i64) hinv)
set_option maxRecDepth 10000 in
theorem t43 (n : Int) : CallsT P 43 [IC n] [] (Ret [] (IC (modN n))) := by
  have hb := tmod_bd n
  refine callsT_facts Try.func43 facts43 rfl fun hw _ => ?_
  refine NonZ.mk (by omega) ?_
  refine Fit.in64 (by omega) (by omega) ?_
  refine NonZ.mk (by omega) ?_
  exact retP rfl rfl
set_option maxRecDepth 10000 in
theorem t18 (l : List Int) : CallsT P 18 [.sl (ics l)] [] (Ret [] (.int .i64 (foldN (l.map modN)))) := by
  have h43 := t43
  have hbd := modN_bd
  generalize modN = md at *
  refine callsT_facts Try.func18 facts18 rfl fun hw _ => ?_
  have hlen : l.length ≤ 9223372036854775807 := wf_lenM hw.1
  refine loopN l.length 4 [3] (7 : Int) (fun h => [IC h]) (fun _ => []) (fun k h => ((l.drop k).map md).foldl stepN h = foldN (l.map md) ∧ 0 ≤ h ∧ h < 2147483647) ⟨rfl, by omega, by omega⟩ (same_keys rfl) ⟨same_keys rfl, trivial⟩ trivial (fun _ => rfl) (fun _ => rfl) ?_
  rintro k h hk ⟨hinv, h0, h1⟩ _ _ _
  refine brn_p (fun hlt => ?_) (fun hge => ?_)
  · have hlt : k < l.length := by simpa [ics] using hlt
    refine withDrop hlt fun x hx hxm hd => ?_
    rw [hd] at hinv
    have hxb := hbd x
    refine Fit.in64 (by omega) (by omega) ?_
    refine idxI hx ?_
    refine callP (h43 x) rfl fun _ => ?_
    refine Fit.in64 (by omega) (by omega) ?_
    refine Fit.in64 (by omega) (by omega) ?_
    refine NonZ.mk (by omega) ?_
    have hs : 0 ≤ stepN h (md x) ∧ stepN h (md x) < 2147483647 := by
      unfold stepN
      rw [Int.tmod_eq_emod_of_nonneg (by omega)]
      exact ⟨Int.emod_nonneg _ (by omega), Int.emod_lt_of_pos _ (by omega)⟩
    refine Fit.in64 (by omega) (by omega) ?_
    exact ⟨(k + 1, stepN h (md x)), ⟨hlt, hinv, hs.1, hs.2⟩, ⟨nextI, same_keys rfl, trivial⟩, trivial, nextM hlt⟩
  · have hge : ¬ k < l.length := by simpa [ics] using hge
    rw [drop_end hge] at hinv
    exact retP rfl (congrArg (C.int .i64) hinv)
end Go.Fr.Try

/- Digest: the reference implementation: types, signatures, functions. -/
set_option linter.unusedVariables false
set_option linter.unusedSimpArgs false
namespace Go.Fr.Try
open Go Go.RowKit Go.Proofs Go.Fr Go.Fr.T Go.Fr.Api

/-- one after the other -/
theorem app2 {a b : List UInt8} {n : Nat} (h : (a ++ b).length ≤ n) : a.length ≤ n ∧ b.length ≤ n := by
  simp only [List.length_append] at h; omega
set_option maxRecDepth 10000 in
theorem t47 (l : List Ty) (E : Ty → List UInt8) (ih : ∀ x ∈ l, (E x).length ≤ 2 ^ 46 → Rb 21 [.agg [IC x.kind, IC x.id, .sl (x.args.map tyC)]] (E x)) (hb : (encL E l).length ≤ 2 ^ 46) : Rb 47 [.sl (l.map tyC)] (encL E l) := by
  have h77 := t77 l.length
  have hlm : (l.map tyC).length = l.length := List.length_map _
  have e0 : encL E l = encI l.length ++ l.flatMap E := rfl
  rw [← hlm] at h77
  rw [e0, ← hlm] at hb
  have e1 : encL E l = encI (l.map tyC).length ++ l.flatMap E := by rw [hlm, e0]
  generalize encL E l = code at *
  refine callsT_facts Try.func47 facts47 rfl fun hw _ => ?_
  have hlen : l.length ≤ 9223372036854775807 := wf_lenM hw.1
  refine callO [] [7] h77 rfl rfl rfl rfl rfl fun _ _ => ?_
  refine loopN l.length 4 [3] (encI (l.map tyC).length) (fun _ => [.rw 7]) (fun s => [(7, .row 5 1 (bcells s))]) (fun k s => s ++ (l.drop k).flatMap E = code) (by rw [e1]; rfl) (same_keys rfl) ⟨same_keys rfl, trivial⟩
    ⟨.inl ⟨_, rfl, .inl ⟨rfl, rfl⟩⟩, trivial⟩ (fun _ => rfl) (fun _ => rfl) ?_
  rintro k s hk hinv _ _ _
  refine brn_p (fun hlt => ?_) (fun hge => ?_)
  · have hlt : k < l.length := by simpa using hlt
    refine withDrop hlt fun x hx hxm hd => ?_
    rw [hd] at hinv
    have hsz : s.length + (E x).length ≤ 2 ^ 46 := by
      have := congrArg List.length (hinv.trans e1)
      simp only [List.flatMap_cons, List.length_append] at this hb
      omega
    refine idxTy hx ?_
    refine callP (ih x hxm (by omega)).give rfl fun _ => ?_
    refine appB (a := s) (b := E x) (by omega) ?_
    refine Fit.in64 (by omega) (by omega) ?_
    refine ⟨(k + 1, s ++ E x), ⟨hlt, ?_⟩, ⟨nextI, same_keys rfl, trivial⟩, ⟨.inl ⟨_, rfl, .inl ⟨?_, rfl⟩⟩, trivial⟩, nextM hlt⟩
    · show s ++ E x ++ (l.drop (k + 1)).flatMap E = code
      rw [← hinv]; simp
    · exact congrArg (TO.row 5 1) (bcells_app _ _).symm
  · have hge : ¬ k < l.length := by simpa using hge
    rw [drop_end hge] at hinv
    have e : s = code := by rw [← hinv]; simp
    exact retO [7] rfl rfl (rowE (congrArg bcells e)) rfl
set_option maxRecDepth 10000 in
theorem t21' : ∀ (t : Ty), (encTy none t).length ≤ 2 ^ 46 → Rb 21 [.agg [IC t.kind, IC t.id, .sl (t.args.map tyC)]] (encTy none t)
  | .mk k i l, hb => by
    have h47 := t47 l (encTy none) (fun x hx hs => t21' x hs)
    have e : encTy none (.mk k i l) = encIs [k, i] ++ encL (encTy none) l := by
      rw [encTy_eq]
      simp only [encName, Option.getD_none, encIs, List.flatMap_cons, List.flatMap_nil, List.append_nil, Ty.kind, Ty.id, Ty.args, List.append_assoc]
    have h46 := t46 [k, i]
    rw [e] at hb ⊢
    obtain ⟨b1, b2⟩ := app2 hb
    have e2 := bcells_app (encIs [k, i]) (encL (encTy none) l)
    simp only [List.length_append] at hb
    have h47 := (h47 b2).give
    have h46 := h46 b1
    generalize encL (encTy none) l = c2 at *
    generalize encIs [k, i] = c1 at *
    simp only [Ty.kind, Ty.id, Ty.args]
    refine callsT_facts Try.func21 facts21 rfl fun hw _ => ?_
    refine callDO h46 rfl rfl ?_
    refine callPD h47 rfl fun _ => ?_
    refine appB (a := c1) (b := c2) (by omega) ?_
    exact retO [8] rfl rfl (rowE e2.symm) rfl
termination_by t => SizeOf.sizeOf t
decreasing_by
  have := List.sizeOf_lt_of_mem hx
  simp only [Ty.mk.sizeOf_spec]
  omega
theorem t21 (t : Ty) (hb : (encTy none t).length ≤ 2 ^ 46) : Rb 21 [.agg (tyC t)] (encTy none t) := by
  have := t21' t hb
  rw [← tyC_eq] at this
  exact this
end Go.Fr.Try

/- Digest: the reference implementation: signatures and whole functions. -/
set_option linter.unusedVariables false
set_option linter.unusedSimpArgs false
namespace Go.Fr.Try
open Go Go.RowKit Go.Proofs Go.Fr Go.Fr.T Go.Fr.Api

set_option maxRecDepth 10000 in
theorem t78 (f : Fun) : CallsT P 78 [.agg (funC f)] [] (Ret [] (.sl ((argsOf f).map tyC))) := by
  refine callsT_facts Try.func78 facts78 rfl fun hw _ => ?_
  have hwa : (Lit.int .i64 f.arity).wf = true := hw.1.2.2.2.2.1
  have hwl : Wf (.sl (f.locals.map tyC)) := hw.1.2.2.2.2.2.2.2.2.1
  have hn := wf_lenM hwl
  have hn' : (f.locals.map tyC).length ≤ 9223372036854775807 := by rw [List.length_map]; exact hn
  have hm1 := mn_wf hwa hn'
  have hm2 := mx0_wf hm1
  have hbd := mx0_bd (n := (f.locals.map tyC).length) (a := f.arity)
  have hsl : ((f.locals.map tyC).drop (Int.toNat 0)).take ((mx0 (mn (f.locals.map tyC).length f.arity)).toNat - Int.toNat 0) = (argsOf f).map tyC := by
    show ((f.locals.map tyC).drop 0).take ((mx0 (mn (f.locals.map tyC).length f.arity)).toNat - 0) = _
    rw [mx0_eq, argsOf, List.map_take, List.length_map]
    rfl
  have hsz : ∀ es ∈ f.locals.map tyC, es.length = 3 := by
    intro es he
    obtain ⟨t, _, rfl⟩ := List.mem_map.1 he
    exact tyC_len t
  refine ⟨hm1, ?_⟩
  refine ⟨hm2, ?_⟩
  refine SlcT.mk (Int.le_refl 0) hbd.1 hbd.2 hsz ?_
  exact retP rfl (congrArg C.sl hsl)
def sigPre (f : Fun) : List UInt8 := encS f.name ++ encIs [f.params, f.bounds.length]
def bnd2 (b : Bound) : List UInt8 := encIs [b.param, b.trait]
theorem sig_parts (f : Fun) : encSig none f = sigPre f ++ f.bounds.flatMap bnd2 ++ encI f.arity ++ encL (encTy none) (argsOf f) ++ encTy none f.result ++ encL encI f.ties := by
  simp only [encSig, sigPre, encL, encSs, encIs, List.flatMap_cons, List.flatMap_nil, List.append_nil, List.append_assoc]
  have : f.bounds.flatMap (encBound none) = f.bounds.flatMap bnd2 := by
    refine congrArg (fun g => List.flatMap g f.bounds) (funext fun b => ?_)
    simp only [encBound, bnd2, encTrait, encIs, List.flatMap_cons, List.flatMap_nil, List.append_nil]
  rw [this]
set_option maxRecDepth 10000 in
theorem t37 (f : Fun) (hb : (encSig none f).length ≤ 2 ^ 46) : Rb 37 [.agg (funC f)] (encSig none f) := by
  have h76 := t76 f.name
  have h46 : ∀ l : List Int, (encIs l).length ≤ 2 ^ 46 → CallsT P 46 [.sl (ics l)] [] (Ret [] (.sl (bcells (encIs l)))) := fun l h => (t46 l h).give
  have h77 := (t77 f.arity).give
  have h78 := t78 f
  have h47 := t47 (argsOf f) (encTy none) (fun x _ h => t21' x h)
  have h21 := t21' f.result
  have h79 := t79 f.ties
  have e := sig_parts f
  have hbe : (f.bounds.map boundC).length = f.bounds.length := List.length_map _
  generalize encSig none f = code at *
  simp only [sigPre] at e
  rw [e] at hb
  simp only [List.length_append] at hb
  have h76 := h76 (by omega)
  have h47 := (h47 (by omega)).give
  have h21 := (h21 (by omega)).give
  have h79 := (h79 (by omega)).give
  have hb0 := h46 [f.params, f.bounds.length] (by omega)
  rw [← hbe] at hb0 e hb
  have h0 : bcells (encS f.name) ++ bcells (encIs [f.params, (f.bounds.map boundC).length]) = bcells (encS f.name ++ encIs [f.params, (f.bounds.map boundC).length]) := (bcells_app _ _).symm
  generalize encIs [f.params, ((f.bounds.map boundC).length : Int)] = c0 at *
  generalize encS f.name = nme at *
  generalize encI f.arity = c1 at *
  generalize encL (encTy none) (argsOf f) = c2 at *
  generalize encTy none f.result = c3 at *
  generalize encL encI f.ties = c4 at *
  generalize argsOf f = ao at *
  refine callsT_facts Try.func37 facts37 rfl fun hw _ => ?_
  have hlen : f.bounds.length ≤ 9223372036854775807 := wf_lenM hw.1.2.2.2.1
  refine callDO h76 rfl rfl ?_
  refine callPD hb0 rfl fun _ => ?_
  refine appB (a := nme) (b := c0) (by omega) ?_
  refine loopN f.bounds.length 4 [3] (nme ++ c0) (fun _ => [.rw 7]) (fun s => [(1, .box 30 (funC f)), (7, .row 5 1 (bcells s))]) (fun k s => s ++ (f.bounds.drop k).flatMap bnd2 = nme ++ c0 ++ f.bounds.flatMap bnd2) rfl (same_keys rfl) ⟨same_keys rfl, trivial⟩
    ⟨.inl ⟨_, rfl, .inl ⟨rfl, rfl⟩⟩, .inl ⟨_, rfl, .inl ⟨congrArg (TO.row 5 1) h0, rfl⟩⟩, trivial⟩ (fun _ => rfl) (fun _ => rfl) ?_
  rintro k s hk hinv _ _ _
  refine brn_p (fun hlt => ?_) (fun hge => ?_)
  · have hlt : k < f.bounds.length := by simpa using hlt
    refine withDrop hlt fun x hx hxm hd => ?_
    rw [hd] at hinv
    have hsz : s.length + (bnd2 x).length ≤ 2 ^ 46 := by
      have := congrArg List.length hinv
      simp only [List.flatMap_cons, List.length_append] at this
      omega
    refine idxT hx rfl rfl ?_
    refine idxT hx rfl rfl ?_
    refine callPD (h46 [x.param, x.trait] (by simp only [bnd2] at hsz; omega)) rfl fun _ => ?_
    refine appB (a := s) (b := bnd2 x) (by omega) ?_
    refine Fit.in64 (by omega) (by omega) ?_
    refine ⟨(k + 1, s ++ bnd2 x), ⟨hlt, ?_⟩, ⟨nextI, same_keys rfl, trivial⟩, ⟨.inl ⟨_, rfl, .inl ⟨rfl, rfl⟩⟩, .inl ⟨_, rfl, .inl ⟨?_, rfl⟩⟩, trivial⟩, nextM hlt⟩
    · show s ++ bnd2 x ++ (f.bounds.drop (k + 1)).flatMap bnd2 = _
      rw [← hinv]; simp
    · exact congrArg (TO.row 5 1) (bcells_app _ _).symm
  · have hge : ¬ k < f.bounds.length := by simpa using hge
    rw [drop_end hge, List.flatMap_nil, List.append_nil] at hinv
    have hsl : s.length = nme.length + c0.length + (f.bounds.flatMap bnd2).length := by rw [hinv]; simp only [List.length_append]
    refine callPD h77 rfl fun _ => ?_
    refine appB (a := s) (b := c1) (by omega) ?_
    refine callPD h78 rfl fun _ => ?_
    refine callPD h47 rfl fun _ => ?_
    refine AppT.mk bcells_sz ?_ ?_ ?_
    · rw [List.length_append, bcells_len, bcells_len, bcells_len]; simp only [maxLen]; omega
    · rw [List.length_append, bcells_len, bcells_len, bcells_len]; omega
    refine callPD h21 rfl fun _ => ?_
    refine AppT.mk bcells_sz ?_ ?_ ?_
    · rw [List.length_append, List.length_append, bcells_len, bcells_len, bcells_len, bcells_len]; simp only [maxLen]; omega
    · rw [List.length_append, List.length_append, bcells_len, bcells_len, bcells_len, bcells_len]; omega
    refine callPD h79 rfl fun _ => ?_
    refine AppT.mk bcells_sz ?_ ?_ ?_
    · rw [List.length_append, List.length_append, List.length_append, bcells_len, bcells_len, bcells_len, bcells_len, bcells_len]; simp only [maxLen]; omega
    · rw [List.length_append, List.length_append, List.length_append, bcells_len, bcells_len, bcells_len, bcells_len, bcells_len]; omega
    have e9 : bcells s ++ bcells c1 ++ bcells c2 ++ bcells c3 ++ bcells c4 = bcells code := by rw [e, hinv]; simp only [bcells_app]
    exact retO [7] rfl rfl (rowE e9) rfl
end Go.Fr.Try
