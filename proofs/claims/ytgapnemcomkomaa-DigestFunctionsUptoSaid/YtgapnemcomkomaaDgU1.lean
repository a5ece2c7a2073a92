/- Digest: sizes and comparisons of types. -/
import Derived.Test.YtgapnemcomkomaaDgU0
import Derived.Test.YtgapnemcomkomaaDgT9
set_option linter.unusedVariables false
set_option linter.unusedSimpArgs false
namespace Go.Fr.Try
open Go Go.RowKit Go.Proofs Go.Fr Go.Fr.T Go.Fr.Api

mutual
def few : Ty → Int → Int
  | .mk _ _ l, m => fewL l m 1
def fewL : List Ty → Int → Int → Int
  | [], _, n => n
  | x :: l, m, n => if n ≤ m then fewL l m (n + few x (m - n)) else n
end
mutual
theorem few_bd : ∀ (t : Ty) (m : Int), 0 ≤ m → 1 ≤ few t m ∧ few t m ≤ m + 1
  | .mk _ _ l, m, h => by
    rw [few]
    exact fewL_bd l m 1 h (by omega) (by omega)
theorem fewL_bd : ∀ (l : List Ty) (m n : Int), 0 ≤ m → 1 ≤ n → n ≤ m + 1 → 1 ≤ fewL l m n ∧ fewL l m n ≤ m + 1
  | [], m, n, _, h1, h2 => by rw [fewL]; exact ⟨h1, h2⟩
  | x :: l, m, n, h0, h1, h2 => by
    rw [fewL]
    split
    · have := few_bd x (m - n) (by omega)
      exact fewL_bd l m _ h0 (by omega) (by omega)
    · exact ⟨h1, h2⟩
end
theorem fewL_stop {l : List Ty} {m n : Int} (h : ¬ n ≤ m) : fewL l m n = n := by
  cases l with
  | nil => rw [fewL]
  | cons x l => rw [fewL, if_neg h]
theorem wf_lenT {l : List Ty} (h : Wf (.sl (l.map tyC))) : l.length ≤ 9223372036854775807 := wf_lenM h
set_option maxRecDepth 10000 in
theorem t31 : ∀ (t : Ty) (m : Int), 0 ≤ m → m ≤ 1000 → CallsT P 31 [.agg (tyC t), IC m] [] (Ret [] (IC (few t m)))
  | .mk k i l, m, h0, h1 => by
    have ih : ∀ x ∈ l, ∀ m' : Int, 0 ≤ m' → m' ≤ 1000 → CallsT P 31 [.agg [IC x.kind, IC x.id, .sl (x.args.map tyC)], IC m'] [] (Ret [] (IC (few x m'))) := fun x hx m' a b => by
      have := t31 x m' a b
      rw [tyC_eq] at this
      exact this
    have hfb := few_bd
    rw [tyC_eq, few]
    simp only [Ty.kind, Ty.id, Ty.args]
    generalize hfew : few = few' at ih hfb
    have hfl : ∀ x r n, fewL (x :: r) m n = if n ≤ m then fewL r m (n + few' x (m - n)) else n := by
      intro x r n; rw [fewL, hfew]
    refine callsT_facts Try.func31 facts31 rfl fun hw _ => ?_
    refine loopN l.length 6 [5] (1 : Int) (fun n => [IC n]) (fun _ => [(2, .box 26 [IC k, IC i, .sl (l.map tyC)])]) (fun k n => fewL (l.drop k) m n = fewL l m 1 ∧ 1 ≤ n ∧ n ≤ m + 1) ⟨rfl, by omega, by omega⟩ (same_keys rfl) ⟨same_keys rfl, trivial⟩ ⟨.inl ⟨_, rfl, .inl ⟨rfl, rfl⟩⟩, trivial⟩ (fun _ => rfl) (fun _ => rfl) ?_
    rintro j n hj ⟨hinv, hn0, hn1⟩ _ _ _
    have hlen : l.length ≤ 9223372036854775807 := wf_lenT hw.1.2.2.1
    refine brn_p (fun hlt => ?_) (fun hge => ?_)
    · have hlt : j < l.length := by simpa using hlt
      have hd := drop_cons hlt
      have hx := hd.choose_spec.1
      have hdr := hd.choose_spec.2
      generalize hd.choose = x at hx hdr
      refine brn_p (fun hle => ?_) (fun hgt => ?_)
      · refine idxTy hx ?_
        refine Fit.in64 (by omega) (by omega) ?_
        refine callP (ih x (List.mem_of_getElem? hx) (m - n) (by omega) (by omega)) rfl fun _ => ?_
        have hb := hfb x (m - n) (by omega)
        refine Fit.in64 (by omega) (by omega) ?_
        refine Fit.in64 (by omega) (by omega) ?_
        refine ⟨(j + 1, n + few' x (m - n)), ⟨hlt, ?_, by omega, by omega⟩, ⟨nextI, same_keys rfl, trivial⟩, ⟨.inl ⟨_, rfl, .inl ⟨rfl, rfl⟩⟩, trivial⟩, nextM hlt⟩
        rw [hdr, hfl, if_pos hle] at hinv
        exact hinv
      · refine retP rfl ?_
        rw [fewL_stop hgt] at hinv
        exact congrArg IC hinv
    · have hge : ¬ j < l.length := by simpa using hge
      rw [drop_end hge] at hinv
      refine retP rfl ?_
      rw [fewL] at hinv
      exact congrArg IC hinv
termination_by t => SizeOf.sizeOf t
decreasing_by
  have := List.sizeOf_lt_of_mem hx
  simp only [Ty.mk.sizeOf_spec]
  omega
end Go.Fr.Try
