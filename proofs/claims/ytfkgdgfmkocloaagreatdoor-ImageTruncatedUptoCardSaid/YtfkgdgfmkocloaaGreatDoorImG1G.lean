/- Part of the proofs of the statements of this seat. -/
import Derived.Test.YtfkgdgfmkocloaaGreatDoorImP5G
import Derived.Test.YtfkgdgfmkocloaaGreatDoorImIds
import Derived.Deep.DeepWitnessRowRef
set_option linter.unusedVariables false
set_option linter.unusedSimpArgs false
namespace Go.Fr.Tryz
open Go Go.RowKit Go.Proofs Go.Fr Go.Fr.T Go.Fr.Api

set_option maxRecDepth 10000 in
theorem t7w (i : Img) (b : List UInt8) (at0 : Int) (y : UInt8) (hat : 0 ≤ at0 ∧ at0 ≤ 65535) (h13 : CallsT PZ 13 [.agg (imgC i)] [] (Ret [] (.sl (bcells b)))) (hbl : (bcells b).length = b.length) (hl : b.length ≤ 6300007) (k : Nat) (hk : b.length ≠ 0 → at0.tmod (bcells b).length = k ∧ k < b.length)
    (i1 i2 : Img) (e1 e2 : Int) (h1 : b.length ≠ 0 → e1 ≠ 0) (h2 : b.length ≠ 0 → e2 ≠ 0)
    (h11 : CallsT PZ 11 [.sl (bcells (b.take k))] [] (Ret [] (.tup [.agg (imgC i1), IC e1]))) (h11' : CallsT PZ 11 [.sl (bcells (b ++ [y]))] [] (Ret [] (.tup [.agg (imgC i2), IC e2]))) :
    CallsT PZ 7 [.agg (imgC i), .int .u16 at0, bcell y] [] (Ret [] (.bool true)) := by
  refine callsT_facts Tryz.func7 facts7 rfl fun hw _ => ?_
  refine callP t9 rfl fun _ => ?_
  refine callB (t10 i) rfl fun q _ => ?_
  refine brn_split (fun hq => ?_) (fun hq => ?_)
  · exact retP rfl rfl
  refine callP h13 rfl fun _ => ?_
  refine brn_p (fun h0 => ?_) (fun h0 => ?_)
  · exact retP rfl rfl
  refine brn_p (fun h3 => ?_) (fun h3 => ?_)
  · exact retP rfl rfl
  have hn : b.length ≠ 0 := by omega
  have hk1 := (hk hn).1
  have hk2 := (hk hn).2
  have h1 := h1 hn
  have h2 := h2 hn
  refine Fit.in64 (by omega) (by omega) ?_
  refine NonZ.mk (by omega) ?_
  refine SlcT.mk (Int.le_refl 0) (by omega) (by omega) bcells_sz ?_
  have ek : ((bcells b).drop 0).take ((at0.tmod ↑(bcells b).length).toNat - 0) = bcells (b.take k) := by
    rw [bcells_slice, hk1]
    simp
  refine callP h11 (congrArg (fun q => [C.sl q]) ek) fun _ => ?_
  refine ⟨by omega, bcells_sz (bs := []), AppT.mk bcells_sz ?_ ?_ ?_⟩
  · show 0 + (bcells b).length ≤ maxLen
    simp only [maxLen]
    omega
  · show (0 + (bcells b).length) * 1 ≤ _
    omega
  refine appB (bs := [y]) b.length hbl (by simp only [List.length_cons, List.length_nil]; omega) ?_
  refine callF [43] [] [] h11' ⟨[], rfl, rfl, ?_, rfl, rfl, fun _ _ => ?_⟩
  · show [C.sl (bcells b ++ bcells [y])] = _
    simp [bcells]
  refine brn_split (fun q => ?_) (fun q => ?_)
  · exact retP rfl (congrArg C.bool (by simp [h2]))
  · exfalso
    simp [h1] at q
theorem t7 (i : Img) (hb : (imgE i).1.length ≤ 6300000) (at0 : Int) (y : UInt8) (hat : 0 ≤ at0 ∧ at0 ≤ 65535) : CallsT PZ 7 [.agg (imgC i), .int .u16 at0, bcell y] [] (Ret [] (.bool true)) := by
  have hl := enc_le hb
  have hbl := bcells_len (bs := encB i)
  obtain ⟨k, hk⟩ : ∃ k : Nat, (encB i).length ≠ 0 → at0.tmod ↑(bcells (encB i)).length = k ∧ k < (encB i).length := by
    by_cases h0 : (encB i).length = 0
    · exact ⟨0, fun h => absurd h0 h⟩
    · have h9 : at0.tmod ↑(bcells (encB i)).length < ↑(bcells (encB i)).length := by
        rw [Int.tmod_eq_emod_of_nonneg hat.1]
        exact Int.emod_lt_of_pos _ (by omega)
      obtain ⟨k, hk⟩ := Int.eq_ofNat_of_zero_le (show 0 ≤ at0.tmod ↑(bcells (encB i)).length by
        rw [Int.tmod_eq_emod_of_nonneg hat.1]
        exact Int.emod_nonneg at0 (by omega))
      exact ⟨k, fun _ => ⟨hk, by omega⟩⟩
  exact t7w i (encB i) at0 y hat (t13 i (by omega)) hbl hl k hk (dec ((encB i).take k)).1 (dec (encB i ++ [y])).1 (dec ((encB i).take k)).2 (dec (encB i ++ [y])).2
    (fun h => dec_cut h (hk h).2) (fun h => dec_more h y) (t11 _ (by rw [List.length_take]; omega)) (t11 _ (by rw [List.length_append, List.length_singleton]; omega))
end Go.Fr.Tryz

set_option linter.unusedVariables false
namespace Go.Fr.Tryz
open Go Go.RowKit Go.Proofs Go.Fr Go.Fr.T
theorem glob_of_laid {W : World} {p : Prop} (h : p) : Glob (frzOf W) := trivial
end Go.Fr.Tryz
