/- Part of the proofs of the statements of this seat. -/
import Derived.Test.YtfkgdgfmkocloaaGreatDoorImP5G
import Derived.Test.YtfkgdgfmkocloaaGreatDoorImIds
import Derived.Deep.DeepWitnessRowRef
set_option linter.unusedVariables false
set_option linter.unusedSimpArgs false
namespace Go.Fr.Tryz
open Go Go.RowKit Go.Proofs Go.Fr Go.Fr.T Go.Fr.Api

theorem same_of {x y : Img} {b : Bool} (h : tru (x = y) = b) : CallsT PZ 16 [.agg (imgC x), .agg (imgC y)] [] (Ret [] (.bool b)) := h ▸ t16 x y
set_option maxRecDepth 10000 in
theorem t8w (i k : Img) (a b : List UInt8) (r : Bool) (h13 : CallsT PZ 13 [.agg (imgC i)] [] (Ret [] (.sl (bcells a)))) (h13' : CallsT PZ 13 [.agg (imgC k)] [] (Ret [] (.sl (bcells b))))
    (hs : CallsT PZ 16 [.agg (imgC i), .agg (imgC i)] [] (Ret [] (.bool true))) (h1 : CallsT PZ 16 [.agg (imgC i), .agg (imgC k)] [] (Ret [] (.bool r))) (h2 : CallsT PZ 16 [.agg (imgC k), .agg (imgC i)] [] (Ret [] (.bool r)))
    (hbl : (bcells a).length = a.length) (hbl' : (bcells b).length = b.length) (hr : a.length ≠ 0 → b.length ≠ 0 → r = decide (a = b)) : CallsT PZ 8 [.agg (imgC i), .agg (imgC k)] [] (Ret [] (.bool true)) := by
  refine callsT_facts Tryz.func8 facts8 rfl fun hw _ => ?_
  refine callP t9 rfl fun _ => ?_
  refine callB (t10 i) rfl fun q _ => ?_
  refine brn_split (fun hq => ?_) (fun hq => ?_)
  · exact retP rfl rfl
  refine callB (t10 k) rfl fun q2 _ => ?_
  refine brn_split (fun hq2 => ?_) (fun hq2 => ?_)
  · exact retP rfl rfl
  refine callP h13 rfl fun _ => ?_
  refine callP h13' rfl fun _ => ?_
  refine callPD hs rfl fun _ => ?_
  refine callPD h1 rfl fun _ => ?_
  refine callPD h2 rfl fun _ => ?_
  refine brn_split (fun q3 => ?_) (fun q3 => ?_)
  · exfalso
    simp [ngb] at q3
  refine brn_p (fun q4 => ?_) (fun q4 => ?_)
  · exact retP rfl rfl
  refine brn_p (fun q5 => ?_) (fun q5 => ?_)
  · exact retP rfl rfl
  refine BytesT.mk ⟨a, rfl, ?_⟩
  refine BytesT.mk ⟨b, rfl, ?_⟩
  refine callPD h1 rfl fun _ => ?_
  refine retP rfl (congrArg C.bool ?_)
  rw [streq_bytes, hr (by omega) (by omega)]
  simp [ngb]
theorem t8 (i k : Img) (hi : (imgE i).1.length ≤ 6300000) (hk : (imgE k).1.length ≤ 6300000) : CallsT PZ 8 [.agg (imgC i), .agg (imgC k)] [] (Ret [] (.bool true)) := by
  have h13 := t13 i (by omega)
  have h13' := t13 k (by omega)
  have hs := same_of (tru_yes (p := i = i) rfl).symm
  by_cases hik : i = k
  · refine t8w i k _ _ true h13 h13' hs (same_of (tru_yes hik).symm) (same_of (tru_yes hik.symm).symm) bcells_len bcells_len fun _ _ => ?_
    rw [hik]
    exact (decide_eq_true rfl).symm
  · refine t8w i k _ _ false h13 h13' hs (same_of (tru_no hik).symm) (same_of (tru_no (fun e => hik e.symm)).symm) bcells_len bcells_len fun h _ => ?_
    exact (decide_eq_false fun e => hik (enc_inj h e)).symm
end Go.Fr.Tryz

set_option linter.unusedVariables false
namespace Go.Fr.Tryz
open Go Go.RowKit Go.Proofs Go.Fr Go.Fr.T
theorem glob_of_laid {W : World} {p : Prop} (h : p) : Glob (frzOf W) := trivial
end Go.Fr.Tryz
