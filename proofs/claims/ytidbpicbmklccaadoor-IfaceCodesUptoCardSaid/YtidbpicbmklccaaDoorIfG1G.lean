/- Part of the proofs of the statements of this seat. -/
import Derived.Test.YtidbpicbmklccaaDoorIfL1G
import Derived.Test.YtidbpicbmklccaaDoorFW3
import Derived.Test.YtidbpicbmklccaaDoorRows
import Derived.WideKeyMaps
import Derived.MakeChecks
import Derived.ChangeArms
set_option linter.unusedVariables false
set_option linter.unusedSimpArgs false
namespace Go.Fr.Tryd
open Go Go.RowKit Go.Proofs Go.Fr Go.Fr.T Go.Fr.Api

theorem lenB (bs : List UInt8) : ((bcells bs).length : Int) = bs.length := by rw [bcells_len]
set_option maxRecDepth 20000 in
theorem t4w (i x y : Ifc) (c b E : List UInt8) (e f : Int) (h15 : CallsT PZ 15 [.agg (ifC i)] [] (Ret [] (.sl (bcells c)))) (hc : 0 < c.length ↔ validI i = true)
    (h11 : CallsT PZ 11 [.sl (bcells c)] [] (Ret [] (.tup [.agg (ifC x), IC e]))) (he : validI i = true → RangedI i.against → x = i ∧ e = 0)
    (h11b : CallsT PZ 11 [.sl (bcells b)] [] (Ret [] (.tup [.agg (ifC y), IC f])))
    (hf : f ≠ 0 → y = zI ∧ (f = 16 ∨ f = 17)) (hy : f = 0 → validI y = true ∧ CallsT PZ 15 [.agg (ifC y)] [] (Ret [] (.sl (bcells b)))) :
    CallsT PZ 4 [.agg (ifC i), .sl (bcells b)] [] (Ret [] (.bool true)) := by
  refine callsT_facts Tryd.func4 facts4 rfl fun hw _ => ?_
  refine callP t6 rfl fun _ => ?_
  refine callB (t8 i) rfl fun q _ => ?_
  refine brn_split (fun hq => ?_) (fun hq => ?_)
  · exact retP rfl rfl
  refine brn_p (fun hb => ?_) (fun hb => ?_)
  · exact retP rfl rfl
  refine callP h15 rfl fun _ => ?_
  refine callP (t19 i) rfl fun _ => ?_
  have hcv : decide (((bcells c).length : Int) > 0) = validI i := by
    rw [lenB]
    cases hv : validI i with
    | true => exact decide_eq_true (by have := hc.2 hv; omega)
    | false => exact decide_eq_false fun h => by rw [hc.1 (by omega)] at hv; cases hv
  refine brn_split (fun h1 => ?_) (fun h1 => ?_)
  · exfalso
    have h1 : ngb true (decide (decide (((bcells c).length : Int) > 0) = validI i)) = true := h1
    rw [hcv, decide_eq_true rfl] at h1
    cases h1
  refine callP h11 rfl fun _ => ?_
  refine callP (t19 i) rfl fun _ => ?_
  refine brn_split (fun hv => ?_) (fun hv => ?_)
  · refine callB (t20 i.against) rfl fun r hr => ?_
    refine brn_split (fun hr1 => ?_) (fun hr1 => ?_)
    · have hx := he hv (hr hr1)
      have h13 : CallsT PZ 13 [.agg (ifC x), .agg (ifC i)] [] (Ret [] (.bool true)) := hx.1 ▸ t13 i
      refine brn_split (fun h2 => ?_) (fun h2 => ?_)
      · exfalso
        have h2 : (!decide (e = 0)) = true := h2
        simp [hx.2] at h2
      refine callP h13 rfl fun _ => ?_
      refine callP h11b rfl fun _ => ?_
      refine brn_split (fun h3 => ?_) (fun h3 => ?_)
      · have h3 : (!decide (f = 0)) = true := h3
        have h3 : f ≠ 0 := by simpa using h3
        have hz := hf h3
        have h13 : CallsT PZ 13 [.agg (ifC y), .agg (ifC zI)] [] (Ret [] (.bool true)) := hz.1 ▸ t13 zI
        refine callP h13 rfl fun _ => ?_
        refine brn_p (fun h16 => ?_) (fun h16 => ?_)
        · exact retP rfl rfl
        · refine retP rfl (congrArg C.bool ?_)
          exact decide_eq_true (hz.2.resolve_left h16)
      · have h3 : (!decide (f = 0)) = false := h3
        have h3 : f = 0 := by simpa using h3
        have hz := hy h3
        have h19 : CallsT PZ 19 [.agg (ifC y)] [] (Ret [] (.bool true)) := hz.1 ▸ t19 y
        refine callP h19 rfl fun _ => ?_
        refine callP hz.2 rfl fun _ => ?_
        refine callP (t14 b b) rfl fun _ => ?_
        exact retP rfl (congrArg C.bool (decide_eq_true rfl))
    · refine callP h11b rfl fun _ => ?_
      refine brn_split (fun h3 => ?_) (fun h3 => ?_)
      · have h3 : (!decide (f = 0)) = true := h3
        have h3 : f ≠ 0 := by simpa using h3
        have hz := hf h3
        have h13 : CallsT PZ 13 [.agg (ifC y), .agg (ifC zI)] [] (Ret [] (.bool true)) := hz.1 ▸ t13 zI
        refine callP h13 rfl fun _ => ?_
        refine brn_p (fun h16 => ?_) (fun h16 => ?_)
        · exact retP rfl rfl
        · refine retP rfl (congrArg C.bool ?_)
          exact decide_eq_true (hz.2.resolve_left h16)
      · have h3 : (!decide (f = 0)) = false := h3
        have h3 : f = 0 := by simpa using h3
        have hz := hy h3
        have h19 : CallsT PZ 19 [.agg (ifC y)] [] (Ret [] (.bool true)) := hz.1 ▸ t19 y
        refine callP h19 rfl fun _ => ?_
        refine callP hz.2 rfl fun _ => ?_
        refine callP (t14 b b) rfl fun _ => ?_
        exact retP rfl (congrArg C.bool (decide_eq_true rfl))
  · refine callP h11b rfl fun _ => ?_
    refine brn_split (fun h3 => ?_) (fun h3 => ?_)
    · have h3 : (!decide (f = 0)) = true := h3
      have h3 : f ≠ 0 := by simpa using h3
      have hz := hf h3
      have h13 : CallsT PZ 13 [.agg (ifC y), .agg (ifC zI)] [] (Ret [] (.bool true)) := hz.1 ▸ t13 zI
      refine callP h13 rfl fun _ => ?_
      refine brn_p (fun h16 => ?_) (fun h16 => ?_)
      · exact retP rfl rfl
      · refine retP rfl (congrArg C.bool ?_)
        exact decide_eq_true (hz.2.resolve_left h16)
    · have h3 : (!decide (f = 0)) = false := h3
      have h3 : f = 0 := by simpa using h3
      have hz := hy h3
      have h19 : CallsT PZ 19 [.agg (ifC y)] [] (Ret [] (.bool true)) := hz.1 ▸ t19 y
      refine callP h19 rfl fun _ => ?_
      refine callP hz.2 rfl fun _ => ?_
      refine callP (t14 b b) rfl fun _ => ?_
      exact retP rfl (congrArg C.bool (decide_eq_true rfl))
theorem t4 (i : Ifc) (b : List UInt8) (hb : b.length ≤ 1048576) (he : (encI i).length ≤ 1000000000) (hi : i.module.size < 4611686018427387904 ∧ i.uses.length < 4611686018427387904 ∧ (∀ s ∈ i.uses, s.size < 4611686018427387904) ∧ i.against.length < 4611686018427387904 ∧ i.body.length < 4611686018427387904) :
    CallsT PZ 4 [.agg (ifC i), .sl (bcells b)] [] (Ret [] (.bool true)) := by
  have hc : (encB i).length ≤ 1000000004 := by
    unfold encB
    split
    · rw [seal_len]; omega
    · simp
  have h11 := t11 (encB i) (by omega)
  have h11b := t11 b (by omega)
  refine t4w i (decI (encB i)).1 (decI b).1 (encB i) b [] (decI (encB i)).2 (decI b).2 (t15 i (by omega)) (enc_ne i) h11 (fun hv hr => ?_) h11b (fun hf => ?_) (fun hf => ?_)
  · rw [dec_enc hv (okI_of hv hr hi.1 hi.2.1 hi.2.2.1 hi.2.2.2.1 hi.2.2.2.2)]
    exact ⟨rfl, rfl⟩
  · rcases dec_cases b with ⟨h, _⟩ | h | h
    · exact absurd h hf
    · rw [h]; exact ⟨rfl, .inl rfl⟩
    · rw [h]; exact ⟨rfl, .inr rfl⟩
  · rcases dec_cases b with ⟨_, h1, h2, h3⟩ | h | h
    · have h15 := t15 (decI b).1 (by omega)
      rw [h2] at h15
      exact ⟨h1, h15⟩
    · rw [h] at hf; cases hf
    · rw [h] at hf; cases hf
end Go.Fr.Tryd

set_option linter.unusedVariables false
set_option linter.unusedSimpArgs false
namespace Go.Fr.Tryd
open Go Go.RowKit Go.Proofs Go.Fr Go.Fr.T Go.Fr.Api

end Go.Fr.Tryd

set_option linter.unusedVariables false
set_option linter.unusedSimpArgs false
namespace Go.Fr.Tryd
open Go Go.RowKit Go.Proofs Go.Fr Go.WideMaps
theorem gEOF : Tryd.prog.globalNamed "io.EOF" = some 0 := by kernel_rfl
open Go.Proofs.YtidbpicbmklccaaDoor in
theorem glob_of_laid {W : World} (h : laidMetH Tryd.prog [("io.EOF", Rows.laid_io_EOF), ("bytes.ErrTooLarge", Rows.laid_bytes_ErrTooLarge)] W) : Glob (frzOf W) := by
  rw [MakeChecks.laidMetH_plain _ _ _ (by kernel_rfl)] at h
  obtain ⟨ps, ⟨g0, t0, cs0, f0, p0, q0, hg0, ht0, hv0, hd0, _, _⟩, _, _⟩ := h
  obtain rfl := Option.some.inj (gEOF.symm.trans hg0)
  have tE : t0 = 105 := Option.some.inj (ht0.symm.trans (show (Tryd.prog.globals[0]?).map (·.type) = some 105 by kernel_rfl))
  subst tE
  have u20 : Tryd.prog.underlying 105 = some (.interface #[("Error", 92)]) := by kernel_rfl
  have hv : ∃ t u, cs0.toList = [.iface t u] := by
    cases f0 with
    | zero => simp [DataW.trod] at hd0
    | succ n =>
      rw [DataW.trod_step] at hd0
      unfold DataW.trodStep at hd0
      rw [u20] at hd0
      split at hd0 <;> simp_all [Rows.laid_io_EOF]
  obtain ⟨t, u, hcs⟩ := hv
  simp only [World.var?, hg0, Option.bind_some] at hv0
  split at hv0
  · rename_i cs t' fr he
    injection hv0 with hv0
    subst hv0
    refine ⟨.iface t u, t', fr, ?_, .inr (.inl ⟨rfl, t, u, rfl⟩)⟩
    show W.heap[0]? = _
    rw [he]
    have : cs = #[.iface t u] := by
      apply Array.ext'
      rw [hcs]
    rw [this]
  · cases hv0
end Go.Fr.Tryd
