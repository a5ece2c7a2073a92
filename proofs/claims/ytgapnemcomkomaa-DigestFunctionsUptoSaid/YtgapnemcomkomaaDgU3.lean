/- Digest: tiny functions, small programs: nothing is asked of the answer. -/
import Derived.Test.YtgapnemcomkomaaDgU2
import Derived.Test.YtgapnemcomkomaaTlAny
set_option linter.unusedVariables false
set_option linter.unusedSimpArgs false
namespace Go.Fr.Try
open Go Go.RowKit Go.Proofs Go.Fr Go.Fr.T Go.Fr.Api

theorem t31' (x : Ty) : CallsT P 31 [.agg [IC x.kind, IC x.id, .sl (x.args.map tyC)], IC 30] [] (Ret [] (IC (few x 30))) := by
  have := t31 x 30 (by omega) (by omega)
  rw [tyC_eq] at this
  exact this
set_option maxRecDepth 10000 in
theorem t11 (f : Fun) : CallsT P 11 [.agg (funC f)] [] (Such True) := by
  have h31 := t31'
  have h10 := t10
  generalize few = fw at h31
  generalize smallL = sm at h10
  refine callsT_facts Try.func11 facts11 rfl fun hw _ => ?_
  have hw := hw.1
  have hl1 : f.locals.length ≤ 9223372036854775807 := wf_lenM hw.2.2.2.2.2.2.2.2.1
  have hl2 : f.blocks.length ≤ 9223372036854775807 := wf_lenM hw.2.2.2.2.2.2.2.2.2.1
  have hlb : ∀ b ∈ f.blocks, b.code.length ≤ 9223372036854775807 := fun b hb => wf_lenM (wf_map hw.2.2.2.2.2.2.2.2.2.1 b hb).1
  refine brn_p (fun _ => ?_) (fun _ => ?_)
  · exact retB false rfl rfl (fun _ => trivial)
  refine brn_p (fun _ => ?_) (fun _ => ?_)
  · exact retB false rfl rfl (fun _ => trivial)
  refine brn_p (fun _ => ?_) (fun _ => ?_)
  · exact retB false rfl rfl (fun _ => trivial)
  refine brn_p (fun _ => ?_) (fun _ => ?_)
  · exact retB false rfl rfl (fun _ => trivial)
  refine callP (h31 f.result) rfl fun _ => ?_
  refine brn_p (fun _ => ?_) (fun _ => ?_)
  · exact retB false rfl rfl (fun _ => trivial)
  refine loopN f.locals.length 3 [] () (fun _ => []) (fun _ => [(1, .box 30 (funC f))]) (fun _ _ => True) trivial (same_keys rfl) trivial ⟨.inl ⟨_, rfl, .inl ⟨rfl, rfl⟩⟩, trivial⟩ (fun _ => rfl) (fun _ => rfl) ?_
  rintro k _ hk _ _ _ _
  refine brn_p (fun hlt => ?_) (fun hge => ?_)
  · have hlt : k < f.locals.length := by simpa using hlt
    refine withGet hlt fun x hx _ => ?_
    refine idxTy hx ?_
    refine callP (h31 _) rfl fun _ => ?_
    refine brn_p (fun _ => ?_) (fun _ => ?_)
    · exact retB false rfl rfl (fun _ => trivial)
    refine Fit.in64 (by omega) (by omega) ?_
    exact ⟨(k + 1, ()), ⟨hlt, trivial⟩, ⟨nextI, trivial⟩, ⟨.inl ⟨_, rfl, .inl ⟨rfl, rfl⟩⟩, trivial⟩, nextM hlt⟩
  refine loopN f.blocks.length 4 [] () (fun _ => []) (fun _ => [(1, .box 30 (funC f))]) (fun _ _ => True) trivial (same_keys rfl) trivial ⟨.inl ⟨_, rfl, .inl ⟨rfl, rfl⟩⟩, trivial⟩ (fun _ => rfl) (fun _ => rfl) ?_
  rintro k _ hk _ _ _ _
  refine brn_p (fun hlt => ?_) (fun hge => ?_)
  · have hlt : k < f.blocks.length := by simpa using hlt
    refine withGet hlt fun b hbx hbm => ?_
    have hbl := hlb b hbm
    refine idxT hbx rfl rfl ?_
    refine brn_p (fun _ => ?_) (fun _ => ?_)
    · exact retB false rfl rfl (fun _ => trivial)
    refine idxT hbx rfl rfl ?_
    refine brn_p (fun _ => ?_) (fun _ => ?_)
    · exact retB false rfl rfl (fun _ => trivial)
    refine loopN b.code.length 5 [4] () (fun _ => [IC k]) (fun _ => [(1, .box 30 (funC f))]) (fun _ _ => True) trivial (same_keys rfl) ⟨same_keys rfl, trivial⟩ ⟨.inl ⟨_, rfl, .inl ⟨rfl, rfl⟩⟩, trivial⟩ (fun _ => rfl) (fun _ => rfl) ?_
    rintro j _ hj _ _ _ _
    refine idxT hbx rfl rfl ?_
    refine brn_p (fun hlt' => ?_) (fun hge => ?_)
    · have hlt' : j < b.code.length := by simpa using hlt'
      refine idxT hbx rfl rfl ?_
      refine withGet hlt' fun y hy _ => ?_
      refine idxT hy rfl rfl ?_
      refine brn_p (fun _ => ?_) (fun _ => ?_)
      · exact retB false rfl rfl (fun _ => trivial)
      refine callP (h10 _) rfl fun _ => ?_
      refine brn_split (fun _ => ?_) (fun _ => ?_)
      · exact retB false rfl rfl (fun _ => trivial)
      refine Fit.in64 (by omega) (by omega) ?_
      exact ⟨(j + 1, ()), ⟨hlt', trivial⟩, ⟨nextI, same_keys rfl, trivial⟩, ⟨.inl ⟨_, rfl, .inl ⟨rfl, rfl⟩⟩, trivial⟩, nextM hlt'⟩
    refine Fit.in64 (by omega) (by omega) ?_
    exact ⟨(k + 1, ()), ⟨hlt, trivial⟩, ⟨nextI, trivial⟩, ⟨.inl ⟨_, rfl, .inl ⟨rfl, rfl⟩⟩, trivial⟩, nextM hlt⟩
  exact retB true rfl rfl (fun _ => trivial)
end Go.Fr.Try
