/- Digest: folds. -/
import Derived.Test.YtgapnemcomkomaaTlUse
import Derived.Test.YtgapnemcomkomaaDgCode
set_option linter.unusedVariables false
set_option linter.unusedSimpArgs false
namespace Go.Fr.Try
open Go Go.RowKit Go.Proofs Go.Fr Go.Fr.T

noncomputable abbrev P : Program := Try.prog

def stepN (h x : Int) : Int := (h * 1000003 + x + 1).tmod 2147483647
def foldN (l : List Int) : Int := l.foldl stepN 7
theorem stepN_bd {h x : Int} (h0 : 0 ≤ h) (hx : 0 ≤ x) : 0 ≤ stepN h x ∧ stepN h x < 2147483647 := by
  have : 0 ≤ h * 1000003 + x + 1 := by omega
  rw [stepN, Int.tmod_eq_emod_of_nonneg this]
  exact ⟨Int.emod_nonneg _ (by omega), Int.emod_lt_of_pos _ (by omega)⟩

theorem t40 (b : UInt8) : CallsT P 40 [bcell b] [] (Ret [] (.int .i64 b.toNat)) := by
  refine callsT_facts Try.func40 facts40 rfl fun hw _ => ?_
  refine Fit.in64 (by omega) (by have := b.toNat_lt; omega) ?_
  exact retP rfl rfl

def bytesN (bs : List UInt8) : List Int := bs.map fun b => (b.toNat : Int)
theorem t39 (bs : List UInt8) : CallsT P 39 [.sl (bcells bs), .fn 40 [] []] [] (Ret [] (.int .i64 (foldN (bytesN bs)))) := by
  refine callsT_facts Try.func39 facts39 rfl fun hw _ => ?_
  have hn := wf_lenB hw.1
  refine loopN bs.length 10 [5] 7 (fun h => [.int .i64 h]) (fun _ => []) (fun k h => 0 ≤ h ∧ h < 2147483647 ∧ (bytesN (bs.drop k)).foldl stepN h = foldN (bytesN bs)) ⟨by omega, by omega, rfl⟩
    (same_keys rfl) ⟨same_keys rfl, trivial⟩ trivial (fun _ => rfl) (fun _ => rfl) ?_
  rintro k h hk ⟨h0, h1, hf⟩ hw1 _ hk64
  refine brn_p (fun hlt => ?_) (fun hge => ?_)
  · have hlt : k < bs.length := by simpa [bcells] using hlt
    obtain ⟨b, hb, hd⟩ := drop_cons hlt
    rw [hd] at hf
    obtain ⟨g1, g2⟩ := stepN_bd (x := b.toNat) h0 (by omega)
    have hbl := b.toNat_lt
    refine idxB hb ?_
    refine Fit.in64 (by omega) (by omega) ?_
    refine callP (t40 b) rfl fun _ => ?_
    refine Fit.in64 (by omega) (by omega) ?_
    refine Fit.in64 (by omega) (by omega) ?_
    refine NonZ.mk (by omega) ?_
    refine Fit.in64 (by omega) (by omega) ?_
    exact ⟨(k + 1, stepN h b.toNat), ⟨hlt, g1, g2, hf⟩, ⟨nextI, same_keys rfl, trivial⟩, trivial, nextM hlt⟩
  · have hge : ¬ k < bs.length := by simpa [bcells] using hge
    rw [drop_end hge] at hf
    exact retP rfl (congrArg (C.int .i64) hf)
end Go.Fr.Try
