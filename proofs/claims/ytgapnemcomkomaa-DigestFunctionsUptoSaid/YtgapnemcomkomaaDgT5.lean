/- Digest: named types. -/
import Derived.Test.YtgapnemcomkomaaDgT4
set_option linter.unusedVariables false
set_option linter.unusedSimpArgs false
namespace Go.Fr.Try
open Go Go.RowKit Go.Proofs Go.Fr Go.Fr.T Go.Fr.Api

set_option maxRecDepth 10000 in
theorem t80 {po : Option Prog} {p : C} (hp : PC po p) (bs : List UInt8) (t : Ty) (hb : (bs ++ (encName po t.kind t.id).getD []).length ≤ 2 ^ 46) :
    CallsT P 80 [.own 1000 0, .agg (tyC t)] (Wr p bs) (Ret (Wr p (bs ++ (encName po t.kind t.id).getD [])) (.bool (encName po t.kind t.id).isSome)) := by
  rw [tyC_eq]
  have hp' := hp
  have none_case : ∀ (e : encName po t.kind t.id = none), p = .nilp ∨ (∃ q, po = some q ∧ p = .pt (progC q) 0 ∧ (¬ t.kind = 2 ∨ (t.kind = 2 ∧ elem q.datas t.id = none))) →
      CallsT P 80 [.own 1000 0, .agg [IC t.kind, IC t.id, .sl (t.args.map tyC)]] (Wr p bs) (Ret (Wr p bs) (.bool false)) := by
    rintro e (rfl | ⟨q, rfl, rfl, hk⟩)
    · refine callsT_facts Try.func80 facts80 rfl fun hw _ => ?_
      exact retO [1000, 1001] rfl rfl rfl rfl
    · refine callsT_facts Try.func80 facts80 rfl fun hw _ => ?_
      rcases hk with hk | ⟨hk, hd⟩
      · refine brn_split (fun h => ?_) (fun h => absurd (by simpa using h) hk)
        exact retO [1000, 1001] rfl rfl rfl rfl
      · refine brn_split (fun h => absurd hk (by simpa using h)) (fun h => ?_)
        refine callPD (t89n _ _ hd) rfl fun _ => ?_
        exact retO [1000, 1001] rfl rfl rfl rfl
  cases hp with
  | nil =>
    have := none_case rfl (.inl rfl)
    simpa [encName] using this
  | prog q =>
    by_cases hk : t.kind = 2
    · cases hd : elem q.datas t.id with
      | none =>
        have e : encName (some q) t.kind t.id = none := by simp [encName, hk, hd]
        have := none_case e (.inr ⟨q, rfl, rfl, .inr ⟨hk, hd⟩⟩)
        rw [e]
        simpa using this
      | some d =>
        have e : encName (some q) t.kind t.id = some (encSs [nm q.modules d.module, d.name]) := by simp [encName, hk, hd]
        rw [e] at hb ⊢
        have hx := t48 q.modules d.module
        obtain ⟨b, hm⟩ := hx
        refine callsT_facts Try.func80 facts80 rfl fun hw _ => ?_
        refine brn_split (fun h => absurd hk (by simpa using h)) (fun h => ?_)
        refine callPD (t89s _ _ d hd) rfl fun _ => ?_
        refine callPD hm rfl fun _ => ?_
        refine callO [1000, 1001] [1000, 1001] (t50 hp' bs [nm q.modules d.module, d.name] hb) rfl rfl rfl rfl rfl fun _ _ => ?_
        exact retO [1000, 1001] rfl rfl rfl rfl
    · have e : encName (some q) t.kind t.id = none := by simp [encName, hk]
      have := none_case e (.inr ⟨q, rfl, rfl, .inl hk⟩)
      rw [e]
      simpa using this
end Go.Fr.Try
