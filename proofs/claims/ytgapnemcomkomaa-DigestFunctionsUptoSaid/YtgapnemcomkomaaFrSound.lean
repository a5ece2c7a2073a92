/- The evaluator speaks of the model's code: operations, regions whose order is the text's. -/
import Derived.Test.YtgapnemcomkomaaFrOps6
set_option linter.unusedVariables false
set_option linter.unusedSimpArgs false
namespace Go.Fr
open Go Go.RowKit

section
variable {P : Program} {F : Frz} {L : Loc} {ρ : Env} {a : Act} {w : World} {K : Kont} {o : Oper} {Q : Exit → Act → World → Prop}

theorem built_fits {zs : List Value} {l : List (Nat × Nat × X)} (h : (l.all fun p => Nat.ble (p.1 + p.2.1) zs.length) = true) : ∀ off n x, (off, n, x) ∈ l → off + n ≤ zs.length := by
  intro off n x hm
  have := List.all_eq_true.1 h _ hm
  exact Nat.le_of_ble_eq_true this

set_option maxHeartbeats 1000000 in
theorem evalOp_sound {own : Bool} {s : SOp} (hs : St F L w) (he : EnvOk L ρ a) (hd : ∀ k, o.dst = some k → k < a.tmps.size) (hl : lowOp P own o.op = some s)
    (hK : evalOp P s o.dst F L ρ K) : o.wp P a w (Next1 F L w a K) Q := by
  cases ho : o.op <;> rw [ho] at hl <;> simp only [lowOp] at hl <;> try (cases hl; done)
  case move y =>
    split at hl
    case h_2 => cases hl
    rename_i x hx
    injection hl with hl; subst hl
    exact op_mov hs he hd (.inl ho) hx hK
  case assign y =>
    split at hl
    case h_2 => cases hl
    rename_i x hx
    injection hl with hl; subst hl
    exact op_mov hs he hd (.inr ho) hx hK
  case pick c y z =>
    split at hl
    case h_2 => cases hl
    rename_i h1 h2 h3
    injection hl with hl; subst hl
    exact op_pick hs he hd ho h1 h2 h3 hK
  case box t y =>
    split at hl
    case h_2 => cases hl
    rename_i h1
    injection hl with hl
    cases own
    · subst hl
      exact op_box hs he hd ho h1 hK
    · subst hl
      exact op_boxF hs he hd ho h1 hK
  case alloc t =>
    split at hl
    case h_2 => cases hl
    rename_i h1
    split at hl
    case h_2 => cases hl
    rename_i h2
    injection hl with hl; subst hl
    exact op_alloc hs he hd ho h1 h2 hK
  case buildSlice t n ps =>
    split at hl
    case h_2 => cases hl
    rename_i h1 h2
    split at hl
    case h_2 => cases hl
    rename_i h3
    split at hl
    case h_2 => cases hl
    rename_i h4 h5 h6
    have h4 := of_decide_eq_true h4
    have h5 := of_decide_eq_true h5
    injection hl with hl
    cases own
    · subst hl
      exact op_mkF hs he hd ho h1 h3 h6 h2 h4 h5.1 hK
    · subst hl
      exact op_mkR hs he hd ho h1 h3 h6 h2 h4 h5.1 h5.2 hK
  case build t ps =>
    split at hl
    case h_2 => cases hl
    rename_i h1 h2
    split at hl
    case h_2 => cases hl
    rename_i h3 h4
    split at hl
    case h_2 => cases hl
    rename_i h5 h6
    injection hl with hl; subst hl
    exact op_build hs he hd ho h1 h2 h3 h4 (fun f hf => List.all_eq_true.1 h5 f hf) (built_fits h6) hK
  case load t y =>
    split at hl
    case h_2 => cases hl
    rename_i d i x h1 h2 h3
    injection hl with hl
    refine op_load (d := d) (i := i) (n := match isAggD d with | true => i.size | false => 1) hs he hd ho h1 h2 h3 rfl ?_
    cases hdd : isAggD d <;> simp only [hdd] at hl ⊢ <;> subst hl <;> exact hK
  case store t y z =>
    split at hl
    case h_2 => cases hl
    rename_i h1 h2 h3
    split at hl
    case h_1 => cases hl
    rename_i h4
    have h4 := of_decide_eq_false h4
    injection hl with hl; subst hl
    exact op_store hs he hd ho h1 h4 h2 h3 hK
  case nilCheck y =>
    split at hl
    case h_2 => cases hl
    rename_i h1
    injection hl with hl; subst hl
    exact op_nilck hs he hd ho h1 hK
  case binOp op t y z t' =>
    split at hl
    case h_2 => cases hl
    rename_i d x1 x2 h1 h2 h3
    split at hl <;> first
      | (cases hl; done)
      | (injection hl with hl; subst hl; first
          | exact op_eqB (neg := false) hs he hd ho h1 h2 h3 hK
          | exact op_eqB (neg := true) hs he hd ho h1 h2 h3 hK
          | exact op_eqP (neg := false) hs he hd ho h1 h2 h3 hK
          | exact op_eqP (neg := true) hs he hd ho h1 h2 h3 hK
          | exact op_eqS (neg := false) hs he hd ho h1 h2 h3 hK
          | exact op_eqS (neg := true) hs he hd ho h1 h2 h3 hK
          | exact op_eqF (neg := false) hs he hd ho h1 h2 h3 hK
          | exact op_eqF (neg := true) hs he hd ho h1 h2 h3 hK
          | exact op_bin hs he hd ho h2 h3 hK)
  case unOp op t y =>
    split at hl
    case h_2 => cases hl
    rename_i h1
    injection hl with hl; subst hl
    exact op_un hs he hd ho h1 hK
  case convert s t y =>
    split at hl
    case h_4 => cases hl
    · rename_i h1 h2 h3
      injection hl with hl; subst hl
      exact op_conv hs he hd ho h1 h2 h3 hK
    · rename_i h1 h2 h3
      split at hl
      case h_2 => cases hl
      rename_i h4
      injection hl with hl; subst hl
      exact op_b2s hs he hd ho h1 h2 h4 h3 hK
    · rename_i h1 h2 h3
      split at hl
      case h_2 => cases hl
      rename_i h4
      injection hl with hl; subst hl
      exact op_s2b hs he hd ho h1 h2 h4 h3 hK
  case makeFunc fn fi ca =>
    cases fn <;> simp only [] at hl <;> try (cases hl; done)
    split at hl
    case h_2 => cases hl
    rename_i h1 h2
    injection hl with hl; subst hl
    exact op_mkfn hs he hd ho h1 h2 hK
  case makeSlice t y z =>
    split at hl
    case h_2 => cases hl
    rename_i h1 h2 h3
    split at hl
    case h_2 => cases hl
    rename_i h4
    split at hl
    case h_2 => cases hl
    rename_i h5
    split at hl
    case h_2 => cases hl
    rename_i h6 h7
    injection hl with hl; subst hl
    exact op_makeS hs he hd ho h1 h4 h5 (of_decide_eq_true h6) (of_decide_eq_true h7) h2 h3 hK
  case slice t y lo up mx =>
    cases mx <;> simp only [] at hl <;> try (cases hl; done)
    split at hl
    case h_3 => cases hl
    · rename_i h1 h2 h3 h4
      split at hl
      case h_2 => cases hl
      rename_i h5
      injection hl with hl; subst hl
      exact op_slc hs he hd ho h1 h5 h2 h3 h4 hK
    · rename_i h1 h2 h3 h4
      injection hl with hl; subst hl
      exact op_slcS hs he hd ho h1 h2 h3 h4 hK
  case fieldAddr t y f =>
    split at hl
    case h_2 => cases hl
    rename_i h1 h2
    split at hl
    case h_2 => cases hl
    rename_i h3
    split at hl
    case h_2 => cases hl
    rename_i h4
    split at hl
    case h_1 => cases hl
    rename_i h5
    injection hl with hl; subst hl
    exact op_fieldA hs he hd ho h1 h3 h4 (of_decide_eq_false h5) h2 hK
  case field t y f =>
    split at hl
    case h_2 => cases hl
    rename_i h1 h2
    split at hl
    case h_2 => cases hl
    rename_i h3
    split at hl
    case h_2 => cases hl
    rename_i d i h4 h5
    refine op_fieldV (n := match isAggD d with | true => i.size | false => 1) hs he hd ho h1 h3 h4 h5 h2 rfl ?_
    cases hdd : isAggD d <;> simp only [hdd] at hl ⊢ <;> injection hl with hl <;> subst hl <;> exact hK
  case indexAddr t y z =>
    split at hl
    case h_2 => cases hl
    rename_i h1 h2 h3
    split at hl
    case h_2 => cases hl
    rename_i h4
    injection hl with hl; subst hl
    exact op_idxA hs he hd ho h1 h4 h2 h3 hK
  case index t y z =>
    split at hl
    case h_2 => cases hl
    rename_i h1 h2 h3
    injection hl with hl; subst hl
    exact op_idxS hs he hd ho h1 h2 h3 hK
  case extract y i =>
    split at hl
    case h_2 => cases hl
    rename_i h1
    injection hl with hl; subst hl
    exact op_extr hs he hd ho h1 hK
  case call c =>
    split at hl
    case h_1 => cases hl
    rename_i args hargs
    split at hl
    · rename_i f hc
      split at hl
      case h_2 => cases hl
      split at hl
      case h_2 => cases hl
      injection hl with hl; subst hl
      exact op_call hs he hd ho hc hargs hK
    · rename_i y hc
      split at hl
      case h_2 => cases hl
      rename_i h1
      injection hl with hl; subst hl
      exact op_callV hs he hd ho hc h1 hargs hK
    · rename_i b hc
      have one : ∀ {x : X}, args = [x] → ∃ y, c.args = #[y] ∧ lowX y = some x := by
        intro x e
        subst e
        match hl' : c.args.toList, hargs with
        | [], h => simp [lowXs] at h
        | [y], h =>
          refine ⟨y, by apply Array.ext'; simpa using hl', ?_⟩
          simp only [lowXs] at h
          split at h
          case h_2 => cases h
          rename_i h1 h2
          injection h with h
          injection h with h _
          rw [h1, h]
        | y :: z :: r, h =>
          simp only [lowXs] at h
          split at h
          case h_2 => cases h
          rename_i h1 h2
          injection h with h
          injection h with _ h
          subst h
          split at h2
          · injection h2 with h2; cases h2
          · cases h2
      have two : ∀ {x x' : X}, args = [x, x'] → ∃ y y', c.args = #[y, y'] ∧ lowX y = some x ∧ lowX y' = some x' := by
        intro x x' e
        subst e
        match hl' : c.args.toList, hargs with
        | [], h => simp [lowXs] at h
        | [y], h =>
          simp only [lowXs] at h
          split at h
          case h_2 => cases h
          rename_i h1 h2
          injection h2 with h2
          injection h with h
          injection h with _ h
          rw [h] at h2
          cases h2
        | [y, y'], h =>
          refine ⟨y, y', by apply Array.ext'; simpa using hl', ?_⟩
          simp only [lowXs] at h
          split at h
          case h_2 => cases h
          rename_i h1 h2
          injection h with h
          injection h with h h'
          split at h2
          case h_2 => cases h2
          rename_i h3 h4
          injection h2 with h2
          rw [← h2] at h'
          injection h' with h' _
          exact ⟨by rw [h1, h], by rw [h3, h']⟩
        | y :: z :: u :: r, h =>
          simp only [lowXs] at h
          split at h
          case h_2 => cases h
          rename_i h1 h2
          injection h with h
          injection h with _ h
          subst h
          split at h2
          case h_2 => cases h2
          rename_i h3 h4
          injection h2 with h2
          injection h2 with _ h2
          subst h2
          split at h4
          · injection h4 with h4; cases h4
          · cases h4
      have ts1 : ∀ {t : TypeId}, c.argTypes.toList = [t] → c.argTypes = #[t] := fun e => by apply Array.ext'; simpa using e
      have ts2 : ∀ {t t' : TypeId}, c.argTypes.toList = [t, t'] → c.argTypes = #[t, t'] := fun e => by apply Array.ext'; simpa using e
      split at hl
      · rename_i x t hts
        obtain ⟨y, ha, hy⟩ := one rfl
        split at hl
        · rename_i h1
          injection hl with hl; subst hl
          exact op_len hs he hd ho hc ha (ts1 hts) h1 hy hK
        · rename_i h1
          injection hl with hl; subst hl
          exact op_lenS hs he hd ho hc ha (ts1 hts) h1 hy hK
        · cases hl
      · rename_i x t hts
        obtain ⟨y, ha, hy⟩ := one rfl
        split at hl
        · rename_i h1
          injection hl with hl; subst hl
          exact op_capa hs he hd ho hc ha (ts1 hts) h1 hy hK
        · cases hl
      · injection hl with hl; subst hl
        exact op_mm (mx := true) hs he hd ho hc hargs hK
      · injection hl with hl; subst hl
        exact op_mm (mx := false) hs he hd ho hc hargs hK
      · rename_i x x' t t' hts
        obtain ⟨y, y', ha, hy, hy'⟩ := two rfl
        split at hl
        · rename_i h1 h2
          split at hl
          case h_2 => cases hl
          rename_i h3
          split at hl
          case h_2 => cases hl
          rename_i h4
          split at hl
          case h_2 => cases hl
          rename_i h5 h6 h7
          have h5 := of_decide_eq_true h5
          subst h5
          injection hl with hl; subst hl
          exact op_app hs he hd ho hc ha (ts2 hts) h1 h3 h4 (of_decide_eq_true h6) (of_decide_eq_true h7) hy hy' hK
        · rename_i h1 h2
          split at hl
          case h_2 => cases hl
          rename_i h3
          split at hl
          case h_2 => cases hl
          rename_i h4
          split at hl
          case h_2 => cases hl
          rename_i h5 h6 h7
          have h5 := of_decide_eq_true h5
          subst h5
          injection hl with hl; subst hl
          exact op_appS hs he hd ho hc ha (ts2 hts) h1 h2 h3 h4 (of_decide_eq_true h6) (of_decide_eq_true h7) hy hy' hK
        · cases hl
      · repeat' (split at hl <;> first | (cases hl; done) | skip)
      · cases hl
    · cases hl
end
end Go.Fr
