/- Regions that draw their order: if the operations go through in one order, they go through in each. -/
import Derived.Test.YtgapnemcomkomaaFrDraw1
set_option linter.unusedVariables false
set_option linter.unusedSimpArgs false
namespace Go.Fr
open Go Go.RowKit

section
variable {P : Program} {F : Frz} {L : Loc} {ρ : Env} {K K' : Kont}

/-- what each operation of a drawn region leads to -/
theorem evalOp_shape {o : SOp} (ho : okD o = true) {d : Option Nat} (hr : Real F L) (hvd : Vd L ρ) (hK : evalOp P o d F L ρ K)
    (hk : ∀ F1 L1 ρ1, (∃ v, ρ1 = put d v ρ) → F.le F1 → Real F1 L1 → Vd L1 ρ1 → K F1 L1 ρ1 → K' F1 L1 ρ1) : evalOp P o d F L ρ K' := by
  have vdput : ∀ {L1 : Loc} {v : SV}, Keeps L L1 → (∀ k off, v = .own k off → ∃ g ty cs, L1.get k = some (.box g ty cs)) → Vd L1 (put d v ρ) := by
    intro L1 v hL hv t k off e
    have old : ρ t = .own k off → ∃ g ty cs, L1.get k = some (.box g ty cs) := fun e => by
      obtain ⟨g, ty, cs, h⟩ := hvd t k off e
      exact ⟨g, ty, cs, hL k g ty cs h⟩
    rw [put_eq] at e
    cases d with
    | none => exact old e
    | some k' =>
      simp only [] at e
      split at e
      · exact hv k off e
      · exact old e
  by_cases hs : simpleD o = true
  · rw [evalOp_simple hs] at hK ⊢
    obtain ⟨v, hT, hv⟩ := (outV_one hs).ex _ hK
    refine (outV_one hs).mono _ _ (fun u hu => ?_) hT
    subst hu
    refine hk _ _ _ ⟨_, rfl⟩ (Frz.le_refl F) hr (vdput (Keeps.refl L) fun k off e => ?_) hv
    subst e
    obtain ⟨x, _, off', hx⟩ := outV_own hs hT
    exact hvd.ev hx
  · by_cases ha : allocD? o = true
    · rw [evalOp_alloc ha] at hK ⊢
      refine ⟨hK.1, fun F' L' v hm hr' => hk _ _ _ ⟨v, rfl⟩ hm.le hr' (vdput (hm.get hK.1) fun k off e => ?_) (hK.2 F' L' v hm hr')⟩
      cases hm with
      | box g => injection e with e1 e2; subst e1; exact ⟨_, _, _, by rw [Loc.get_set, if_pos rfl]⟩
      | alloc g => injection e with e1 e2; subst e1; exact ⟨_, _, _, by rw [Loc.get_set, if_pos rfl]⟩
      | mkF g F' hle hg => cases e
    · cases o <;> first | (exfalso; revert hs ha ho; simp [okD, okD0, simpleD, callD?, allocD?, appD?, storeD?]; done) | skip
      case callD f args =>
        simp only [evalOp] at hK ⊢
        exact hK.imp fun F' L' v hle hl hr' h => hk _ _ _ ⟨_, rfl⟩ hle hr' (vdput hl.keeps fun k off e => by cases e) h
      case callVD f args =>
        simp only [evalOp] at hK ⊢
        split at hK
        · exact hK.imp fun F' L' v hle hl hr' h => hk _ _ _ ⟨_, rfl⟩ hle hr' (vdput hl.keeps fun k off e => by cases e) h
        · exact hK.elim
      case appD e sz b zs s z =>
        simp only [evalOp] at hK ⊢
        split at hK
        · refine hK.imp (Frz.le_refl F) fun kd n xs n' xs' u hkd hr' h => hk _ _ _ ⟨_, rfl⟩ (Frz.le_refl F) hr' (vdput ?_ fun k off e => by cases e) (h hr')
          rcases hkd with h | ⟨_, h⟩
          · exact Keeps.row h
          · exact Keeps.new h
        · exact hK.elim
      case storeD n a x =>
        rw [evalOp_storeD] at hK ⊢
        split at hK
        case h_2 => exact hK.elim
        rename_i k off e1 e2 e3
        split at hK
        case h_2 => exact hK.elim
        rename_i g ty cs e4
        split at hK
        case h_2 => exact hK.elim
        rename_i e5
        refine hk _ _ _ ⟨_, rfl⟩ (Frz.le_refl F) (hr.store e4) ?_ hK
        intro t k' off' e
        have old : ρ t = .own k' off' → ∃ g' ty' cs', Loc.get (L.set k (.box g ty (splice cs off (vcells (val L ρ x))))) k' = some (.box g' ty' cs') := fun e => by
          obtain ⟨g', ty', cs', h⟩ := hvd t k' off' e
          rw [Loc.get_set]
          split
          · exact ⟨_, _, _, rfl⟩
          · exact ⟨_, _, _, h⟩
        rw [put_eq] at e
        cases d with
        | none => exact old e
        | some k' =>
          simp only [] at e
          split at e
          · cases e
          · exact old e

theorem evalOp_some {o : SOp} (ho : okD o = true) {d : Option Nat} (hr : Real F L) (hK : evalOp P o d F L ρ K) : ∃ v F1 L1, K F1 L1 (put d v ρ) := by
  by_cases hs : simpleD o = true
  · rw [evalOp_simple hs] at hK
    obtain ⟨v, _, hv⟩ := (outV_one hs).ex _ hK
    exact ⟨v, F, L, hv⟩
  · by_cases ha : allocD? o = true
    · rw [evalOp_alloc ha] at hK
      obtain ⟨F', L', v, hm, _, hr'⟩ := made_some hr hK.1
      exact ⟨v, F', L', hK.2 F' L' v hm hr'⟩
    · cases o <;> first | (exfalso; revert hs ha ho; simp [okD, okD0, simpleD, callD?, allocD?, appD?, storeD?]; done) | skip
      case callD f args =>
        simp only [evalOp] at hK
        obtain ⟨F', L', v, _, _, _, h⟩ := hK.some hr
        exact ⟨_, F', L', h⟩
      case callVD f args =>
        simp only [evalOp] at hK
        split at hK
        · obtain ⟨F', L', v, _, _, _, h⟩ := hK.some hr
          exact ⟨_, F', L', h⟩
        · exact hK.elim
      case appD e sz b zs s z =>
        simp only [evalOp] at hK
        split at hK
        · obtain ⟨kd, v, n', xs', _, _, h⟩ := hK.some hr
          exact ⟨_, F, _, h⟩
        · exact hK.elim
      case storeD n a x =>
        rw [evalOp_storeD] at hK
        split at hK
        case h_2 => exact hK.elim
        split at hK
        case h_2 => exact hK.elim
        split at hK
        case h_2 => exact hK.elim
        exact ⟨_, F, _, hK⟩

/-- an operation whose guard says no -/
def skipOp : SOp := .mov (.c undef)
def res (g : Option (Nat × Bool)) (ρ : Env) (o : SOp) : Option SOp :=
  match g with
  | none => some o
  | some (s, want) => match ρ s with
    | .v (.bool b) => some (if b = want then o else skipOp)
    | .v (.tuple _) => some skipOp
    | _ => none
theorem evalOps_cons {d : Option Nat} {o : SOp} {g : Option (Nat × Bool)} {rest : List SStep} :
    evalOps P (.op d o g :: rest) F L ρ K ↔ ∃ o', res g ρ o = some o' ∧ evalOp P o' d F L ρ (fun F1 L1 ρ1 => evalOps P rest F1 L1 ρ1 K) := by
  cases g with
  | none => simp only [evalOps, res, Option.some.injEq, exists_eq_left']
  | some p =>
    obtain ⟨s, want⟩ := p
    simp only [evalOps, res]
    cases e : ρ s with
    | own k off => simp
    | el a j => simp
    | v u =>
      cases u <;> simp only [Option.some.injEq, exists_eq_left', reduceCtorEq, false_and, exists_false]
      case bool b =>
        cases b <;> cases want <;> simp [brn, put_same e, skipOp, evalOp, outV, ev]
      case tuple vs => rfl

def looks (o : SOp) (g : Option (Nat × Bool)) : List Nat :=
  match g with
  | none => slotsX (xsOf o)
  | some (s, _) => s :: slotsX (xsOf o)
def optNot (d : Option Nat) (l : List Nat) : Bool :=
  match d with
  | none => true
  | some k => match mem? l k with | true => false | false => true
def optNe : Option Nat → Option Nat → Bool
  | some a, some b => match Nat.beq a b with | true => false | false => true
  | _, _ => true
def pairOk : SStep → SStep → Bool
  | .op dx x gx, .op dy y gy => okD x && okD y && clsOk x y && optNot dx (looks y gy) && optNot dy (looks x gx) && optNe dx dy
  | _, _ => false
theorem optNot_eq {d : Option Nat} {l : List Nat} (h : optNot d l = true) : ∀ k, d = some k → k ∉ l := by
  rintro k rfl hk
  simp only [optNot, mem?_eq.2 hk] at h
  cases h
theorem optNe_eq {d d' : Option Nat} (h : optNe d d' = true) : ∀ k, d = some k → d' ≠ some k := by
  rintro k rfl e
  subst e
  simp [optNe] at h

theorem res_put {g : Option (Nat × Bool)} {o : SOp} {d : Option Nat} {v : SV} (h : ∀ k, d = some k → k ∉ looks o g) : res g (put d v ρ) o = res g ρ o := by
  cases g with
  | none => rfl
  | some p =>
    obtain ⟨s, want⟩ := p
    have : put d v ρ s = ρ s := by
      rw [put_eq]
      cases d with
      | none => rfl
      | some k =>
        simp only []
        rw [if_neg]
        intro e
        exact h k rfl (by simp [looks, e])
    simp only [res, this]
theorem res_cases {g : Option (Nat × Bool)} {o o' : SOp} (h : res g ρ o = some o') : o' = o ∨ o' = skipOp := by
  cases g with
  | none => simp only [res, Option.some.injEq] at h; exact .inl h.symm
  | some p =>
    obtain ⟨s, want⟩ := p
    simp only [res] at h
    split at h
    · injection h with h
      split at h
      · exact .inl h.symm
      · exact .inr h.symm
    · injection h with h; exact .inr h.symm
    · cases h

theorem looks_sub {o : SOp} {g : Option (Nat × Bool)} {k : Nat} (h : k ∈ slotsX (xsOf o)) : k ∈ looks o g := by
  cases g with
  | none => exact h
  | some p => exact List.mem_cons_of_mem _ h

theorem swapStep {x y : SStep} {rest : List SStep} (hp : pairOk x y = true) (hr : Real F L) (hvd : Vd L ρ) (h : evalOps P (x :: y :: rest) F L ρ K) : evalOps P (y :: x :: rest) F L ρ K := by
  match x, y, hp with
  | .op dx x gx, .op dy y gy, hp =>
    simp only [pairOk, Bool.and_eq_true] at hp
    obtain ⟨⟨⟨⟨⟨okx, oky⟩, hc⟩, h1⟩, h2⟩, h3⟩ := hp
    have h1 := optNot_eq h1
    have h2 := optNot_eq h2
    have h3 := optNe_eq h3
    have h3' : ∀ k, dy = some k → dx ≠ some k := fun k e e' => h3 k e' e
    rw [evalOps_cons] at h
    obtain ⟨x', hx', h⟩ := h
    have okskip : okD skipOp = true := rfl
    have okx' : okD x' = true := by rcases res_cases hx' with rfl | rfl; exact okx; exact okskip
    -- y's guard
    have hy : ∃ y', res gy ρ y = some y' := by
      obtain ⟨v, F1, L1, hk⟩ := evalOp_some okx' hr h
      rw [evalOps_cons] at hk
      obtain ⟨y', hy', _⟩ := hk
      rw [res_put h1] at hy'
      exact ⟨y', hy'⟩
    obtain ⟨y', hy'⟩ := hy
    have oky' : okD y' = true := by rcases res_cases hy' with rfl | rfl; exact oky; exact okskip
    have hA : evalOp P x' dx F L ρ (fun F1 L1 ρ1 => evalOp P y' dy F1 L1 ρ1 (fun F2 L2 ρ2 => evalOps P rest F2 L2 ρ2 K)) := by
      refine evalOp_shape okx' hr hvd h ?_
      rintro F1 L1 ρ1 ⟨v, rfl⟩ _ _ _ hk
      rw [evalOps_cons] at hk
      obtain ⟨y'', hy'', hk⟩ := hk
      rw [res_put h1, hy'] at hy''
      injection hy'' with hy''
      subst hy''
      exact hk
    have lx : ∀ k, dy = some k → k ∉ slotsX (xsOf x') := by
      intro k e hk
      rcases res_cases hx' with rfl | rfl
      · exact h2 k e (looks_sub hk)
      · simp [skipOp, xsOf, slotsX] at hk
    have ly : ∀ k, dx = some k → k ∉ slotsX (xsOf y') := by
      intro k e hk
      rcases res_cases hy' with rfl | rfl
      · exact h1 k e (looks_sub hk)
      · simp [skipOp, xsOf, slotsX] at hk
    have hB : evalOp P y' dy F L ρ (fun F1 L1 ρ1 => evalOp P x' dx F1 L1 ρ1 (fun F2 L2 ρ2 => evalOps P rest F2 L2 ρ2 K)) := by
      by_cases hskip : y' = skipOp
      · subst hskip
        simp only [skipOp, evalOp, outV, ev]
        exact evalOp_env (K := fun F2 L2 ρ2 => evalOps P rest F2 L2 ρ2 K) (u := .v undef) okx' lx h3 hA
      · have ey : y' = y := by rcases res_cases hy' with h | h; exact h; exact absurd h hskip
        subst ey
        refine swapOp hr ?_ ly lx h3 hvd hA
        rcases res_cases hx' with rfl | rfl
        · exact hc
        · simp only [okD, Bool.or_eq_true] at oky
          rcases oky with oky | oky
          · simp only [clsOk, oky, Bool.and_true, Bool.or_eq_true]; exact .inl (.inl (.inl (.inl (.inl rfl))))
          · simp only [clsOk, oky, Bool.and_true, Bool.or_eq_true]; exact .inl (.inr rfl)
    rw [evalOps_cons]
    refine ⟨y', hy', evalOp_shape oky' hr hvd hB ?_⟩
    rintro F1 L1 ρ1 ⟨v, rfl⟩ _ _ _ hk
    rw [evalOps_cons]
    exact ⟨x', by rw [res_put h2]; exact hx', hk⟩

theorem frontStep {y : SStep} {s : List SStep} : ∀ (p : List SStep), (∀ x ∈ p, pairOk x y = true) → ∀ {F : Frz} {L : Loc} {ρ : Env}, Real F L → Vd L ρ → evalOps P (p ++ y :: s) F L ρ K → evalOps P (y :: (p ++ s)) F L ρ K
  | [], _, F, L, ρ, _, _, h => h
  | .frz k :: p, hp, F, L, ρ, _, _, h => by
    have := hp (.frz k) (by simp)
    cases y <;> simp [pairOk] at this
  | .op dx x gx :: p, hp, F, L, ρ, hr, hvd, h => by
    have hxy := hp (.op dx x gx) (by simp)
    have h' : evalOps P (.op dx x gx :: y :: (p ++ s)) F L ρ K := by
      rw [List.cons_append, evalOps_cons] at h
      obtain ⟨x', hx', h⟩ := h
      have okx : okD x = true := by
        cases y with
        | frz k => simp [pairOk] at hxy
        | op dy y gy => simp only [pairOk, Bool.and_eq_true] at hxy; exact hxy.1.1.1.1.1
      have okx' : okD x' = true := by rcases res_cases hx' with rfl | rfl; exact okx; rfl
      rw [evalOps_cons]
      refine ⟨x', hx', evalOp_shape okx' hr hvd h ?_⟩
      intro F1 L1 ρ1 _ _ hr1 hvd1 hk
      exact frontStep p (fun z hz => hp z (by simp [hz])) hr1 hvd1 hk
    exact swapStep hxy hr hvd h'
end

/- the order of a region -/
def lowD (P : Program) (A : Ann) (ops : Array Oper) (i : Nat) : Option SStep :=
  match ops[i]? with
  | none => none
  | some o => match lowGuard ops o.guard, lowOp P false o.op, dstIn A.n o.dst with
    | some g, some s, true => match A.isO o.dst with
      | true => match drawnO s with
        | some s' => some (.op o.dst s' g)
        | none => none
      | false => match drawn s with
        | some s' => match simpleD s' || callD? s' || allocD? s' || appD? s' || storeD? s' with
          | true => some (.op o.dst s' g)
          | false => none
        | none => none
    | _, _, _ => none
end Go.Fr
