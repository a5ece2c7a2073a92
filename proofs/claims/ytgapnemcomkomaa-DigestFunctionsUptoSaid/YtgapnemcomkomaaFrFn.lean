/- The evaluator speaks of the model's code: control, functions. -/
import Derived.Test.YtgapnemcomkomaaFrDraw3
set_option linter.unusedVariables false
set_option linter.unusedSimpArgs false
namespace Go.Fr
open Go Go.RowKit

def asgOf : Code → List Nat
  | .region _ ops _ => dstsOf ops (List.range ops.size)
  | .seq a b => asgOf a ++ asgOf b
  | .cond _ a b => asgOf a ++ asgOf b
  | .block _ c | .loop c | .scope c => asgOf c
  | _ => []

/-- rows that are given up ahead of a region -/
def frzD : List Nat → SCode → SCode
  | [], x => x
  | k :: l, x => .seq (.reg (.frz k :: l.map .frz)) x

def low (P : Program) (A : Ann) : Code → Option SCode
  | .skip => some .skip
  | .label _ => some .skip
  | .region r ops false => match lowReg P A r ops (List.range ops.size) with | some ss => some (.reg ss) | none => none
  | .region r ops true => match ordAt A.ord r, lowRegD P A ops (ordIs A.ord r) with
    | some (is, cl), some ss => match drawOk P ops is cl ss with
      | true => some (frzD (frzAt A.frz r 0) (.regD ss))
      | false => none
    | _, _ => none
  | .seq a b => match low P A a, low P A b with | some x, some y => some (.seq x y) | _, _ => none
  | .cond c a b => match lowX c, low P A a, low P A b with | some c, some x, some y => some (.cond c x y) | _, _, _ => none
  | .block id c => match low P A c with | some x => some (.block id x) | none => none
  | .loop c => match low P A c with | some x => some (.loop (asgOf c) x) | none => none
  | .exit id => some (.exit id)
  | .ret => some .ret
  | _ => none

section
variable {P : Program} {Q : Exit → Act → World → Prop}

/-- what a piece of code leads to -/
def QQ (n : Nat) (F : Frz) (L : Loc) (w : World) (a : Act) (asg : List Nat) (E : Nat → Kont) (R N : Kont) : Exit → Act → World → Prop
  | .normal, a', w' => Next2 n F L w a asg N a' w'
  | .exit j, a', w' => Next2 n F L w a asg (E j) a' w'
  | .ret, a', w' => Next2 n F L w a asg R a' w'
  | _, _, _ => False

theorem Next2.mono {n : Nat} {F : Frz} {L : Loc} {w : World} {a : Act} {asg asg' : List Nat} {K : Kont} {a' : Act} {w' : World} (h : Next2 n F L w a asg K a' w') (hsub : ∀ j, j ∈ asg → j ∈ asg') : Next2 n F L w a asg' K a' w' := by
  obtain ⟨F', L', ρ', h1, h2, h3, h4, h5, h6, h7⟩ := h
  exact ⟨F', L', ρ', h1, h2, h3, h4, h5, fun j hj => h6 j (fun hj' => hj (hsub j hj')), h7⟩
theorem Next2.after {n : Nat} {F F1 : Frz} {L L1 : Loc} {w w1 : World} {a a1 : Act} {asg asg1 asg2 : List Nat} {K : Kont} {a' : Act} {w' : World} (hst : Step F L w F1 L1 w1) (hfr : ∀ j, j ∉ asg1 → a1.tmps.getD j undef = a.tmps.getD j undef)
    (h : Next2 n F1 L1 w1 a1 asg2 K a' w') (h1 : ∀ j, j ∈ asg1 → j ∈ asg) (h2 : ∀ j, j ∈ asg2 → j ∈ asg) : Next2 n F L w a asg K a' w' := by
  obtain ⟨F', L', ρ', g1, g2, g3, g4, g5, g6, g7⟩ := h
  exact ⟨F', L', ρ', g1, g2, g3, g4, hst.trans g5, fun j hj => by rw [g6 j (fun h => hj (h2 j h)), hfr j (fun h => hj (h1 j h))], g7⟩

theorem ghosts_sound {a : Act} {w : World} {rest : List SStep} {K : Kont} : ∀ (ks : List Nat) {F : Frz} {L : Loc} {ρ : Env}, St F L w → EnvOk L ρ a → evalOps P (ks.map SStep.frz ++ rest) F L ρ K →
    ∃ F' L' ρ', St F' L' w ∧ EnvOk L' ρ' a ∧ Step F L w F' L' w ∧ evalOps P rest F' L' ρ' K := by
  intro ks
  induction ks with
  | nil => intro F L ρ hs he h; exact ⟨F, L, ρ, hs, he, Step.refl _ _ _, h⟩
  | cons k ks ihk =>
    intro F L ρ hs he h
    simp only [List.map_cons, List.cons_append, evalOps] at h
    split at h
    · rename_i g' t' cs' hk
      obtain ⟨F1, hle, hg1, hs1, he1, hst1⟩ := frzB_sound hs he hk
      obtain ⟨F2, L2, ρ2, hs2, he2, hst2, h2⟩ := ihk hs1 he1 (h F1 hle hg1)
      exact ⟨F2, L2, ρ2, hs2, he2, hst1.trans hst2, h2⟩
    · obtain ⟨F1, L1, hs1, he1, hst1, h1⟩ := frz_sound hs he h
      obtain ⟨F2, L2, ρ2, hs2, he2, hst2, h2⟩ := ihk hs1 he1 h1
      exact ⟨F2, L2, ρ2, hs2, he2, hst1.trans hst2, h2⟩
theorem frzD_sound {ss : List SStep} {E : Nat → Kont} {R N : Kont} {F : Frz} {L : Loc} {ρ : Env} {a : Act} {w : World} : ∀ (ks : List Nat), St F L w → EnvOk L ρ a → evalC P (frzD ks (.regD ss)) E R N F L ρ →
    ∃ F' L' ρ', St F' L' w ∧ EnvOk L' ρ' a ∧ Step F L w F' L' w ∧ evalOps P ss F' L' ρ' N
  | [], hs, he, h => ⟨F, L, ρ, hs, he, Step.refl _ _ _, by simpa only [frzD, evalC] using h⟩
  | k :: l, hs, he, h => by
    simp only [frzD, evalC] at h
    have h' : evalOps P ((k :: l).map SStep.frz ++ []) F L ρ (fun F L ρ => evalOps P ss F L ρ N) := by simpa only [List.map_cons, List.append_nil] using h
    obtain ⟨F1, L1, ρ1, h1, h2, h3, h4⟩ := ghosts_sound (k :: l) hs he h'
    simp only [evalOps] at h4
    exact ⟨F1, L1, ρ1, h1, h2, h3, h4⟩

theorem evalC_sound {A : Ann} : ∀ (c : Code) {sc : SCode}, low P A c = some sc → ∀ {E : Nat → Kont} {R N : Kont} {F : Frz} {L : Loc} {ρ : Env} {a : Act} {w : World}, St F L w → EnvOk L ρ a → a.tmps.size = A.n → a.defers = [] →
    evalC P sc E R N F L ρ → c.wp P (QQ A.n F L w a (asgOf c) E R N) a w := by
  intro c
  induction c with
  | skip =>
    intro sc hl E R N F L ρ a w hs he hn hd hK
    simp only [low, Option.some.injEq] at hl; subst hl
    exact wp_skip ⟨F, L, ρ, hs, he, hn, hd, Step.refl _ _ _, fun _ _ => rfl, hK⟩
  | label l =>
    intro sc hl E R N F L ρ a w hs he hn hd hK
    simp only [low, Option.some.injEq] at hl; subst hl
    exact wp_label ⟨F, L, ρ, hs, he, hn, hd, Step.refl _ _ _, fun _ _ => rfl, hK⟩
  | exit id =>
    intro sc hl E R N F L ρ a w hs he hn hd hK
    simp only [low, Option.some.injEq] at hl; subst hl
    exact wp_exit ⟨F, L, ρ, hs, he, hn, hd, Step.refl _ _ _, fun _ _ => rfl, hK⟩
  | ret =>
    intro sc hl E R N F L ρ a w hs he hn hd hK
    simp only [low, Option.some.injEq] at hl; subst hl
    exact wp_ret ⟨F, L, ρ, hs, he, hn, hd, Step.refl _ _ _, fun _ _ => rfl, hK⟩
  | region r ops draw =>
    intro sc hl E R N F L ρ a w hs he hn hd hK
    cases draw with
    | false =>
      simp only [low] at hl
      split at hl
      case h_2 => cases hl
      rename_i ss hss
      injection hl with hl; subst hl
      simp only [evalC] at hK
      exact wp_region (evalOps_sound _ hss hs he hn hd hK fun a' w' h => h)
    | true =>
      simp only [low] at hl
      split at hl
      case h_2 => cases hl
      rename_i is cl ss h1 h2
      split at hl
      case h_2 => cases hl
      rename_i h3
      injection hl with hl; subst hl
      obtain ⟨F1, L1, ρ1, hs1, he1, hst1, hK⟩ := frzD_sound _ hs he hK
      have h4 : ordIs A.ord r = is := by simp only [ordIs, h1]
      rw [h4] at h2
      exact draw_sound h2 h3 hs1 he1 hn hd hK fun a' w' h => Next2.after (asg1 := []) hst1 (fun _ _ => rfl) h (fun _ h => absurd h List.not_mem_nil) (fun _ h => h)
  | seq x y ihx ihy =>
    intro sc hl E R N F L ρ a w hs he hn hd hK
    simp only [low] at hl
    split at hl
    case h_2 => cases hl
    rename_i h1 h2
    injection hl with hl; subst hl
    simp only [evalC] at hK
    refine wp_seq (wp_mono (ihx h1 hs he hn hd hK) ?_)
    intro e a1 w1 hq
    cases e with
    | normal =>
      obtain ⟨F1, L1, ρ1, g1, g2, g3, g4, g5, g6, g7⟩ := hq
      refine wp_mono (ihy h2 g1 g2 g3 g4 g7) ?_
      intro e2 a2 w2 hq2
      cases e2 <;> first
        | exact Next2.after g5 g6 hq2 (fun j h => List.mem_append.2 (.inl h)) (fun j h => List.mem_append.2 (.inr h))
        | exact hq2
    | exit id => exact hq.mono fun j h => List.mem_append.2 (.inl h)
    | ret => exact hq.mono fun j h => List.mem_append.2 (.inl h)
    | goto l => exact hq
    | panic c => exact hq
    | outgrown => exact hq
  | cond c x y ihx ihy =>
    intro sc hl E R N F L ρ a w hs he hn hd hK
    simp only [low] at hl
    split at hl
    case h_2 => cases hl
    rename_i h0 h1 h2
    injection hl with hl; subst hl
    simp only [evalC] at hK
    split at hK
    case h_2 => exact hK.elim
    rename_i t ht
    have hc : a.eval c = .bool t := by rw [lowX_eval h0 he, val_v ht]
    refine wp_cond hc ?_
    cases t
    · simp only [brn] at hK
      refine wp_mono (ihy h2 hs he hn hd hK) ?_
      intro e a1 w1 hq
      cases e <;> first
        | exact hq.mono fun j h => List.mem_append.2 (.inr h)
        | exact hq
    · simp only [brn] at hK
      refine wp_mono (ihx h1 hs he hn hd hK) ?_
      intro e a1 w1 hq
      cases e <;> first
        | exact hq.mono fun j h => List.mem_append.2 (.inl h)
        | exact hq
  | block id x ih =>
    intro sc hl E R N F L ρ a w hs he hn hd hK
    simp only [low] at hl
    split at hl
    case h_2 => cases hl
    rename_i h1
    injection hl with hl; subst hl
    simp only [evalC] at hK
    refine wp_block (wp_mono (ih h1 hs he hn hd hK) ?_)
    intro e a1 w1 hq
    cases e with
    | exit j =>
      simp only [Exit.inBlock]
      simp only [QQ] at hq
      by_cases hj : j = id
      · subst hj
        have hb : Nat.beq j j = true := by simp
        rw [hb] at hq
        rw [if_pos rfl]
        exact hq
      · have hb : Nat.beq j id = false := by
          cases h : Nat.beq j id with
          | true => exact absurd (Nat.eq_of_beq_eq_true h) hj
          | false => rfl
        rw [hb] at hq
        rw [if_neg hj]
        exact hq
    | normal => exact hq
    | ret => exact hq
    | goto l => exact hq
    | panic c => exact hq
    | outgrown => exact hq
  | loop x ih =>
    intro sc hl E R N F L ρ a w hs he hn hd hK
    simp only [low] at hl
    split at hl
    case h_2 => cases hl
    rename_i sx h1
    injection hl with hl; subst hl
    simp only [evalC] at hK
    obtain ⟨σ, x0, Inv, ls, lv, Lf, μ, i0, i1, i2, i3, i4⟩ := hK
    -- the frame at a loop's head
    have head : ∀ (y : σ) (F1 : Frz) (L1 : Loc) (ρ1 : Env) (a1 : Act) (w1 : World), (∀ t, a1.tmps.getD t undef = conc L1 (ρ1 t)) → (∀ j, j ∉ asgOf x → a1.tmps.getD j undef = a.tmps.getD j undef) → holds ls ((lv y).map .v) ρ1 →
        EnvOk (Lf y) (puts ls ((lv y).map .v) (overJ (asgOf x) (fun j => a1.tmps.getD j undef) ρ)) a1 := by
      intro y F1 L1 ρ1 a1 w1 heq hfr hh
      have base : ∀ j k off, overJ (asgOf x) (fun j => a1.tmps.getD j undef) ρ j = .own k off → j ∉ asgOf x ∧ ρ j = .own k off := by
        intro j k off e
        simp only [overJ] at e
        split at e
        · cases e
        · rename_i hm
          exact ⟨fun h => (by rw [mem?_eq.2 h] at hm; cases hm), e⟩
      have bel : ∀ j ad i, overJ (asgOf x) (fun j => a1.tmps.getD j undef) ρ j = .el ad i → ρ j = .el ad i := by
        intro j ad i e
        simp only [overJ] at e
        split at e
        · cases e
        · exact e
      refine ⟨fun j => ?_, fun j k off e => ?_, fun j ad i e => ?_⟩
      · rcases holds_puts ls (lv y) ρ1 (overJ (asgOf x) (fun j => a1.tmps.getD j undef) ρ) heq hh j with ⟨v, h2, h3⟩ | h2
        · rw [h2, h3]; rfl
        · rw [h2]
          simp only [overJ]
          split
          · rfl
          · rename_i hm
            have hj : j ∉ asgOf x := fun h => by rw [mem?_eq.2 h] at hm; cases hm
            rw [hfr j hj, he.eq j]
            cases e : ρ j with
            | v u => rfl
            | el u i => rfl
            | own k off =>
              obtain ⟨g, ty, cs, hg⟩ := he.own j k off e
              obtain ⟨cs', hg'⟩ := keeps_get (i3 y) hg
              simp only [conc, hg, hg']
      · rcases puts_get_env ls (lv y) (overJ (asgOf x) (fun j => a1.tmps.getD j undef) ρ) j with h2 | ⟨v, h2⟩
        · rw [h2] at e
          obtain ⟨_, e'⟩ := base j k off e
          obtain ⟨g, ty, cs, hg⟩ := he.own j k off e'
          obtain ⟨cs', hg'⟩ := keeps_get (i3 y) hg
          exact ⟨g, ty, cs', hg'⟩
        · rw [h2] at e; cases e
      · rcases puts_get_env ls (lv y) (overJ (asgOf x) (fun j => a1.tmps.getD j undef) ρ) j with h2 | ⟨v, h2⟩
        · rw [h2] at e
          exact he.el j ad i (bel j ad i e)
        · rw [h2] at e; cases e
    refine wp_loop_n (fun n a1 w1 => ∃ (y : σ) (F1 : Frz), n = μ y ∧ F.le F1 ∧ Inv y F1 ∧ St F1 (Lf y) w1 ∧ a1.tmps.size = A.n ∧ a1.defers = [] ∧ Step F L w F1 (Lf y) w1 ∧ (∀ j, j ∉ asgOf x → a1.tmps.getD j undef = a.tmps.getD j undef) ∧
      EnvOk (Lf y) (puts ls ((lv y).map .v) (overJ (asgOf x) (fun j => a1.tmps.getD j undef) ρ)) a1) ?_ ?_
    · exact ⟨_, x0, F, rfl, Frz.le_refl F, i0, hs.gives i2, hn, hd, gives_step i2, fun _ _ => rfl, head x0 F L ρ a w he.eq (fun _ _ => rfl) i1⟩
    · rintro n a1 w1 ⟨y, F1, rfl, hle, hinv, hs1, hn1, hd1, hst1, hfr1, he1⟩
      refine wp_mono (ih h1 hs1 he1 hn1 hd1 (i4 y F1 _ hle hinv)) ?_
      intro e a2 w2 hq
      cases e with
      | normal =>
        obtain ⟨F2, L2, ρ2, g1, g2, g3, g4, g5, g6, ⟨y', k1, k2, k3, k4⟩⟩ := hq
        have hfr2 : ∀ j, j ∉ asgOf x → a2.tmps.getD j undef = a.tmps.getD j undef := fun j hj => by rw [g6 j hj, hfr1 j hj]
        exact ⟨μ y', k4, y', F2, rfl, Frz.le_trans hle g5.le, k1, g1.gives k3, g3, g4, (hst1.trans g5).trans (gives_step k3), hfr2, head y' F2 L2 ρ2 a2 w2 g2.eq hfr2 k2⟩
      | exit j => exact Next2.after hst1 hfr1 hq (fun j h => h) (fun j h => h)
      | ret => exact Next2.after hst1 hfr1 hq (fun j h => h) (fun j h => h)
      | goto l => exact hq
      | panic c => exact hq
      | outgrown => exact hq
  | rangeFunc f ps x y ihx ihy => intro sc hl; simp only [low] at hl; cases hl
  | scope x ih => intro sc hl; simp only [low] at hl; cases hl
  | goto l => intro sc hl; simp only [low] at hl; cases hl
  | refuse why => intro sc hl; simp only [low] at hl; cases hl

/- functions -/
def resOk (P : Program) : List ResultVar → Option (List RV)
  | [] => some []
  | .tmp t :: l => match resOk P l with | some r => some ((t, none) :: r) | none => none
  | .cell a t :: l => match P.underlying t, P.info? t, resOk P l with
    | some d, some i, some r => some ((a, some (match isAggD d with | true => (true, i.size) | false => (false, 1))) :: r)
    | _, _, _ => none

def resSem (tmps : Array Value) : ResultVar → Sem Value
  | .tmp t => pure (tmps.getD t undef)
  | .cell a t => do loadVar t (← asAddr (tmps.getD a undef))
theorem retV_run {F : Frz} {L : Loc} {ρ : Env} {a : Act} {w : World} (hs : St F L w) (he : EnvOk L ρ a) : ∀ {l : List ResultVar} {rs : List RV} {K : List Value → Prop}, resOk P l = some rs → retV L ρ rs K →
    ∃ vs, (l.mapM (resSem a.tmps)).run P w = .ok vs w ∧ K vs
  | [], rs, K, h, hK => by simp only [resOk, Option.some.injEq] at h; subst h; exact ⟨[], by simp, hK⟩
  | .tmp t :: l, rs, K, h, hK => by
    simp only [resOk] at h
    split at h
    case h_2 => cases h
    rename_i r hr
    injection h with h; subst h
    simp only [retV] at hK
    obtain ⟨vs, h1, h2⟩ := retV_run hs he hr hK
    refine ⟨_, ?_, h2⟩
    simp only [List.mapM_cons, resSem, Sem.run_bind, Sem.run_pure, Result.andThen_ok]
    rw [h1]
    simp [he.eq t]
  | .cell t ty :: l, rs, K, h, hK => by
    simp only [resOk] at h
    split at h
    case h_2 => cases h
    rename_i d i r hd hi hr
    injection h with h; subst h
    generalize hag : (match isAggD d with | true => (true, i.size) | false => (false, 1) : Bool × Nat) = p at hK
    obtain ⟨ag, n⟩ := p
    have hag1 : ag = isAggD d := by cases e : isAggD d <;> rw [e] at hag <;> injection hag with h1 h2 <;> exact h1.symm
    have hn : n = match isAggD d with | true => i.size | false => 1 := by cases e : isAggD d <;> rw [e] at hag <;> injection hag with h1 h2 <;> exact h2.symm
    simp only [retV] at hK
    split at hK
    case h_2 => exact hK.elim
    rename_i k off hev
    split at hK
    case h_2 => exact hK.elim
    rename_i g ty' cs hk
    split at hK
    case h_2 => exact hK.elim
    rename_i hl
    have hl := len?_eq hl
    obtain ⟨vs, h1, h2⟩ := retV_run hs he hr hK
    refine ⟨_, ?_, h2⟩
    have hbox := hs.own k _ hk
    have hcell : ∀ j v, ((cs.drop off).take n)[j]? = some v → w.cell? ((⟨g, off, none⟩ : Addr).add j) = some v := by
      intro j v hv
      rw [add_none, cell_of_box hbox]
      have hj : j < n := by
        have := List.getElem?_eq_some_iff.1 hv
        obtain ⟨h, _⟩ := this
        omega
      rw [List.getElem?_take_of_lt hj, List.getElem?_drop] at hv
      exact hv
    have hy : a.tmps.getD t undef = .pointer (some ⟨g, off, none⟩) := by rw [he.eq t]; simp only [hev, conc, hk]
    have hrun := run_loadAt hd hi hcell hl hn
    simp only [Instr.loadAt, Instr.sureAddr, Sem.run_bind, Sem.run_pure, Result.andThen_ok] at hrun
    simp only [List.mapM_cons, resSem, hy, asAddr, Sem.run_bind, Sem.run_pure, Result.andThen_ok, hrun]
    rw [h1, hag1]
    simp
theorem results_eq (fn : Func) (tmps : Array Value) : results fn tmps = (do let vs ← fn.results.mapM (resSem tmps); pure (if h : vs.size = 1 then vs[0] else .tuple vs)) := by
  unfold results
  have h : (fun (r : ResultVar) => match r with | .tmp t => (pure (tmps.getD t undef) : Sem Value) | .cell a t => do loadVar t (← asAddr (tmps.getD a undef))) = resSem tmps := by
    funext r
    cases r <;> rfl
  rw [← h]
  rfl

theorem argE_get : ∀ (svs : List SV) (k j : Nat), argE k svs j = if k ≤ j then (svs[j - k]?).getD (.v undef) else .v undef
  | [], k, j => by simp [argE]
  | v :: svs, k, j => by
    simp only [argE, put_eq]
    by_cases h : j = k
    · subst h; simp
    · rw [if_neg h, argE_get svs (k + 1) j]
      by_cases h1 : k ≤ j
      · rw [if_pos (by omega), if_pos h1, show j - k = (j - (k + 1)) + 1 by omega, List.getElem?_cons_succ]
      · rw [if_neg (by omega), if_neg h1]

/-- a function's contract, out of the evaluator's word on its code -/
theorem callsA_of {f : FuncId} {fn : Func} {c : Code} {sc : SCode} {A : Ann} {rs : List RV} {F : Frz} {Lin : List Own} {R : Frz → List Own → Value → Prop} (svs : List SV)
    (hf : P.funcs[f]? = some fn) (hb : fn.body = some c) (hname : (fn.name == "runtime.NumGoroutine") = false) (hl : low P A c = some sc) (hn : fn.ntmps = A.n) (hres : resOk P fn.results.toList = some rs) (hlen : svs.length ≤ A.n)
    (hown : ∀ v ∈ svs, (∀ k off, v = .own k off → ∃ g ty cs, (inp Lin).get k = some (.box g ty cs)) ∧ (∀ ad j, v = .el ad j → ad ≠ none))
    (hmono : ∀ F G L v, F.le G → R F L v → R G L v)
    (h : evalC P sc (fun _ _ _ _ => False) (fun F' L' ρ' => retV L' ρ' rs fun vs => RetPt F' L' (resVal vs) R) (fun F' L' ρ' => retV L' ρ' rs fun vs => RetPt F' L' (resVal vs) R) F (inp Lin) (argE 0 svs)) :
    CallsA P f (svs.map (conc (inp Lin))).toArray F Lin R := by
  refine ⟨⟨fn, hf, by rw [hb]; rfl, hname⟩, hmono, fun w hs => ?_⟩
  refine calls_of_wp hf hb ?_
  have he : EnvOk (inp Lin) (argE 0 svs) { tmps := (svs.map (conc (inp Lin))).toArray ++ Array.replicate (fn.ntmps - (svs.map (conc (inp Lin))).toArray.size) undef, defers := [] } := by
    have hin : ∀ t, argE 0 svs t = .v undef ∨ argE 0 svs t ∈ svs := by
      intro t
      rw [argE_get]
      simp only [Nat.zero_le, if_true, Nat.sub_zero]
      cases e : svs[t]? with
      | none => exact .inl rfl
      | some v => exact .inr (List.mem_of_getElem? e)
    refine ⟨fun t => ?_, fun t k off e => ?_, fun t ad j e => ?_⟩
    · rw [argE_get]
      simp only [Nat.zero_le, if_true, Nat.sub_zero, Array.getD_eq_getD_getElem?]
      cases e : svs[t]? with
      | some v =>
        have hlt : t < svs.length := (List.getElem?_eq_some_iff.1 e).1
        rw [Array.getElem?_append_left (by simpa using hlt)]
        simp [e]
      | none =>
        have hge : svs.length ≤ t := List.getElem?_eq_none_iff.1 e
        rw [Array.getElem?_append_right (by simpa using hge)]
        simp only [Array.getElem?_replicate, Option.getD_none, conc]
        split <;> rfl
    · rcases hin t with h1 | h1
      · rw [h1] at e; cases e
      · exact (hown _ h1).1 k off e
    · rcases hin t with h1 | h1
      · rw [h1] at e; cases e
      · exact (hown _ h1).2 ad j e
  refine wp_mono (evalC_sound c hl hs he (by simp [hn]; omega) rfl h) ?_
  intro e a' w' hq
  have fin : ∀ {a0 : Act}, Next2 A.n F (inp Lin) w a0 (asgOf c) (fun F' L' ρ' => retV L' ρ' rs fun vs => RetPt F' L' (resVal vs) R) a' w' → a'.defers = [] ∧ ∃ v, (results fn a'.tmps).run P w' = .ok v w' ∧
      ∃ v' F' Lo, Ending.returned v = .returned v' ∧ St F' (inp Lo) w' ∧ Step F (inp Lin) w F' (inp Lo) w' ∧ R F' Lo v' := by
    rintro a0 ⟨F', L', ρ', g1, g2, g3, g4, g5, g6, hret⟩
    obtain ⟨vs, hm, ⟨ko, Lo, k1, k2, k3⟩⟩ := retV_run g1 g2 hres hret
    refine ⟨g4, resVal vs, ?_, resVal vs, F', Lo, rfl, g1.handed k1 k2, ?_, k3⟩
    · rw [results_eq]
      rw [Array.mapM_eq_mapM_toList]
      simp only [Sem.run_bind, Sem.run_map]
      rw [hm]
      simp only [Result.andThen_ok, Sem.run_pure]
      congr 1
      match vs with
      | [] => rfl
      | [t] => rfl
      | t :: u :: r =>
        simp only [resVal]
        rw [dif_neg (by simp)]
    · obtain ⟨e1, e2⟩ := sub_get k1
      refine ⟨g5.le, g5.os, g5.tape, g5.output, g5.size, g5.same, g5.frz, fun b hb => g5.own b ?_⟩
      obtain ⟨j, p, e, hb⟩ := hb
      rw [inp_get] at e
      split at e
      case isFalse => cases e
      have hlt : j - 1000 < Lo.length := (List.getElem?_eq_some_iff.1 e).1
      have hk : ko[j - 1000]? = some (ko[j - 1000]'(by omega)) := List.getElem?_eq_getElem (by omega)
      exact ⟨_, p, by rw [e2 _ _ hk]; exact e, hb⟩
  cases e with
  | normal => exact fin hq
  | ret => exact fin hq
  | exit j => obtain ⟨F', L', ρ', _, _, _, _, _, _, h⟩ := hq; exact h.elim
  | goto l => exact hq.elim
  | panic c => exact hq.elim
  | outgrown => exact hq.elim

/-- all that is asked of a function's text -/
def factsOf (P : Program) (A : Ann) (fn : Func) : Option (SCode × Nat × List RV × Bool) :=
  match fn.body with
  | some c => match low P A c, resOk P fn.results.toList with
    | some sc, some rs => some (sc, fn.ntmps, rs, fn.name == "runtime.NumGoroutine")
    | _, _ => none
  | none => none

theorem callsA_facts {f : FuncId} {fn : Func} {sc : SCode} {A : Ann} {rs : List RV} {F : Frz} {Lin : List Own} {R : Frz → List Own → Value → Prop} {args : Array Value} (svs : List SV)
    (hf : P.funcs[f]? = some fn) (hfacts : factsOf P A fn = some (sc, A.n, rs, false)) (hlen : Nat.ble svs.length A.n = true) (hargs : args = (svs.map (conc (inp Lin))).toArray)
    (hown : ∀ v ∈ svs, (∀ k off, v = .own k off → ∃ g ty cs, (inp Lin).get k = some (.box g ty cs)) ∧ (∀ ad j, v = .el ad j → ad ≠ none))
    (hmono : ∀ F G L v, F.le G → R F L v → R G L v)
    (h : evalC P sc (fun _ _ _ _ => False) (fun F' L' ρ' => retV L' ρ' rs fun vs => RetPt F' L' (resVal vs) R) (fun F' L' ρ' => retV L' ρ' rs fun vs => RetPt F' L' (resVal vs) R) F (inp Lin) (argE 0 svs)) :
    CallsA P f args F Lin R := by
  subst hargs
  unfold factsOf at hfacts
  split at hfacts
  case h_2 => cases hfacts
  rename_i c hb
  split at hfacts
  case h_2 => cases hfacts
  rename_i sc' rs' h1 h2
  injection hfacts with hfacts
  injection hfacts with e1 e2
  injection e2 with e2 e3
  injection e3 with e3 e4
  subst e1 e3
  exact callsA_of svs hf hb e4 h1 e2 h2 (Nat.le_of_ble_eq_true hlen) hown hmono h
/-- arguments that are values alone -/
theorem vals_own {Lin : List Own} : ∀ (vs : List Value), ∀ v ∈ vs.map SV.v, (∀ k off, v = .own k off → ∃ g ty cs, (inp Lin).get k = some (.box g ty cs)) ∧ (∀ ad j, v = .el ad j → ad ≠ none) := by
  intro vs v hv
  obtain ⟨u, _, rfl⟩ := List.mem_map.1 hv
  exact ⟨fun _ _ e => (by cases e), fun _ _ e => (by cases e)⟩
theorem vals_conc {L : Loc} (vs : List Value) : vs.toArray = ((vs.map SV.v).map (conc L)).toArray := by
  congr 1
  induction vs with
  | nil => rfl
  | cons v vs ih => simp [conc, ← ih]
end
end Go.Fr
