/- Part of the proofs of the statements of this seat. -/
import Derived.Test.YtgapnemcomkomaaFW1
import Derived.Test.YtgapnemcomkomaaFW2
import Derived.Test.YtgapnemcomkomaaDgCode
/- The evaluator over frozen and own blocks speaks of the model's code, where nothing panics. -/
set_option linter.unusedVariables false
set_option linter.unusedSimpArgs false
namespace Go.Fr
open Go Go.RowKit
section
variable {P : Program} {Q : Exit → Act → World → Prop} {K : Kont}
theorem noPan {n : Nat} {F : Frz} {L : Loc} {w : World} {a : Act} {asg : List Nat} {E : Nat → Kont} {R N : Kont} {c} {a' : Act} {w' : World} (h : QQ n F L w a asg (fun _ _ => False) E R N (.panic c) a' w') : False := by
  obtain ⟨v, _, F', L', _, _, _, _, _, h⟩ := h
  exact h
/-- the operations of a region, one after the other -/
theorem evalOps_sound {A : Ann} {r : Nat} {ops : Array Oper} : ∀ (is : List Nat) {ss : List SStep} {F : Frz} {L : Loc} {ρ : Env} {a : Act} {w : World}, lowReg P A r ops is = some ss → St F L w → EnvOk L ρ a → a.tmps.size = A.n →
    evalOps P ss F L ρ K → (∀ a' w', Next2 A.n F L w a (dstsOf ops is) K a' w' → Q .normal a' w') → wpOps P ops Q is a w := by
  intro is
  induction is with
  | nil =>
    intro ss F L ρ a w hl hs he hn hK hQ
    simp only [lowReg, Option.some.injEq] at hl
    subst hl
    exact hQ a w ⟨F, L, ρ, hs, he, hn, rfl, Step.refl _ _ _, fun _ _ => rfl, hK⟩
  | cons i is ih =>
    intro ss F L ρ a w hl hs he hn hK hQ
    simp only [lowReg] at hl
    split at hl
    case h_1 => cases hl
    rename_i o hi
    split at hl
    case h_2 => cases hl
    rename_i g s rest hg hop hdst hrest
    injection hl with hl
    subst hl
    -- the ghosts
    have ghosts : ∀ (ks : List Nat) {F : Frz} {L : Loc} {ρ : Env}, St F L w → EnvOk L ρ a → evalOps P (ks.map SStep.frz ++ mkStep (panAt A.pan r i) o.dst s g :: rest) F L ρ K →
        ∃ F' L' ρ', St F' L' w ∧ EnvOk L' ρ' a ∧ Step F L w F' L' w ∧ evalOps P (mkStep (panAt A.pan r i) o.dst s g :: rest) F' L' ρ' K := by
      intro ks
      induction ks with
      | nil => intro F L ρ hs he h; exact ⟨F, L, ρ, hs, he, Step.refl _ _ _, h⟩
      | cons k ks ihk =>
        intro F L ρ hs he h
        simp only [List.map_cons, List.cons_append, evalOps] at h
        split at h
        · rename_i g' t' cs' hk
          obtain ⟨F1, hle, hg1, hs1, he1, hst1⟩ := frzB_sound hs he hk
          obtain ⟨F2, L2, ρ2, hs2, he2, hst2, h2⟩ := ihk hs1 he1 (h F1 hle hg1)
          exact ⟨F2, L2, ρ2, hs2, he2, hst1.trans hst2, h2⟩
        · obtain ⟨F1, L1, hs1, he1, hst1, h1⟩ := frz_sound hs he h
          obtain ⟨F2, L2, ρ2, hs2, he2, hst2, h2⟩ := ihk hs1 he1 h1
          exact ⟨F2, L2, ρ2, hs2, he2, hst1.trans hst2, h2⟩
    obtain ⟨F1, L1, ρ1, hs1, he1, hst1, hK⟩ := ghosts _ hs he hK
    clear ghosts
    have hpc : panAt A.pan r i = false := by
      cases hb : panAt A.pan r i with
      | false => rfl
      | true => rw [hb] at hK; simp only [mkStep, evalOps] at hK
    rw [hpc] at hK
    simp only [mkStep] at hK
    clear he
    have he := he1
    have hd : ∀ k, o.dst = some k → k < a.tmps.size := by
      intro k hk
      rw [hk] at hdst
      rw [hn]
      have h2 : Nat.blt k A.n = true := hdst
      simpa using h2
    have hdsts : dstsOf ops (i :: is) = match o.dst with | some d => d :: dstsOf ops is | none => dstsOf ops is := by
      simp only [dstsOf, hi, Option.bind_some]
      cases o.dst <;> rfl
    have notin : ∀ j, j ∉ dstsOf ops (i :: is) → o.dst ≠ some j ∧ j ∉ dstsOf ops is := by
      intro j hj
      rw [hdsts] at hj
      cases ho : o.dst with
      | none => rw [ho] at hj; exact ⟨by simp, hj⟩
      | some d =>
        rw [ho] at hj
        simp only [List.mem_cons, not_or] at hj
        exact ⟨by simp; exact fun e => hj.1 e.symm, hj.2⟩
    have goOn : evalOp P s o.dst F1 L1 ρ1 (fun F' L' ρ' => evalOps P rest F' L' ρ' K) → o.wp P a w (wpOps P ops Q is) Q := by
      intro hK
      have := evalOp_sound (Q := Q) hs1 he1 hd hop hK
      refine Oper.wp_mono ?_ (wp_frame (asg := []) this)
      rintro a' w' ⟨⟨F', L', ρ', g1, g2, g3, g4, g5, g6⟩, hfr⟩
      refine ih hrest g1 g2 (by rw [g3, hn]) g6 ?_
      rintro a'' w'' ⟨F'', L'', ρ'', k1, k2, k3, k4, k5, k6, k7⟩
      refine hQ a'' w'' ⟨F'', L'', ρ'', k1, k2, k3, k4.trans g4, (hst1.trans g5).trans k5, fun j hj => ?_, k7⟩
      obtain ⟨n1, n2⟩ := notin j hj
      rw [k6 j n2, hfr j n1]
    have skip : evalOps P rest F1 L1 (put o.dst (.v undef) ρ1) K → wpOps P ops Q is (a.put o.dst undef) w := by
      intro hK
      refine ih hrest hs1 (he1.put hd (v := undef) (x := .v undef) rfl noOwn noEl (boxKeep L1)) (by rw [size_put, hn]) hK ?_
      rintro a'' w'' ⟨F'', L'', ρ'', k1, k2, k3, k4, k5, k6, k7⟩
      refine hQ a'' w'' ⟨F'', L'', ρ'', k1, k2, k3, k4.trans (defers_put _ _ _), hst1.trans k5, fun j hj => ?_, k7⟩
      obtain ⟨n1, n2⟩ := notin j hj
      rw [k6 j n2, put_frame n1]
    simp only [wpOps, hi]
    cases hgd : o.guard with
    | none =>
      rw [hgd] at hg
      simp only [lowGuard, Option.some.injEq] at hg
      subst hg
      simp only [evalOps] at hK
      rw [if_pos (by simp [Region.wanted, hgd])]
      exact .inl (goOn hK)
    | some p =>
      obtain ⟨j, want⟩ := p
      rw [hgd] at hg
      simp only [lowGuard] at hg
      split at hg
      case h_2 => cases hg
      rename_i d hjd
      injection hg with hg
      subst hg
      simp only [evalOps] at hK
      split at hK
      · rename_i b hb
        have htmp := he1.eq d
        rw [hb] at htmp
        have hy : yielded ops a.tmps j = some b := by
          simp only [yielded, hjd, Option.bind_some, getD_bool htmp]
        have hw : Region.wanted o (yielded ops a.tmps) = (b == want) := by
          simp only [Region.wanted, hgd, hy]
          cases b <;> cases want <;> rfl
        rw [hw]
        cases b <;> simp only [brn] at hK
        · rw [put_same hb] at hK
          cases want
          · exact .inl (goOn hK)
          · exact skip hK
        · rw [put_same hb] at hK
          cases want
          · exact skip hK
          · exact .inl (goOn hK)
      · rename_i vs hb
        have htmp := he1.eq d
        rw [hb] at htmp
        have hy : yielded ops a.tmps j = none := by
          simp only [yielded, hjd, Option.bind_some]
          rw [Array.getD_eq_getD_getElem?] at htmp
          cases e : a.tmps[d]? with
          | none => rfl
          | some v => rw [e] at htmp; simp only [Option.getD_some, conc] at htmp; rw [htmp]
        have hw : Region.wanted o (yielded ops a.tmps) = false := by
          simp only [Region.wanted, hgd, hy]; rfl
        rw [hw]
        exact skip hK
      · exact hK.elim

theorem ghosts_sound {a : Act} {w : World} {rest : List SStep} {K : Kont} : ∀ (ks : List Nat) {F : Frz} {L : Loc} {ρ : Env}, St F L w → EnvOk L ρ a → evalOps P (ks.map SStep.frz ++ rest) F L ρ K →
    ∃ F' L' ρ', St F' L' w ∧ EnvOk L' ρ' a ∧ Step F L w F' L' w ∧ evalOps P rest F' L' ρ' K := by
  intro ks
  induction ks with
  | nil => intro F L ρ hs he h; exact ⟨F, L, ρ, hs, he, Step.refl _ _ _, h⟩
  | cons k ks ihk =>
    intro F L ρ hs he h
    simp only [List.map_cons, List.cons_append, evalOps] at h
    split at h
    · rename_i g' t' cs' hk
      obtain ⟨F1, hle, hg1, hs1, he1, hst1⟩ := frzB_sound hs he hk
      obtain ⟨F2, L2, ρ2, hs2, he2, hst2, h2⟩ := ihk hs1 he1 (h F1 hle hg1)
      exact ⟨F2, L2, ρ2, hs2, he2, hst1.trans hst2, h2⟩
    · obtain ⟨F1, L1, hs1, he1, hst1, h1⟩ := frz_sound hs he h
      obtain ⟨F2, L2, ρ2, hs2, he2, hst2, h2⟩ := ihk hs1 he1 h1
      exact ⟨F2, L2, ρ2, hs2, he2, hst1.trans hst2, h2⟩
theorem frzD_sound {ss : List SStep} {E : Nat → Kont} {R N : Kont} {F : Frz} {L : Loc} {ρ : Env} {a : Act} {w : World} : ∀ (ks : List Nat), St F L w → EnvOk L ρ a → evalC P (frzD ks (.regD ss)) E R N F L ρ →
    ∃ F' L' ρ', St F' L' w ∧ EnvOk L' ρ' a ∧ Step F L w F' L' w ∧ evalOps P ss F' L' ρ' N
  | [], hs, he, h => ⟨F, L, ρ, hs, he, Step.refl _ _ _, by simpa only [frzD, evalC] using h⟩
  | k :: l, hs, he, h => by
    simp only [frzD, evalC] at h
    have h' : evalOps P ((k :: l).map SStep.frz ++ []) F L ρ (fun F L ρ => evalOps P ss F L ρ N) := by simpa only [List.map_cons, List.append_nil] using h
    obtain ⟨F1, L1, ρ1, h1, h2, h3, h4⟩ := ghosts_sound (k :: l) hs he h'
    simp only [evalOps] at h4
    exact ⟨F1, L1, ρ1, h1, h2, h3, h4⟩

theorem evalC_sound {A : Ann} : ∀ (c : Code) {sc : SCode}, low P A c = some sc → ∀ {E : Nat → Kont} {R N : Kont} {F : Frz} {L : Loc} {ρ : Env} {a : Act} {w : World}, St F L w → EnvOk L ρ a → a.tmps.size = A.n →
    evalC P sc E R N F L ρ → c.wp P (QQ A.n F L w a (asgOf c) (fun _ _ => False) E R N) a w := by
  intro c
  induction c with
  | skip =>
    intro sc hl E R N F L ρ a w hs he hn hK
    simp only [low, Option.some.injEq] at hl; subst hl
    exact wp_skip ⟨F, L, ρ, hs, he, hn, rfl, Step.refl _ _ _, fun _ _ => rfl, hK⟩
  | label l =>
    intro sc hl E R N F L ρ a w hs he hn hK
    simp only [low, Option.some.injEq] at hl; subst hl
    exact wp_label ⟨F, L, ρ, hs, he, hn, rfl, Step.refl _ _ _, fun _ _ => rfl, hK⟩
  | exit id =>
    intro sc hl E R N F L ρ a w hs he hn hK
    simp only [low, Option.some.injEq] at hl; subst hl
    exact wp_exit ⟨F, L, ρ, hs, he, hn, rfl, Step.refl _ _ _, fun _ _ => rfl, hK⟩
  | ret =>
    intro sc hl E R N F L ρ a w hs he hn hK
    simp only [low, Option.some.injEq] at hl; subst hl
    exact wp_ret ⟨F, L, ρ, hs, he, hn, rfl, Step.refl _ _ _, fun _ _ => rfl, hK⟩
  | region r ops draw =>
    intro sc hl E R N F L ρ a w hs he hn hK
    cases draw with
    | false =>
      simp only [low] at hl
      split at hl
      case h_2 => cases hl
      rename_i ss hss
      injection hl with hl; subst hl
      simp only [evalC] at hK
      exact wp_region (evalOps_sound _ hss hs he hn hK fun a' w' h => h)
    | true =>
      simp only [low] at hl
      split at hl
      case h_2 => cases hl
      rename_i is cl ss h1 h2
      split at hl
      case h_2 => cases hl
      rename_i h3
      injection hl with hl; subst hl
      obtain ⟨F1, L1, ρ1, hs1, he1, hst1, hK⟩ := frzD_sound _ hs he hK
      have h4 : ordIs A.ord r = is := by simp only [ordIs, h1]
      rw [h4] at h2
      exact draw_sound h2 h3 hs1 he1 hn hK fun a' w' h => Next2.after (asg1 := []) hst1 rfl (fun _ _ => rfl) h (fun _ h => absurd h List.not_mem_nil) (fun _ h => h)
  | seq x y ihx ihy =>
    intro sc hl E R N F L ρ a w hs he hn hK
    simp only [low] at hl
    split at hl
    case h_2 => cases hl
    rename_i h1 h2
    injection hl with hl; subst hl
    simp only [evalC] at hK
    refine wp_seq (wp_mono (ihx h1 hs he hn hK) ?_)
    intro e a1 w1 hq
    cases e with
    | normal =>
      obtain ⟨F1, L1, ρ1, g1, g2, g3, g4, g5, g6, g7⟩ := hq
      refine wp_mono (ihy h2 g1 g2 g3 g7) ?_
      intro e2 a2 w2 hq2
      cases e2 <;> first
        | exact Next2.after g5 g4 g6 hq2 (fun j h => List.mem_append.2 (.inl h)) (fun j h => List.mem_append.2 (.inr h))
        | exact hq2
        | exact (noPan hq2).elim
    | exit id => exact hq.mono fun j h => List.mem_append.2 (.inl h)
    | ret => exact hq.mono fun j h => List.mem_append.2 (.inl h)
    | goto l => exact hq
    | panic c => exact (noPan hq).elim
    | outgrown => exact hq
  | cond c x y ihx ihy =>
    intro sc hl E R N F L ρ a w hs he hn hK
    simp only [low] at hl
    split at hl
    case h_2 => cases hl
    rename_i h0 h1 h2
    injection hl with hl; subst hl
    simp only [evalC] at hK
    split at hK
    case h_2 => exact hK.elim
    rename_i t ht
    have hc : a.eval c = .bool t := by rw [lowX_eval h0 he, val_v ht]
    refine wp_cond hc ?_
    cases t
    · simp only [brn] at hK
      refine wp_mono (ihy h2 hs he hn hK) ?_
      intro e a1 w1 hq
      cases e <;> first
        | exact hq.mono fun j h => List.mem_append.2 (.inr h)
        | exact (noPan hq).elim
        | exact hq
    · simp only [brn] at hK
      refine wp_mono (ihx h1 hs he hn hK) ?_
      intro e a1 w1 hq
      cases e <;> first
        | exact hq.mono fun j h => List.mem_append.2 (.inl h)
        | exact (noPan hq).elim
        | exact hq
  | block id x ih =>
    intro sc hl E R N F L ρ a w hs he hn hK
    simp only [low] at hl
    split at hl
    case h_2 => cases hl
    rename_i h1
    injection hl with hl; subst hl
    simp only [evalC] at hK
    refine wp_block (wp_mono (ih h1 hs he hn hK) ?_)
    intro e a1 w1 hq
    cases e with
    | exit j =>
      simp only [Exit.inBlock]
      simp only [QQ] at hq
      by_cases hj : j = id
      · subst hj
        have hb : Nat.beq j j = true := by simp
        rw [hb] at hq
        rw [if_pos rfl]
        exact hq
      · have hb : Nat.beq j id = false := by
          cases h : Nat.beq j id with
          | true => exact absurd (Nat.eq_of_beq_eq_true h) hj
          | false => rfl
        rw [hb] at hq
        rw [if_neg hj]
        exact hq
    | normal => exact hq
    | ret => exact hq
    | goto l => exact hq
    | panic c => exact (noPan hq).elim
    | outgrown => exact hq
  | loop x ih =>
    intro sc hl E R N F L ρ a w hs he hn hK
    simp only [low] at hl
    split at hl
    case h_2 => cases hl
    rename_i sx h1
    injection hl with hl; subst hl
    simp only [evalC] at hK
    obtain ⟨σ, x0, Inv, ls, lv, Lf, μ, i0, i1, i2, i3, i4⟩ := hK
    -- the frame at a loop's head
    have head : ∀ (y : σ) (F1 : Frz) (L1 : Loc) (ρ1 : Env) (a1 : Act) (w1 : World), (∀ t, a1.tmps.getD t undef = conc L1 (ρ1 t)) → (∀ j, j ∉ asgOf x → a1.tmps.getD j undef = a.tmps.getD j undef) → holds ls ((lv y).map .v) ρ1 →
        EnvOk (Lf y) (puts ls ((lv y).map .v) (overJ (asgOf x) (fun j => a1.tmps.getD j undef) ρ)) a1 := by
      intro y F1 L1 ρ1 a1 w1 heq hfr hh
      have base : ∀ j k off, overJ (asgOf x) (fun j => a1.tmps.getD j undef) ρ j = .own k off → j ∉ asgOf x ∧ ρ j = .own k off := by
        intro j k off e
        simp only [overJ] at e
        split at e
        · cases e
        · rename_i hm
          exact ⟨fun h => (by rw [mem?_eq.2 h] at hm; cases hm), e⟩
      have bel : ∀ j ad i, overJ (asgOf x) (fun j => a1.tmps.getD j undef) ρ j = .el ad i → ρ j = .el ad i := by
        intro j ad i e
        simp only [overJ] at e
        split at e
        · cases e
        · exact e
      refine ⟨fun j => ?_, fun j k off e => ?_, fun j ad i e => ?_⟩
      · rcases holds_puts ls (lv y) ρ1 (overJ (asgOf x) (fun j => a1.tmps.getD j undef) ρ) heq hh j with ⟨v, h2, h3⟩ | h2
        · rw [h2, h3]; rfl
        · rw [h2]
          simp only [overJ]
          split
          · rfl
          · rename_i hm
            have hj : j ∉ asgOf x := fun h => by rw [mem?_eq.2 h] at hm; cases hm
            rw [hfr j hj, he.eq j]
            cases e : ρ j with
            | v u => rfl
            | el u i => rfl
            | own k off =>
              obtain ⟨g, ty, cs, hg⟩ := he.own j k off e
              obtain ⟨cs', hg'⟩ := keeps_get (i3 y) hg
              simp only [conc, hg, hg']
      · rcases puts_get_env ls (lv y) (overJ (asgOf x) (fun j => a1.tmps.getD j undef) ρ) j with h2 | ⟨v, h2⟩
        · rw [h2] at e
          obtain ⟨_, e'⟩ := base j k off e
          obtain ⟨g, ty, cs, hg⟩ := he.own j k off e'
          obtain ⟨cs', hg'⟩ := keeps_get (i3 y) hg
          exact ⟨g, ty, cs', hg'⟩
        · rw [h2] at e; cases e
      · rcases puts_get_env ls (lv y) (overJ (asgOf x) (fun j => a1.tmps.getD j undef) ρ) j with h2 | ⟨v, h2⟩
        · rw [h2] at e
          exact he.el j ad i (bel j ad i e)
        · rw [h2] at e; cases e
    refine wp_loop_n (fun n a1 w1 => ∃ (y : σ) (F1 : Frz), n = μ y ∧ F.le F1 ∧ Inv y F1 ∧ St F1 (Lf y) w1 ∧ a1.tmps.size = A.n ∧ a1.defers = a.defers ∧ Step F L w F1 (Lf y) w1 ∧ (∀ j, j ∉ asgOf x → a1.tmps.getD j undef = a.tmps.getD j undef) ∧
      EnvOk (Lf y) (puts ls ((lv y).map .v) (overJ (asgOf x) (fun j => a1.tmps.getD j undef) ρ)) a1) ?_ ?_
    · exact ⟨_, x0, F, rfl, Frz.le_refl F, i0, hs.gives i2, hn, rfl, gives_step i2, fun _ _ => rfl, head x0 F L ρ a w he.eq (fun _ _ => rfl) i1⟩
    · rintro n a1 w1 ⟨y, F1, rfl, hle, hinv, hs1, hn1, hd1, hst1, hfr1, he1⟩
      refine wp_mono (ih h1 hs1 he1 hn1 (i4 y F1 _ hle hinv)) ?_
      intro e a2 w2 hq
      cases e with
      | normal =>
        obtain ⟨F2, L2, ρ2, g1, g2, g3, g4, g5, g6, ⟨y', k1, k2, k3, k4⟩⟩ := hq
        have hfr2 : ∀ j, j ∉ asgOf x → a2.tmps.getD j undef = a.tmps.getD j undef := fun j hj => by rw [g6 j hj, hfr1 j hj]
        exact ⟨μ y', k4, y', F2, rfl, Frz.le_trans hle g5.le, k1, g1.gives k3, g3, g4.trans hd1, (hst1.trans g5).trans (gives_step k3), hfr2, head y' F2 L2 ρ2 a2 w2 g2.eq hfr2 k2⟩
      | exit j => exact Next2.after hst1 hd1 hfr1 hq (fun j h => h) (fun j h => h)
      | ret => exact Next2.after hst1 hd1 hfr1 hq (fun j h => h) (fun j h => h)
      | goto l => exact hq
      | panic c => exact (noPan hq).elim
      | outgrown => exact hq
  | rangeFunc f ps x y ihx ihy => intro sc hl; simp only [low] at hl; cases hl
  | scope x ih => intro sc hl; simp only [low] at hl; cases hl
  | goto l => intro sc hl; simp only [low] at hl; cases hl
  | refuse why => intro sc hl; simp only [low] at hl; cases hl

/-- a function's contract, out of the evaluator's word on its code -/
theorem callsA_of {f : FuncId} {fn : Func} {c : Code} {sc : SCode} {A : Ann} {rs : List RV} {F : Frz} {Lin : List Own} {R : Frz → List Own → Value → Prop} (svs : List SV)
    (hf : P.funcs[f]? = some fn) (hb : fn.body = some c) (hname : (fn.name == "runtime.NumGoroutine") = false) (hl : low P A c = some sc) (hn : fn.ntmps = A.n) (hres : resOk P fn.results.toList = some rs) (hlen : svs.length ≤ A.n)
    (hown : ∀ v ∈ svs, (∀ k off, v = .own k off → ∃ g ty cs, (inp Lin).get k = some (.box g ty cs)) ∧ (∀ ad j, v = .el ad j → ad ≠ none))
    (hmono : ∀ F G L v, F.le G → R F L v → R G L v)
    (h : evalC P sc (fun _ _ _ _ => False) (fun F' L' ρ' => retV L' ρ' rs fun vs => RetPt F' L' (resVal vs) R) (fun F' L' ρ' => retV L' ρ' rs fun vs => RetPt F' L' (resVal vs) R) F (inp Lin) (argE 0 svs)) :
    CallsA P f (svs.map (conc (inp Lin))).toArray F Lin R := by
  refine ⟨⟨fn, hf, by rw [hb]; rfl, hname⟩, hmono, fun w hs => ?_⟩
  refine calls_of_wp hf hb ?_
  have he : EnvOk (inp Lin) (argE 0 svs) { tmps := (svs.map (conc (inp Lin))).toArray ++ Array.replicate (fn.ntmps - (svs.map (conc (inp Lin))).toArray.size) undef, defers := [] } := by
    have hin : ∀ t, argE 0 svs t = .v undef ∨ argE 0 svs t ∈ svs := by
      intro t
      rw [argE_get]
      simp only [Nat.zero_le, if_true, Nat.sub_zero]
      cases e : svs[t]? with
      | none => exact .inl rfl
      | some v => exact .inr (List.mem_of_getElem? e)
    refine ⟨fun t => ?_, fun t k off e => ?_, fun t ad j e => ?_⟩
    · rw [argE_get]
      simp only [Nat.zero_le, if_true, Nat.sub_zero, Array.getD_eq_getD_getElem?]
      cases e : svs[t]? with
      | some v =>
        have hlt : t < svs.length := (List.getElem?_eq_some_iff.1 e).1
        rw [Array.getElem?_append_left (by simpa using hlt)]
        simp [e]
      | none =>
        have hge : svs.length ≤ t := List.getElem?_eq_none_iff.1 e
        rw [Array.getElem?_append_right (by simpa using hge)]
        simp only [Array.getElem?_replicate, Option.getD_none, conc]
        split <;> rfl
    · rcases hin t with h1 | h1
      · rw [h1] at e; cases e
      · exact (hown _ h1).1 k off e
    · rcases hin t with h1 | h1
      · rw [h1] at e; cases e
      · exact (hown _ h1).2 ad j e
  refine wp_mono (evalC_sound c hl hs he (by simp [hn]; omega) h) ?_
  intro e a' w' hq
  have fin : ∀ {a0 : Act}, Next2 A.n F (inp Lin) w a0 (asgOf c) (fun F' L' ρ' => retV L' ρ' rs fun vs => RetPt F' L' (resVal vs) R) a' w' → a'.defers = a0.defers ∧ ∃ v, (results fn a'.tmps).run P w' = .ok v w' ∧
      ∃ v' F' Lo, Ending.returned v = .returned v' ∧ St F' (inp Lo) w' ∧ Step F (inp Lin) w F' (inp Lo) w' ∧ R F' Lo v' := by
    rintro a0 ⟨F', L', ρ', g1, g2, g3, g4, g5, g6, hret⟩
    obtain ⟨vs, hm, ⟨ko, Lo, k1, k2, k3⟩⟩ := retV_run g1 g2 hres hret
    refine ⟨g4, resVal vs, ?_, resVal vs, F', Lo, rfl, g1.handed k1 k2, ?_, k3⟩
    · rw [results_eq]
      rw [Array.mapM_eq_mapM_toList]
      simp only [Sem.run_bind, Sem.run_map]
      rw [hm]
      simp only [Result.andThen_ok, Sem.run_pure]
      congr 1
      match vs with
      | [] => rfl
      | [t] => rfl
      | t :: u :: r =>
        simp only [resVal]
        rw [dif_neg (by simp)]
    · obtain ⟨e1, e2⟩ := sub_get k1
      refine ⟨g5.le, g5.os, g5.tape, g5.output, g5.size, g5.same, g5.frz, fun b hb => g5.own b ?_⟩
      obtain ⟨j, p, e, hb⟩ := hb
      rw [inp_get] at e
      split at e
      case isFalse => cases e
      have hlt : j - 1000 < Lo.length := (List.getElem?_eq_some_iff.1 e).1
      have hk : ko[j - 1000]? = some (ko[j - 1000]'(by omega)) := List.getElem?_eq_getElem (by omega)
      exact ⟨_, p, by rw [e2 _ _ hk]; exact e, hb⟩
  cases e with
  | normal => exact fin hq
  | ret => exact fin hq
  | exit j => obtain ⟨F', L', ρ', _, _, _, _, _, _, h⟩ := hq; exact h.elim
  | goto l => exact hq.elim
  | panic c => exact (noPan hq).elim
  | outgrown => exact hq.elim

theorem callsA_facts {f : FuncId} {fn : Func} {sc : SCode} {A : Ann} {rs : List RV} {F : Frz} {Lin : List Own} {R : Frz → List Own → Value → Prop} {args : Array Value} (svs : List SV)
    (hf : P.funcs[f]? = some fn) (hfacts : factsOf P A fn = some (sc, A.n, rs, false)) (hlen : Nat.ble svs.length A.n = true) (hargs : args = (svs.map (conc (inp Lin))).toArray)
    (hown : ∀ v ∈ svs, (∀ k off, v = .own k off → ∃ g ty cs, (inp Lin).get k = some (.box g ty cs)) ∧ (∀ ad j, v = .el ad j → ad ≠ none))
    (hmono : ∀ F G L v, F.le G → R F L v → R G L v)
    (h : evalC P sc (fun _ _ _ _ => False) (fun F' L' ρ' => retV L' ρ' rs fun vs => RetPt F' L' (resVal vs) R) (fun F' L' ρ' => retV L' ρ' rs fun vs => RetPt F' L' (resVal vs) R) F (inp Lin) (argE 0 svs)) :
    CallsA P f args F Lin R := by
  subst hargs
  unfold factsOf at hfacts
  split at hfacts
  case h_2 => cases hfacts
  rename_i c hb
  split at hfacts
  case h_2 => cases hfacts
  rename_i sc' rs' h1 h2
  injection hfacts with hfacts
  injection hfacts with e1 e2
  injection e2 with e2 e3
  injection e3 with e3 e4
  subst e1 e3
  exact callsA_of svs hf hb e4 h1 e2 h2 (Nat.le_of_ble_eq_true hlen) hown hmono h
end
end Go.Fr

/- Digest: folds. -/
set_option linter.unusedVariables false
set_option linter.unusedSimpArgs false
namespace Go.Fr.Try
open Go Go.RowKit Go.Proofs Go.Fr Go.Fr.T

noncomputable abbrev P : Program := Try.prog

def stepN (h x : Int) : Int := (h * 1000003 + x + 1).tmod 2147483647
def foldN (l : List Int) : Int := l.foldl stepN 7
theorem stepN_bd {h x : Int} (h0 : 0 ≤ h) (hx : 0 ≤ x) : 0 ≤ stepN h x ∧ stepN h x < 2147483647 := by
  have : 0 ≤ h * 1000003 + x + 1 := by omega
  rw [stepN, Int.tmod_eq_emod_of_nonneg this]
  exact ⟨Int.emod_nonneg _ (by omega), Int.emod_lt_of_pos _ (by omega)⟩

theorem t40 (b : UInt8) : CallsT P 40 [bcell b] [] (Ret [] (.int .i64 b.toNat)) := by
  refine callsT_facts Try.func40 facts40 rfl fun hw _ => ?_
  refine Fit.in64 (by omega) (by have := b.toNat_lt; omega) ?_
  exact retP rfl rfl

def bytesN (bs : List UInt8) : List Int := bs.map fun b => (b.toNat : Int)
theorem t39 (bs : List UInt8) : CallsT P 39 [.sl (bcells bs), .fn 40 [] []] [] (Ret [] (.int .i64 (foldN (bytesN bs)))) := by
  refine callsT_facts Try.func39 facts39 rfl fun hw _ => ?_
  have hn := wf_lenB hw.1
  refine loopN bs.length 10 [5] 7 (fun h => [.int .i64 h]) (fun _ => []) (fun k h => 0 ≤ h ∧ h < 2147483647 ∧ (bytesN (bs.drop k)).foldl stepN h = foldN (bytesN bs)) ⟨by omega, by omega, rfl⟩
    (same_keys rfl) ⟨same_keys rfl, trivial⟩ trivial (fun _ => rfl) (fun _ => rfl) ?_
  rintro k h hk ⟨h0, h1, hf⟩ hw1 _ hk64
  refine brn_p (fun hlt => ?_) (fun hge => ?_)
  · have hlt : k < bs.length := by simpa [bcells] using hlt
    obtain ⟨b, hb, hd⟩ := drop_cons hlt
    rw [hd] at hf
    obtain ⟨g1, g2⟩ := stepN_bd (x := b.toNat) h0 (by omega)
    have hbl := b.toNat_lt
    refine idxB hb ?_
    refine Fit.in64 (by omega) (by omega) ?_
    refine callP (t40 b) rfl fun _ => ?_
    refine Fit.in64 (by omega) (by omega) ?_
    refine Fit.in64 (by omega) (by omega) ?_
    refine NonZ.mk (by omega) ?_
    refine Fit.in64 (by omega) (by omega) ?_
    exact ⟨(k + 1, stepN h b.toNat), ⟨hlt, g1, g2, hf⟩, ⟨nextI, same_keys rfl, trivial⟩, trivial, nextM hlt⟩
  · have hge : ¬ k < bs.length := by simpa [bcells] using hge
    rw [drop_end hge] at hf
    exact retP rfl (congrArg (C.int .i64) hf)
end Go.Fr.Try

/- Digest: the writer's numbers and texts. -/
set_option linter.unusedVariables false
set_option linter.unusedSimpArgs false
namespace Go.Fr.Try
open Go Go.RowKit Go.Proofs Go.Fr Go.Fr.T Go.Fr.Api

theorem t15 (bs : List UInt8) : CallsT P 15 [.sl (bcells bs)] [] (Ret [] (.int .i64 (foldN (bytesN bs)))) := by
  refine callsT_facts Try.func15 facts15 rfl fun hw _ => ?_
  exact callP (t39 bs) rfl fun _ => retP rfl rfl

theorem Fit.to {k : IntKind} {n m : Int} {K : Int → Prop} (h : k.wrap n = m) (hK : K m) : Fit k n K := ⟨by rw [h]; exact hK⟩
theorem wrap_u64 (n : Int) : IntKind.wrap .u64 n = n % 18446744073709551616 := by
  simp [IntKind.wrap, IntKind.bits, IntKind.signed]
theorem wrap_u8 (n : Int) : IntKind.wrap .u8 n = n % 256 := by
  simp [IntKind.wrap, IntKind.bits, IntKind.signed]
theorem xor_u64 {n : Int} (h0 : 0 ≤ n) (h1 : n < 18446744073709551616) :
    IntKind.wrap .u64 (BitVec.ofInt (IntKind.bits .u64) (if IntKind.signed .u64 then -1 else IntKind.max .u64) ^^^ BitVec.ofInt (IntKind.bits .u64) n).toNat = 18446744073709551615 - n := by
  have e : (if IntKind.signed .u64 then -1 else IntKind.max .u64 : Int) = 18446744073709551615 := by simp [IntKind.max, IntKind.signed, IntKind.bits]
  rw [e, wrap_u64]
  show ((BitVec.ofInt 64 18446744073709551615 ^^^ BitVec.ofInt 64 n).toNat : Int) % _ = _
  rw [show BitVec.ofInt 64 18446744073709551615 = BitVec.allOnes 64 by decide]
  rw [BitVec.allOnes_xor, BitVec.toNat_not, BitVec.toNat_ofInt]
  have : (n % ((2 ^ 64 : Nat) : Int)).toNat = n.toNat := by
    congr 1
    exact Int.emod_eq_of_lt h0 (by simpa using h1)
  rw [this]
  omega

def encN (n : Nat) : List UInt8 := if h : n < 128 then [UInt8.ofNat n] else UInt8.ofNat (128 + n % 128) :: encN (n / 128)
def zig (n : Int) : Nat := if n < 0 then (-2 * n - 1).toNat else (2 * n).toNat
def encI (n : Int) : List UInt8 := encN (zig n)
def encIs (l : List Int) : List UInt8 := l.flatMap encI
def encS (s : ByteArray) : List UInt8 := encI s.size ++ s.data.toList
def encSs (l : List ByteArray) : List UInt8 := l.flatMap encS
theorem two_pow1 : (2 : Int) ^ (min (Int.toNat 1) (IntKind.bits .u64)) = 2 := rfl
theorem u8_hi (m : Nat) : IntKind.wrap .u8 ((128 + (m : Int).tmod 128) % 18446744073709551616) = ((UInt8.ofNat (128 + m % 128)).toNat : Int) := by
  rw [wrap_u8]
  show ((128 + ((m % 128 : Nat) : Int)) % 18446744073709551616) % 256 = _
  rw [UInt8.toNat_ofNat']
  omega
theorem u8_lo (m : Nat) : IntKind.wrap .u8 (m : Int) = ((UInt8.ofNat m).toNat : Int) := by
  rw [wrap_u8, UInt8.toNat_ofNat']
  omega

/-- the program of a writer: none, or one that lies in frozen memory -/
inductive PC : Option Prog → C → Prop
  | nil : PC none .nilp
  | prog (q : Prog) : PC (some q) (.pt (progC q) 0)
/-- the writer's two own blocks -/
def Wr (p : C) (bs : List UInt8) : List TO := [.box 114 [.rw 1001, p], .row 5 1 (bcells bs)]
def WrL (p : C) (bs : List UInt8) : TL := [(1000, .box 114 [.rw 1001, p]), (1001, .row 5 1 (bcells bs))]
theorem bcells_app (a b : List UInt8) : bcells (a ++ b) = bcells a ++ bcells b := by simp [bcells]
theorem encN_len (n : Nat) : 1 ≤ (encN n).length := by rw [encN]; split <;> simp
theorem bcells_len (a : List UInt8) : (bcells a).length = a.length := by simp [bcells]
theorem bcells_sz {a : List UInt8} : ∀ es ∈ bcells a, es.length = 1 := by
  intro es h
  simp only [bcells, List.mem_map] at h
  obtain ⟨b, _, rfl⟩ := h
  rfl
theorem app1 {bs : List UInt8} {b : UInt8} {K : Prop} (h : bs.length + 1 ≤ 140737488355328) (k : K) : AppT (bcells bs) [[bcell b]] 1 1 K :=
  ⟨by simp, by rw [bcells_len]; simp [maxLen]; omega, by rw [bcells_len]; simp; omega, k⟩
theorem bcells_snoc (a : List UInt8) (b : UInt8) : bcells (a ++ [b]) = bcells a ++ [[bcell b]] := by simp [bcells]

theorem t55 {po : Option Prog} {p : C} (hp : PC po p) (bs : List UInt8) (l : List Int) (hb : (bs ++ encIs l).length ≤ 2 ^ 46) : CallsT P 55 [.own 1000 0, .sl (ics l)] (Wr p bs) (Ret (Wr p (bs ++ encIs l)) (.tup [])) := by
  refine callsT_facts Try.func55 facts55 rfl fun hw _ => ?_
  have hn : l.length ≤ 9223372036854775807 := by have := wf_len hw.2.1; simpa [ics] using this
  have hwl : ∀ x ∈ l, -9223372036854775808 ≤ x ∧ x ≤ 9223372036854775807 := by
    intro x hx
    have h1 := hw.2.1
    simp only [Wf] at h1
    exact wf_I (WfS_iff.1 (WfSS_iff.1 h1.2 [IC x] (by simp only [ics, List.mem_map]; exact ⟨x, hx, rfl⟩)) _ (by simp))
  cases hp
  all_goals
    refine loopN l.length 9 [] bs (fun _ => []) (fun s => WrL _ s) (fun k s => s ++ encIs (l.drop k) = bs ++ encIs l) rfl (same_keys rfl) trivial ⟨.inl ⟨_, rfl, .inl ⟨rfl, rfl⟩⟩, .inl ⟨_, rfl, .inl ⟨rfl, rfl⟩⟩, trivial⟩ (fun _ => rfl) (fun _ => rfl) ?_
    rintro k s hk hinv _ _ _
    refine brn_p (fun hlt => ?_) (fun hge => ?_)
    · have hlt : k < l.length := by simpa [ics] using hlt
      obtain ⟨x, hx, hd⟩ := drop_cons hlt
      rw [hd] at hinv
      have hwx := hwl x (List.mem_of_getElem? hx)
      have hlen : s.length + (encI x).length ≤ 2 ^ 46 := by
        rw [← hinv] at hb
        simp only [encIs, List.flatMap_cons, List.length_append] at hb
        omega
      refine idxI hx ?_
      refine Fit.to (wrap_u64 _) ?_
      refine ⟨by omega, ?_⟩
      refine Fit.to (wrap_u64 _) ?_
      refine brn_p (fun hneg => ?_) (fun hpos => ?_)
      all_goals
        refine LoopT.mk ⟨Nat × List UInt8, (zig x, s), fun y => y.1 < 18446744073709551616 ∧ y.2 ++ encN y.1 = s ++ encI x, [6], fun y => [.int .u64 y.1], fun y => WrL _ y.2, fun y => y.1, ⟨?_, rfl⟩, ⟨.inr (.inl ⟨?_, rfl⟩), trivial⟩,
          ⟨.inl ⟨_, rfl, .inl ⟨rfl, rfl⟩⟩, .inl ⟨_, rfl, .inl ⟨rfl, rfl⟩⟩, trivial⟩, fun _ => rfl, fun _ => rfl, ?_⟩
        · show zig x < _
          unfold zig; split <;> omega
        rotate_left
        · rintro ⟨m, done⟩ ⟨hm64, hmi⟩ _ _
          simp only at hmi hm64
          have hdl : done.length + (encN m).length ≤ 2 ^ 46 := by
            have := congrArg List.length hmi
            simp only [List.length_append] at this
            omega
          have h1 := encN_len m
          refine brn_p (fun hm => ?_) (fun hm => ?_)
          · have hm : 128 ≤ m := by have : (128 : Int) ≤ (m : Int) := hm; omega
            have hde : encN m = UInt8.ofNat (128 + m % 128) :: encN (m / 128) := by rw [encN, dif_neg (by omega)]
            refine NonZ.mk (by omega) ?_
            refine Fit.to (wrap_u64 _) ?_
            refine Fit.to (u8_hi m) ?_
            refine app1 (bs := done) (by omega) ?_
            refine NonZ.mk (by omega) ?_
            refine Fit.to (wrap_u64 _) ?_
            refine ⟨(m / 128, done ++ [UInt8.ofNat (128 + m % 128)]), ⟨?_, ?_⟩, ⟨.inr (.inl ⟨?_, rfl⟩), trivial⟩, ⟨.inl ⟨_, rfl, .inl ⟨rfl, rfl⟩⟩, .inl ⟨_, rfl, .inl ⟨?_, rfl⟩⟩, trivial⟩, ?_⟩
            · show m / 128 < _; omega
            · show done ++ [UInt8.ofNat (128 + m % 128)] ++ encN (m / 128) = s ++ encI x
              rw [← hmi, hde]; simp
            · refine congrArg (C.int .u64) ?_
              show ((m / 128 : Nat) : Int) % _ = ((m / 128 : Nat) : Int)
              omega
            · exact congrArg (TO.row 5 1) (bcells_snoc _ _).symm
            · show m / 128 < m; omega
          · have hm : m < 128 := by have : ¬ (128 : Int) ≤ (m : Int) := hm; omega
            have hde : encN m = [UInt8.ofNat m] := by rw [encN, dif_pos hm]
            refine Fit.to (u8_lo m) ?_
            refine app1 (bs := done) (by omega) ?_
            refine Fit.in64 (by omega) (by omega) ?_
            refine ⟨(k + 1, done ++ [UInt8.ofNat m]), ⟨hlt, ?_⟩, ⟨nextI, trivial⟩, ⟨.inl ⟨_, rfl, .inl ⟨rfl, rfl⟩⟩, .inl ⟨_, rfl, .inl ⟨?_, rfl⟩⟩, trivial⟩, nextM hlt⟩
            · show done ++ [UInt8.ofNat m] ++ encIs (l.drop (k + 1)) = bs ++ encIs l
              rw [← hinv, ← hde, hmi]; simp [encIs]
            · exact congrArg (TO.row 5 1) (bcells_snoc _ _).symm
        · refine congrArg (C.int .u64) ?_
          simp only [two_pow1]
          first
            | (rw [xor_u64 (by omega) (by omega)]; unfold zig; rw [if_pos hneg]; omega)
            | (unfold zig; rw [if_neg hpos]; omega)
    · have hge : ¬ k < l.length := by simpa [ics] using hge
      rw [drop_end hge] at hinv
      refine retO [1000, 1001] rfl rfl ?_ rfl
      simp only [encIs, List.flatMap_nil, List.append_nil] at hinv
      subst hinv
      rfl
end Go.Fr.Try

/- Digest: the writer's lists (printed by dglist.py). -/
set_option linter.unusedVariables false
set_option linter.unusedSimpArgs false
namespace Go.Fr.Try
open Go Go.RowKit Go.Proofs Go.Fr Go.Fr.T Go.Fr.Api

def encL {α : Type} (enc : α → List UInt8) (l : List α) : List UInt8 := encI l.length ++ l.flatMap enc
/-- the writer, and the box that a closure holds it by -/
def WrC (p : C) (bs : List UInt8) : List TO := [.box 114 [.rw 1001, p], .row 5 1 (bcells bs), .box 77 [.own 1000 0]]
def WrCL (p : C) (bs : List UInt8) : TL := [(1000, .box 114 [.rw 1001, p]), (1001, .row 5 1 (bcells bs)), (1002, .box 77 [.own 1000 0])]

set_option maxRecDepth 10000 in
theorem t87 {po : Option Prog} {p : C} (hp : PC po p) (bs : List UInt8) (l : List Int) (enc : Int → List UInt8) (hc : ∀ x ∈ l, ∀ s : List UInt8, (s ++ enc x).length ≤ 2 ^ 46 → CallsT P 88 [IC x, .own 1002 0] (WrC p s) (Ret (WrC p (s ++ enc x)) (.tup [])))
    (hb : (bs ++ encL enc l).length ≤ 2 ^ 46) : CallsT P 87 [.own 1000 0, .sl (ics l), .fn 88 [] [.own 1002 0]] (WrC p bs) (Ret (WrC p (bs ++ encL enc l)) (.tup [])) := by
  refine callsT_facts Try.func87 facts87 rfl fun hw _ => ?_
  have hn : l.length ≤ 9223372036854775807 := by have := wf_len hw.2.1; simpa [ics] using this
  have hp' := hp
  cases hp
  all_goals
    refine callO [1000, 1001] [1000, 1001] (t55 hp' bs [((ics l).length : Int)] ?_) rfl rfl rfl rfl rfl fun _ _ => ?_
    · simp only [encL, List.length_append, ics, List.length_map, encIs, List.flatMap_cons, List.flatMap_nil, List.append_nil] at hb ⊢; omega
    refine loopN l.length 15 [] (bs ++ encI l.length) (fun _ => []) (fun s => WrCL _ s) (fun k s => s ++ (l.drop k).flatMap enc = bs ++ encL enc l) (by simp [encL]) (same_keys rfl) trivial ⟨.inl ⟨_, rfl, .inl ⟨rfl, rfl⟩⟩, .inl ⟨_, rfl, .inl ⟨?_, rfl⟩⟩, .inl ⟨_, rfl, .inl ⟨rfl, rfl⟩⟩, trivial⟩ (fun _ => rfl) (fun _ => rfl) ?_
    · show TO.row 5 1 (bcells (bs ++ encIs [((ics l).length : Int)])) = _
      simp [encIs, ics]
    rintro k s hk hinv _ _ _
    refine brn_p (fun hlt => ?_) (fun hge => ?_)
    · have hlt : k < l.length := by simpa [ics] using hlt
      obtain ⟨x, hx, hd⟩ := drop_cons hlt
      rw [hd, List.flatMap_cons] at hinv
      have hsz : (s ++ enc x).length ≤ 2 ^ 46 := by
        rw [← hinv] at hb
        simp only [List.length_append] at hb ⊢
        omega
      refine idxI hx ?_
      refine callO [1000, 1001, 1002] [1000, 1001, 1002] (hc x (List.mem_of_getElem? hx) s hsz) rfl rfl rfl rfl rfl fun _ _ => ?_
      refine Fit.in64 (by omega) (by omega) ?_
      exact ⟨(k + 1, s ++ enc x), ⟨hlt, by rw [← hinv]; simp⟩, ⟨nextI, trivial⟩, ⟨.inl ⟨_, rfl, .inl ⟨rfl, rfl⟩⟩, .inl ⟨_, rfl, .inl ⟨rfl, rfl⟩⟩, .inl ⟨_, rfl, .inl ⟨rfl, rfl⟩⟩, trivial⟩, nextM hlt⟩
    · have hge : ¬ k < l.length := by simpa [ics] using hge
      rw [drop_end hge] at hinv
      refine retO [1000, 1001, 1002] rfl rfl ?_ rfl
      simp only [List.flatMap_nil, List.append_nil] at hinv
      subst hinv
      rfl

set_option maxRecDepth 10000 in
theorem t81 {po : Option Prog} {p : C} (hp : PC po p) (bs : List UInt8) (l : List Bound) (enc : Bound → List UInt8) (hc : ∀ x ∈ l, ∀ s : List UInt8, (s ++ enc x).length ≤ 2 ^ 46 → CallsT P 82 [.agg (boundC x), .own 1002 0] (WrC p s) (Ret (WrC p (s ++ enc x)) (.tup [])))
    (hb : (bs ++ encL enc l).length ≤ 2 ^ 46) : CallsT P 81 [.own 1000 0, .sl (l.map boundC), .fn 82 [] [.own 1002 0]] (WrC p bs) (Ret (WrC p (bs ++ encL enc l)) (.tup [])) := by
  refine callsT_facts Try.func81 facts81 rfl fun hw _ => ?_
  have hn : l.length ≤ 9223372036854775807 := by have := wf_len hw.2.1; simpa [ics] using this
  have hp' := hp
  cases hp
  all_goals
    refine callO [1000, 1001] [1000, 1001] (t55 hp' bs [((l.map boundC).length : Int)] ?_) rfl rfl rfl rfl rfl fun _ _ => ?_
    · simp only [encL, List.length_append, List.length_map, List.length_map, encIs, List.flatMap_cons, List.flatMap_nil, List.append_nil] at hb ⊢; omega
    refine loopN l.length 15 [] (bs ++ encI l.length) (fun _ => []) (fun s => WrCL _ s) (fun k s => s ++ (l.drop k).flatMap enc = bs ++ encL enc l) (by simp [encL]) (same_keys rfl) trivial ⟨.inl ⟨_, rfl, .inl ⟨rfl, rfl⟩⟩, .inl ⟨_, rfl, .inl ⟨?_, rfl⟩⟩, .inl ⟨_, rfl, .inl ⟨rfl, rfl⟩⟩, trivial⟩ (fun _ => rfl) (fun _ => rfl) ?_
    · show TO.row 5 1 (bcells (bs ++ encIs [((l.map boundC).length : Int)])) = _
      simp [encIs, ics]
    rintro k s hk hinv _ _ _
    refine brn_p (fun hlt => ?_) (fun hge => ?_)
    · have hlt : k < l.length := by simpa [ics] using hlt
      obtain ⟨x, hx, hd⟩ := drop_cons hlt
      rw [hd, List.flatMap_cons] at hinv
      have hsz : (s ++ enc x).length ≤ 2 ^ 46 := by
        rw [← hinv] at hb
        simp only [List.length_append] at hb ⊢
        omega
      refine idxT hx rfl rfl ?_
      refine callO [1000, 1001, 1002] [1000, 1001, 1002] (hc x (List.mem_of_getElem? hx) s hsz) rfl rfl rfl rfl rfl fun _ _ => ?_
      refine Fit.in64 (by omega) (by omega) ?_
      exact ⟨(k + 1, s ++ enc x), ⟨hlt, by rw [← hinv]; simp⟩, ⟨nextI, trivial⟩, ⟨.inl ⟨_, rfl, .inl ⟨rfl, rfl⟩⟩, .inl ⟨_, rfl, .inl ⟨rfl, rfl⟩⟩, .inl ⟨_, rfl, .inl ⟨rfl, rfl⟩⟩, trivial⟩, nextM hlt⟩
    · have hge : ¬ k < l.length := by simpa [ics] using hge
      rw [drop_end hge] at hinv
      refine retO [1000, 1001, 1002] rfl rfl ?_ rfl
      simp only [List.flatMap_nil, List.append_nil] at hinv
      subst hinv
      rfl

set_option maxRecDepth 10000 in
theorem t58 {po : Option Prog} {p : C} (hp : PC po p) (bs : List UInt8) (l : List Ty) (enc : Ty → List UInt8) (hc : ∀ x ∈ l, ∀ s : List UInt8, (s ++ enc x).length ≤ 2 ^ 46 → CallsT P 45 [.own 1000 0, .agg (tyC x)] (Wr p s) (Ret (Wr p (s ++ enc x)) (.tup [])))
    (hb : (bs ++ encL enc l).length ≤ 2 ^ 46) : CallsT P 58 [.own 1000 0, .sl (l.map tyC), .fn 45 [.own 1000 0] []] (Wr p bs) (Ret (Wr p (bs ++ encL enc l)) (.tup [])) := by
  refine callsT_facts Try.func58 facts58 rfl fun hw _ => ?_
  have hn : l.length ≤ 9223372036854775807 := by have := wf_len hw.2.1; simpa [ics] using this
  have hp' := hp
  cases hp
  all_goals
    refine callO [1000, 1001] [1000, 1001] (t55 hp' bs [((l.map tyC).length : Int)] ?_) rfl rfl rfl rfl rfl fun _ _ => ?_
    · simp only [encL, List.length_append, List.length_map, List.length_map, encIs, List.flatMap_cons, List.flatMap_nil, List.append_nil] at hb ⊢; omega
    refine loopN l.length 15 [] (bs ++ encI l.length) (fun _ => []) (fun s => WrL _ s) (fun k s => s ++ (l.drop k).flatMap enc = bs ++ encL enc l) (by simp [encL]) (same_keys rfl) trivial ⟨.inl ⟨_, rfl, .inl ⟨rfl, rfl⟩⟩, .inl ⟨_, rfl, .inl ⟨?_, rfl⟩⟩, trivial⟩ (fun _ => rfl) (fun _ => rfl) ?_
    · show TO.row 5 1 (bcells (bs ++ encIs [((l.map tyC).length : Int)])) = _
      simp [encIs, ics]
    rintro k s hk hinv _ _ _
    refine brn_p (fun hlt => ?_) (fun hge => ?_)
    · have hlt : k < l.length := by simpa [ics] using hlt
      obtain ⟨x, hx, hd⟩ := drop_cons hlt
      rw [hd, List.flatMap_cons] at hinv
      have hsz : (s ++ enc x).length ≤ 2 ^ 46 := by
        rw [← hinv] at hb
        simp only [List.length_append] at hb ⊢
        omega
      refine idxTy hx ?_
      refine callO [1000, 1001] [1000, 1001] (hc x (List.mem_of_getElem? hx) s hsz) rfl rfl ?_ rfl rfl fun _ _ => ?_
      · simp only [tyC_eq]; rfl
      refine Fit.in64 (by omega) (by omega) ?_
      exact ⟨(k + 1, s ++ enc x), ⟨hlt, by rw [← hinv]; simp⟩, ⟨nextI, trivial⟩, ⟨.inl ⟨_, rfl, .inl ⟨rfl, rfl⟩⟩, .inl ⟨_, rfl, .inl ⟨rfl, rfl⟩⟩, trivial⟩, nextM hlt⟩
    · have hge : ¬ k < l.length := by simpa [ics] using hge
      rw [drop_end hge] at hinv
      refine retO [1000, 1001] rfl rfl ?_ rfl
      simp only [List.flatMap_nil, List.append_nil] at hinv
      subst hinv
      rfl

set_option maxRecDepth 10000 in
theorem t74 {po : Option Prog} {p : C} (hp : PC po p) (bs : List UInt8) (l : List Ins) (enc : Ins → List UInt8) (hc : ∀ x ∈ l, ∀ s : List UInt8, (s ++ enc x).length ≤ 2 ^ 46 → CallsT P 75 [.agg (insC x), .own 1002 0] (WrC p s) (Ret (WrC p (s ++ enc x)) (.tup [])))
    (hb : (bs ++ encL enc l).length ≤ 2 ^ 46) : CallsT P 74 [.own 1000 0, .sl (l.map insC), .fn 75 [] [.own 1002 0]] (WrC p bs) (Ret (WrC p (bs ++ encL enc l)) (.tup [])) := by
  refine callsT_facts Try.func74 facts74 rfl fun hw _ => ?_
  have hn : l.length ≤ 9223372036854775807 := by have := wf_len hw.2.1; simpa [ics] using this
  have hp' := hp
  cases hp
  all_goals
    refine callO [1000, 1001] [1000, 1001] (t55 hp' bs [((l.map insC).length : Int)] ?_) rfl rfl rfl rfl rfl fun _ _ => ?_
    · simp only [encL, List.length_append, List.length_map, List.length_map, encIs, List.flatMap_cons, List.flatMap_nil, List.append_nil] at hb ⊢; omega
    refine loopN l.length 15 [] (bs ++ encI l.length) (fun _ => []) (fun s => WrCL _ s) (fun k s => s ++ (l.drop k).flatMap enc = bs ++ encL enc l) (by simp [encL]) (same_keys rfl) trivial ⟨.inl ⟨_, rfl, .inl ⟨rfl, rfl⟩⟩, .inl ⟨_, rfl, .inl ⟨?_, rfl⟩⟩, .inl ⟨_, rfl, .inl ⟨rfl, rfl⟩⟩, trivial⟩ (fun _ => rfl) (fun _ => rfl) ?_
    · show TO.row 5 1 (bcells (bs ++ encIs [((l.map insC).length : Int)])) = _
      simp [encIs, ics]
    rintro k s hk hinv _ _ _
    refine brn_p (fun hlt => ?_) (fun hge => ?_)
    · have hlt : k < l.length := by simpa [ics] using hlt
      obtain ⟨x, hx, hd⟩ := drop_cons hlt
      rw [hd, List.flatMap_cons] at hinv
      have hsz : (s ++ enc x).length ≤ 2 ^ 46 := by
        rw [← hinv] at hb
        simp only [List.length_append] at hb ⊢
        omega
      refine idxT hx rfl rfl ?_
      refine callO [1000, 1001, 1002] [1000, 1001, 1002] (hc x (List.mem_of_getElem? hx) s hsz) rfl rfl rfl rfl rfl fun _ _ => ?_
      refine Fit.in64 (by omega) (by omega) ?_
      exact ⟨(k + 1, s ++ enc x), ⟨hlt, by rw [← hinv]; simp⟩, ⟨nextI, trivial⟩, ⟨.inl ⟨_, rfl, .inl ⟨rfl, rfl⟩⟩, .inl ⟨_, rfl, .inl ⟨rfl, rfl⟩⟩, .inl ⟨_, rfl, .inl ⟨rfl, rfl⟩⟩, trivial⟩, nextM hlt⟩
    · have hge : ¬ k < l.length := by simpa [ics] using hge
      rw [drop_end hge] at hinv
      refine retO [1000, 1001, 1002] rfl rfl ?_ rfl
      simp only [List.flatMap_nil, List.append_nil] at hinv
      subst hinv
      rfl

set_option maxRecDepth 10000 in
theorem t72 {po : Option Prog} {p : C} (hp : PC po p) (bs : List UInt8) (l : List Block) (enc : Block → List UInt8) (hc : ∀ x ∈ l, ∀ s : List UInt8, (s ++ enc x).length ≤ 2 ^ 46 → CallsT P 73 [.agg (blockC x), .own 1002 0] (WrC p s) (Ret (WrC p (s ++ enc x)) (.tup [])))
    (hb : (bs ++ encL enc l).length ≤ 2 ^ 46) : CallsT P 72 [.own 1000 0, .sl (l.map blockC), .fn 73 [] [.own 1002 0]] (WrC p bs) (Ret (WrC p (bs ++ encL enc l)) (.tup [])) := by
  refine callsT_facts Try.func72 facts72 rfl fun hw _ => ?_
  have hn : l.length ≤ 9223372036854775807 := by have := wf_len hw.2.1; simpa [ics] using this
  have hp' := hp
  cases hp
  all_goals
    refine callO [1000, 1001] [1000, 1001] (t55 hp' bs [((l.map blockC).length : Int)] ?_) rfl rfl rfl rfl rfl fun _ _ => ?_
    · simp only [encL, List.length_append, List.length_map, List.length_map, encIs, List.flatMap_cons, List.flatMap_nil, List.append_nil] at hb ⊢; omega
    refine loopN l.length 15 [] (bs ++ encI l.length) (fun _ => []) (fun s => WrCL _ s) (fun k s => s ++ (l.drop k).flatMap enc = bs ++ encL enc l) (by simp [encL]) (same_keys rfl) trivial ⟨.inl ⟨_, rfl, .inl ⟨rfl, rfl⟩⟩, .inl ⟨_, rfl, .inl ⟨?_, rfl⟩⟩, .inl ⟨_, rfl, .inl ⟨rfl, rfl⟩⟩, trivial⟩ (fun _ => rfl) (fun _ => rfl) ?_
    · show TO.row 5 1 (bcells (bs ++ encIs [((l.map blockC).length : Int)])) = _
      simp [encIs, ics]
    rintro k s hk hinv _ _ _
    refine brn_p (fun hlt => ?_) (fun hge => ?_)
    · have hlt : k < l.length := by simpa [ics] using hlt
      obtain ⟨x, hx, hd⟩ := drop_cons hlt
      rw [hd, List.flatMap_cons] at hinv
      have hsz : (s ++ enc x).length ≤ 2 ^ 46 := by
        rw [← hinv] at hb
        simp only [List.length_append] at hb ⊢
        omega
      refine idxT hx rfl rfl ?_
      refine callO [1000, 1001, 1002] [1000, 1001, 1002] (hc x (List.mem_of_getElem? hx) s hsz) rfl rfl rfl rfl rfl fun _ _ => ?_
      refine Fit.in64 (by omega) (by omega) ?_
      exact ⟨(k + 1, s ++ enc x), ⟨hlt, by rw [← hinv]; simp⟩, ⟨nextI, trivial⟩, ⟨.inl ⟨_, rfl, .inl ⟨rfl, rfl⟩⟩, .inl ⟨_, rfl, .inl ⟨rfl, rfl⟩⟩, .inl ⟨_, rfl, .inl ⟨rfl, rfl⟩⟩, trivial⟩, nextM hlt⟩
    · have hge : ¬ k < l.length := by simpa [ics] using hge
      rw [drop_end hge] at hinv
      refine retO [1000, 1001, 1002] rfl rfl ?_ rfl
      simp only [List.flatMap_nil, List.append_nil] at hinv
      subst hinv
      rfl

set_option maxRecDepth 10000 in
theorem t66 {po : Option Prog} {p : C} (hp : PC po p) (bs : List UInt8) (l : List Fun) (enc : Fun → List UInt8) (hc : ∀ x ∈ l, ∀ s : List UInt8, (s ++ enc x).length ≤ 2 ^ 46 → CallsT P 34 [.own 1000 0, .agg (funC x)] (Wr p s) (Ret (Wr p (s ++ enc x)) (.tup [])))
    (hb : (bs ++ encL enc l).length ≤ 2 ^ 46) : CallsT P 66 [.own 1000 0, .sl (l.map funC), .fn 34 [.own 1000 0] []] (Wr p bs) (Ret (Wr p (bs ++ encL enc l)) (.tup [])) := by
  refine callsT_facts Try.func66 facts66 rfl fun hw _ => ?_
  have hn : l.length ≤ 9223372036854775807 := by have := wf_len hw.2.1; simpa [ics] using this
  have hp' := hp
  cases hp
  all_goals
    refine callO [1000, 1001] [1000, 1001] (t55 hp' bs [((l.map funC).length : Int)] ?_) rfl rfl rfl rfl rfl fun _ _ => ?_
    · simp only [encL, List.length_append, List.length_map, List.length_map, encIs, List.flatMap_cons, List.flatMap_nil, List.append_nil] at hb ⊢; omega
    refine loopN l.length 15 [] (bs ++ encI l.length) (fun _ => []) (fun s => WrL _ s) (fun k s => s ++ (l.drop k).flatMap enc = bs ++ encL enc l) (by simp [encL]) (same_keys rfl) trivial ⟨.inl ⟨_, rfl, .inl ⟨rfl, rfl⟩⟩, .inl ⟨_, rfl, .inl ⟨?_, rfl⟩⟩, trivial⟩ (fun _ => rfl) (fun _ => rfl) ?_
    · show TO.row 5 1 (bcells (bs ++ encIs [((l.map funC).length : Int)])) = _
      simp [encIs, ics]
    rintro k s hk hinv _ _ _
    refine brn_p (fun hlt => ?_) (fun hge => ?_)
    · have hlt : k < l.length := by simpa [ics] using hlt
      obtain ⟨x, hx, hd⟩ := drop_cons hlt
      rw [hd, List.flatMap_cons] at hinv
      have hsz : (s ++ enc x).length ≤ 2 ^ 46 := by
        rw [← hinv] at hb
        simp only [List.length_append] at hb ⊢
        omega
      refine idxT hx rfl rfl ?_
      refine callO [1000, 1001] [1000, 1001] (hc x (List.mem_of_getElem? hx) s hsz) rfl rfl rfl rfl rfl fun _ _ => ?_
      refine Fit.in64 (by omega) (by omega) ?_
      exact ⟨(k + 1, s ++ enc x), ⟨hlt, by rw [← hinv]; simp⟩, ⟨nextI, trivial⟩, ⟨.inl ⟨_, rfl, .inl ⟨rfl, rfl⟩⟩, .inl ⟨_, rfl, .inl ⟨rfl, rfl⟩⟩, trivial⟩, nextM hlt⟩
    · have hge : ¬ k < l.length := by simpa [ics] using hge
      rw [drop_end hge] at hinv
      refine retO [1000, 1001] rfl rfl ?_ rfl
      simp only [List.flatMap_nil, List.append_nil] at hinv
      subst hinv
      rfl

set_option maxRecDepth 10000 in
theorem t56 {po : Option Prog} {p : C} (hp : PC po p) (bs : List UInt8) (l : List Variant) (enc : Variant → List UInt8) (hc : ∀ x ∈ l, ∀ s : List UInt8, (s ++ enc x).length ≤ 2 ^ 46 → CallsT P 57 [.agg (variantC x), .own 1002 0] (WrC p s) (Ret (WrC p (s ++ enc x)) (.tup [])))
    (hb : (bs ++ encL enc l).length ≤ 2 ^ 46) : CallsT P 56 [.own 1000 0, .sl (l.map variantC), .fn 57 [] [.own 1002 0]] (WrC p bs) (Ret (WrC p (bs ++ encL enc l)) (.tup [])) := by
  refine callsT_facts Try.func56 facts56 rfl fun hw _ => ?_
  have hn : l.length ≤ 9223372036854775807 := by have := wf_len hw.2.1; simpa [ics] using this
  have hp' := hp
  cases hp
  all_goals
    refine callO [1000, 1001] [1000, 1001] (t55 hp' bs [((l.map variantC).length : Int)] ?_) rfl rfl rfl rfl rfl fun _ _ => ?_
    · simp only [encL, List.length_append, List.length_map, List.length_map, encIs, List.flatMap_cons, List.flatMap_nil, List.append_nil] at hb ⊢; omega
    refine loopN l.length 15 [] (bs ++ encI l.length) (fun _ => []) (fun s => WrCL _ s) (fun k s => s ++ (l.drop k).flatMap enc = bs ++ encL enc l) (by simp [encL]) (same_keys rfl) trivial ⟨.inl ⟨_, rfl, .inl ⟨rfl, rfl⟩⟩, .inl ⟨_, rfl, .inl ⟨?_, rfl⟩⟩, .inl ⟨_, rfl, .inl ⟨rfl, rfl⟩⟩, trivial⟩ (fun _ => rfl) (fun _ => rfl) ?_
    · show TO.row 5 1 (bcells (bs ++ encIs [((l.map variantC).length : Int)])) = _
      simp [encIs, ics]
    rintro k s hk hinv _ _ _
    refine brn_p (fun hlt => ?_) (fun hge => ?_)
    · have hlt : k < l.length := by simpa [ics] using hlt
      obtain ⟨x, hx, hd⟩ := drop_cons hlt
      rw [hd, List.flatMap_cons] at hinv
      have hsz : (s ++ enc x).length ≤ 2 ^ 46 := by
        rw [← hinv] at hb
        simp only [List.length_append] at hb ⊢
        omega
      refine idxT hx rfl rfl ?_
      refine callO [1000, 1001, 1002] [1000, 1001, 1002] (hc x (List.mem_of_getElem? hx) s hsz) rfl rfl rfl rfl rfl fun _ _ => ?_
      refine Fit.in64 (by omega) (by omega) ?_
      exact ⟨(k + 1, s ++ enc x), ⟨hlt, by rw [← hinv]; simp⟩, ⟨nextI, trivial⟩, ⟨.inl ⟨_, rfl, .inl ⟨rfl, rfl⟩⟩, .inl ⟨_, rfl, .inl ⟨rfl, rfl⟩⟩, .inl ⟨_, rfl, .inl ⟨rfl, rfl⟩⟩, trivial⟩, nextM hlt⟩
    · have hge : ¬ k < l.length := by simpa [ics] using hge
      rw [drop_end hge] at hinv
      refine retO [1000, 1001, 1002] rfl rfl ?_ rfl
      simp only [List.flatMap_nil, List.append_nil] at hinv
      subst hinv
      rfl

set_option maxRecDepth 10000 in
theorem t51 {po : Option Prog} {p : C} (hp : PC po p) (bs : List UInt8) (l : List Api.Data) (enc : Api.Data → List UInt8) (hc : ∀ x ∈ l, ∀ s : List UInt8, (s ++ enc x).length ≤ 2 ^ 46 → CallsT P 54 [.agg (dataC x), .own 1002 0] (WrC p s) (Ret (WrC p (s ++ enc x)) (.tup [])))
    (hb : (bs ++ encL enc l).length ≤ 2 ^ 46) : CallsT P 51 [.own 1000 0, .sl (l.map dataC), .fn 54 [] [.own 1002 0]] (WrC p bs) (Ret (WrC p (bs ++ encL enc l)) (.tup [])) := by
  refine callsT_facts Try.func51 facts51 rfl fun hw _ => ?_
  have hn : l.length ≤ 9223372036854775807 := by have := wf_len hw.2.1; simpa [ics] using this
  have hp' := hp
  cases hp
  all_goals
    refine callO [1000, 1001] [1000, 1001] (t55 hp' bs [((l.map dataC).length : Int)] ?_) rfl rfl rfl rfl rfl fun _ _ => ?_
    · simp only [encL, List.length_append, List.length_map, List.length_map, encIs, List.flatMap_cons, List.flatMap_nil, List.append_nil] at hb ⊢; omega
    refine loopN l.length 15 [] (bs ++ encI l.length) (fun _ => []) (fun s => WrCL _ s) (fun k s => s ++ (l.drop k).flatMap enc = bs ++ encL enc l) (by simp [encL]) (same_keys rfl) trivial ⟨.inl ⟨_, rfl, .inl ⟨rfl, rfl⟩⟩, .inl ⟨_, rfl, .inl ⟨?_, rfl⟩⟩, .inl ⟨_, rfl, .inl ⟨rfl, rfl⟩⟩, trivial⟩ (fun _ => rfl) (fun _ => rfl) ?_
    · show TO.row 5 1 (bcells (bs ++ encIs [((l.map dataC).length : Int)])) = _
      simp [encIs, ics]
    rintro k s hk hinv _ _ _
    refine brn_p (fun hlt => ?_) (fun hge => ?_)
    · have hlt : k < l.length := by simpa [ics] using hlt
      obtain ⟨x, hx, hd⟩ := drop_cons hlt
      rw [hd, List.flatMap_cons] at hinv
      have hsz : (s ++ enc x).length ≤ 2 ^ 46 := by
        rw [← hinv] at hb
        simp only [List.length_append] at hb ⊢
        omega
      refine idxT hx rfl rfl ?_
      refine callO [1000, 1001, 1002] [1000, 1001, 1002] (hc x (List.mem_of_getElem? hx) s hsz) rfl rfl rfl rfl rfl fun _ _ => ?_
      refine Fit.in64 (by omega) (by omega) ?_
      exact ⟨(k + 1, s ++ enc x), ⟨hlt, by rw [← hinv]; simp⟩, ⟨nextI, trivial⟩, ⟨.inl ⟨_, rfl, .inl ⟨rfl, rfl⟩⟩, .inl ⟨_, rfl, .inl ⟨rfl, rfl⟩⟩, .inl ⟨_, rfl, .inl ⟨rfl, rfl⟩⟩, trivial⟩, nextM hlt⟩
    · have hge : ¬ k < l.length := by simpa [ics] using hge
      rw [drop_end hge] at hinv
      refine retO [1000, 1001, 1002] rfl rfl ?_ rfl
      simp only [List.flatMap_nil, List.append_nil] at hinv
      subst hinv
      rfl

set_option maxRecDepth 10000 in
theorem t59 {po : Option Prog} {p : C} (hp : PC po p) (bs : List UInt8) (l : List Impl) (enc : Impl → List UInt8) (hc : ∀ x ∈ l, ∀ s : List UInt8, (s ++ enc x).length ≤ 2 ^ 46 → CallsT P 62 [.agg (implC x), .own 1002 0] (WrC p s) (Ret (WrC p (s ++ enc x)) (.tup [])))
    (hb : (bs ++ encL enc l).length ≤ 2 ^ 46) : CallsT P 59 [.own 1000 0, .sl (l.map implC), .fn 62 [] [.own 1002 0]] (WrC p bs) (Ret (WrC p (bs ++ encL enc l)) (.tup [])) := by
  refine callsT_facts Try.func59 facts59 rfl fun hw _ => ?_
  have hn : l.length ≤ 9223372036854775807 := by have := wf_len hw.2.1; simpa [ics] using this
  have hp' := hp
  cases hp
  all_goals
    refine callO [1000, 1001] [1000, 1001] (t55 hp' bs [((l.map implC).length : Int)] ?_) rfl rfl rfl rfl rfl fun _ _ => ?_
    · simp only [encL, List.length_append, List.length_map, List.length_map, encIs, List.flatMap_cons, List.flatMap_nil, List.append_nil] at hb ⊢; omega
    refine loopN l.length 15 [] (bs ++ encI l.length) (fun _ => []) (fun s => WrCL _ s) (fun k s => s ++ (l.drop k).flatMap enc = bs ++ encL enc l) (by simp [encL]) (same_keys rfl) trivial ⟨.inl ⟨_, rfl, .inl ⟨rfl, rfl⟩⟩, .inl ⟨_, rfl, .inl ⟨?_, rfl⟩⟩, .inl ⟨_, rfl, .inl ⟨rfl, rfl⟩⟩, trivial⟩ (fun _ => rfl) (fun _ => rfl) ?_
    · show TO.row 5 1 (bcells (bs ++ encIs [((l.map implC).length : Int)])) = _
      simp [encIs, ics]
    rintro k s hk hinv _ _ _
    refine brn_p (fun hlt => ?_) (fun hge => ?_)
    · have hlt : k < l.length := by simpa [ics] using hlt
      obtain ⟨x, hx, hd⟩ := drop_cons hlt
      rw [hd, List.flatMap_cons] at hinv
      have hsz : (s ++ enc x).length ≤ 2 ^ 46 := by
        rw [← hinv] at hb
        simp only [List.length_append] at hb ⊢
        omega
      refine idxT hx rfl rfl ?_
      refine callO [1000, 1001, 1002] [1000, 1001, 1002] (hc x (List.mem_of_getElem? hx) s hsz) rfl rfl rfl rfl rfl fun _ _ => ?_
      refine Fit.in64 (by omega) (by omega) ?_
      exact ⟨(k + 1, s ++ enc x), ⟨hlt, by rw [← hinv]; simp⟩, ⟨nextI, trivial⟩, ⟨.inl ⟨_, rfl, .inl ⟨rfl, rfl⟩⟩, .inl ⟨_, rfl, .inl ⟨rfl, rfl⟩⟩, .inl ⟨_, rfl, .inl ⟨rfl, rfl⟩⟩, trivial⟩, nextM hlt⟩
    · have hge : ¬ k < l.length := by simpa [ics] using hge
      rw [drop_end hge] at hinv
      refine retO [1000, 1001, 1002] rfl rfl ?_ rfl
      simp only [List.flatMap_nil, List.append_nil] at hinv
      subst hinv
      rfl

end Go.Fr.Try
