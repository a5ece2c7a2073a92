/- Part of the proofs of the statements of this seat. -/
import Derived.Test.YtmbfinlmjclojaaFW1
import Derived.Test.YtmbfinlmjclojaaFW2
import Derived.RangeFuncNested
import Derived.RangeFuncBound
import Derived.RangeFuncCalls
import Derived.RangeFuncLeaves
import Derived.RangeFuncWrites
import Derived.Shelf.Abstract
import Derived.TacticsIn
import Derived.OrdersIn
/- The evaluator over frozen and own blocks speaks of the model's code, where nothing panics. -/
set_option linter.unusedVariables false
set_option linter.unusedSimpArgs false
namespace Go.Fr
open Go Go.RowKit
section
variable {P : Program} {Q : Exit → Act → World → Prop} {K : Kont}
theorem noPan {n : Nat} {F : Frz} {L : Loc} {w : World} {a : Act} {asg : List Nat} {E : Nat → Kont} {R N : Kont} {c} {a' : Act} {w' : World} (h : QQ n F L w a asg (fun _ _ => False) E R N (.panic c) a' w') : False := by
  obtain ⟨v, _, F', L', _, _, _, _, _, h⟩ := h
  exact h
/-- the operations of a region, one after the other -/
theorem evalOps_sound {A : Ann} {r : Nat} {ops : Array Oper} : ∀ (is : List Nat) {ss : List SStep} {F : Frz} {L : Loc} {ρ : Env} {a : Act} {w : World}, lowReg P A r ops is = some ss → St F L w → EnvOk L ρ a → a.tmps.size = A.n →
    evalOps P ss F L ρ K → (∀ a' w', Next2 A.n F L w a (dstsOf ops is) K a' w' → Q .normal a' w') → wpOps P ops Q is a w := by
  intro is
  induction is with
  | nil =>
    intro ss F L ρ a w hl hs he hn hK hQ
    simp only [lowReg, Option.some.injEq] at hl
    subst hl
    exact hQ a w ⟨F, L, ρ, hs, he, hn, rfl, Step.refl _ _ _, fun _ _ => rfl, hK⟩
  | cons i is ih =>
    intro ss F L ρ a w hl hs he hn hK hQ
    simp only [lowReg] at hl
    split at hl
    case h_1 => cases hl
    rename_i o hi
    split at hl
    case h_2 => cases hl
    rename_i g s rest hg hop hdst hrest
    injection hl with hl
    subst hl
    -- the ghosts
    have ghosts : ∀ (ks : List Nat) {F : Frz} {L : Loc} {ρ : Env}, St F L w → EnvOk L ρ a → evalOps P (ks.map SStep.frz ++ mkStep (panAt A.pan r i) o.dst s g :: rest) F L ρ K →
        ∃ F' L' ρ', St F' L' w ∧ EnvOk L' ρ' a ∧ Step F L w F' L' w ∧ evalOps P (mkStep (panAt A.pan r i) o.dst s g :: rest) F' L' ρ' K := by
      intro ks
      induction ks with
      | nil => intro F L ρ hs he h; exact ⟨F, L, ρ, hs, he, Step.refl _ _ _, h⟩
      | cons k ks ihk =>
        intro F L ρ hs he h
        simp only [List.map_cons, List.cons_append, evalOps] at h
        split at h
        · rename_i g' t' cs' hk
          obtain ⟨F1, hle, hg1, hs1, he1, hst1⟩ := frzB_sound hs he hk
          obtain ⟨F2, L2, ρ2, hs2, he2, hst2, h2⟩ := ihk hs1 he1 (h F1 hle hg1)
          exact ⟨F2, L2, ρ2, hs2, he2, hst1.trans hst2, h2⟩
        · obtain ⟨F1, L1, hs1, he1, hst1, h1⟩ := frz_sound hs he h
          obtain ⟨F2, L2, ρ2, hs2, he2, hst2, h2⟩ := ihk hs1 he1 h1
          exact ⟨F2, L2, ρ2, hs2, he2, hst1.trans hst2, h2⟩
    obtain ⟨F1, L1, ρ1, hs1, he1, hst1, hK⟩ := ghosts _ hs he hK
    clear ghosts
    have hpc : panAt A.pan r i = false := by
      cases hb : panAt A.pan r i with
      | false => rfl
      | true => rw [hb] at hK; simp only [mkStep, evalOps] at hK
    rw [hpc] at hK
    simp only [mkStep] at hK
    clear he
    have he := he1
    have hd : ∀ k, o.dst = some k → k < a.tmps.size := by
      intro k hk
      rw [hk] at hdst
      rw [hn]
      have h2 : Nat.blt k A.n = true := hdst
      simpa using h2
    have hdsts : dstsOf ops (i :: is) = match o.dst with | some d => d :: dstsOf ops is | none => dstsOf ops is := by
      simp only [dstsOf, hi, Option.bind_some]
      cases o.dst <;> rfl
    have notin : ∀ j, j ∉ dstsOf ops (i :: is) → o.dst ≠ some j ∧ j ∉ dstsOf ops is := by
      intro j hj
      rw [hdsts] at hj
      cases ho : o.dst with
      | none => rw [ho] at hj; exact ⟨by simp, hj⟩
      | some d =>
        rw [ho] at hj
        simp only [List.mem_cons, not_or] at hj
        exact ⟨by simp; exact fun e => hj.1 e.symm, hj.2⟩
    have goOn : evalOp P s o.dst F1 L1 ρ1 (fun F' L' ρ' => evalOps P rest F' L' ρ' K) → o.wp P a w (wpOps P ops Q is) Q := by
      intro hK
      have := evalOp_sound (Q := Q) hs1 he1 hd hop hK
      refine Oper.wp_mono ?_ (wp_frame (asg := []) this)
      rintro a' w' ⟨⟨F', L', ρ', g1, g2, g3, g4, g5, g6⟩, hfr⟩
      refine ih hrest g1 g2 (by rw [g3, hn]) g6 ?_
      rintro a'' w'' ⟨F'', L'', ρ'', k1, k2, k3, k4, k5, k6, k7⟩
      refine hQ a'' w'' ⟨F'', L'', ρ'', k1, k2, k3, k4.trans g4, (hst1.trans g5).trans k5, fun j hj => ?_, k7⟩
      obtain ⟨n1, n2⟩ := notin j hj
      rw [k6 j n2, hfr j n1]
    have skip : evalOps P rest F1 L1 (put o.dst (.v undef) ρ1) K → wpOps P ops Q is (a.put o.dst undef) w := by
      intro hK
      refine ih hrest hs1 (he1.put hd (v := undef) (x := .v undef) rfl noOwn noEl (boxKeep L1)) (by rw [size_put, hn]) hK ?_
      rintro a'' w'' ⟨F'', L'', ρ'', k1, k2, k3, k4, k5, k6, k7⟩
      refine hQ a'' w'' ⟨F'', L'', ρ'', k1, k2, k3, k4.trans (defers_put _ _ _), hst1.trans k5, fun j hj => ?_, k7⟩
      obtain ⟨n1, n2⟩ := notin j hj
      rw [k6 j n2, put_frame n1]
    simp only [wpOps, hi]
    cases hgd : o.guard with
    | none =>
      rw [hgd] at hg
      simp only [lowGuard, Option.some.injEq] at hg
      subst hg
      simp only [evalOps] at hK
      rw [if_pos (by simp [Region.wanted, hgd])]
      exact .inl (goOn hK)
    | some p =>
      obtain ⟨j, want⟩ := p
      rw [hgd] at hg
      simp only [lowGuard] at hg
      split at hg
      case h_2 => cases hg
      rename_i d hjd
      injection hg with hg
      subst hg
      simp only [evalOps] at hK
      split at hK
      · rename_i b hb
        have htmp := he1.eq d
        rw [hb] at htmp
        have hy : yielded ops a.tmps j = some b := by
          simp only [yielded, hjd, Option.bind_some, getD_bool htmp]
        have hw : Region.wanted o (yielded ops a.tmps) = (b == want) := by
          simp only [Region.wanted, hgd, hy]
          cases b <;> cases want <;> rfl
        rw [hw]
        cases b <;> simp only [brn] at hK
        · rw [put_same hb] at hK
          cases want
          · exact .inl (goOn hK)
          · exact skip hK
        · rw [put_same hb] at hK
          cases want
          · exact skip hK
          · exact .inl (goOn hK)
      · rename_i vs hb
        have htmp := he1.eq d
        rw [hb] at htmp
        have hy : yielded ops a.tmps j = none := by
          simp only [yielded, hjd, Option.bind_some]
          rw [Array.getD_eq_getD_getElem?] at htmp
          cases e : a.tmps[d]? with
          | none => rfl
          | some v => rw [e] at htmp; simp only [Option.getD_some, conc] at htmp; rw [htmp]
        have hw : Region.wanted o (yielded ops a.tmps) = false := by
          simp only [Region.wanted, hgd, hy]; rfl
        rw [hw]
        exact skip hK
      · exact hK.elim

theorem ghosts_sound {a : Act} {w : World} {rest : List SStep} {K : Kont} : ∀ (ks : List Nat) {F : Frz} {L : Loc} {ρ : Env}, St F L w → EnvOk L ρ a → evalOps P (ks.map SStep.frz ++ rest) F L ρ K →
    ∃ F' L' ρ', St F' L' w ∧ EnvOk L' ρ' a ∧ Step F L w F' L' w ∧ evalOps P rest F' L' ρ' K := by
  intro ks
  induction ks with
  | nil => intro F L ρ hs he h; exact ⟨F, L, ρ, hs, he, Step.refl _ _ _, h⟩
  | cons k ks ihk =>
    intro F L ρ hs he h
    simp only [List.map_cons, List.cons_append, evalOps] at h
    split at h
    · rename_i g' t' cs' hk
      obtain ⟨F1, hle, hg1, hs1, he1, hst1⟩ := frzB_sound hs he hk
      obtain ⟨F2, L2, ρ2, hs2, he2, hst2, h2⟩ := ihk hs1 he1 (h F1 hle hg1)
      exact ⟨F2, L2, ρ2, hs2, he2, hst1.trans hst2, h2⟩
    · obtain ⟨F1, L1, hs1, he1, hst1, h1⟩ := frz_sound hs he h
      obtain ⟨F2, L2, ρ2, hs2, he2, hst2, h2⟩ := ihk hs1 he1 h1
      exact ⟨F2, L2, ρ2, hs2, he2, hst1.trans hst2, h2⟩
theorem frzD_sound {ss : List SStep} {E : Nat → Kont} {R N : Kont} {F : Frz} {L : Loc} {ρ : Env} {a : Act} {w : World} : ∀ (ks : List Nat), St F L w → EnvOk L ρ a → evalC P (frzD ks (.regD ss)) E R N F L ρ →
    ∃ F' L' ρ', St F' L' w ∧ EnvOk L' ρ' a ∧ Step F L w F' L' w ∧ evalOps P ss F' L' ρ' N
  | [], hs, he, h => ⟨F, L, ρ, hs, he, Step.refl _ _ _, by simpa only [frzD, evalC] using h⟩
  | k :: l, hs, he, h => by
    simp only [frzD, evalC] at h
    have h' : evalOps P ((k :: l).map SStep.frz ++ []) F L ρ (fun F L ρ => evalOps P ss F L ρ N) := by simpa only [List.map_cons, List.append_nil] using h
    obtain ⟨F1, L1, ρ1, h1, h2, h3, h4⟩ := ghosts_sound (k :: l) hs he h'
    simp only [evalOps] at h4
    exact ⟨F1, L1, ρ1, h1, h2, h3, h4⟩

theorem evalC_sound {A : Ann} : ∀ (c : Code) {sc : SCode}, low P A c = some sc → ∀ {E : Nat → Kont} {R N : Kont} {F : Frz} {L : Loc} {ρ : Env} {a : Act} {w : World}, St F L w → EnvOk L ρ a → a.tmps.size = A.n →
    evalC P sc E R N F L ρ → c.wp P (QQ A.n F L w a (asgOf c) (fun _ _ => False) E R N) a w := by
  intro c
  induction c with
  | skip =>
    intro sc hl E R N F L ρ a w hs he hn hK
    simp only [low, Option.some.injEq] at hl; subst hl
    exact wp_skip ⟨F, L, ρ, hs, he, hn, rfl, Step.refl _ _ _, fun _ _ => rfl, hK⟩
  | label l =>
    intro sc hl E R N F L ρ a w hs he hn hK
    simp only [low, Option.some.injEq] at hl; subst hl
    exact wp_label ⟨F, L, ρ, hs, he, hn, rfl, Step.refl _ _ _, fun _ _ => rfl, hK⟩
  | exit id =>
    intro sc hl E R N F L ρ a w hs he hn hK
    simp only [low, Option.some.injEq] at hl; subst hl
    exact wp_exit ⟨F, L, ρ, hs, he, hn, rfl, Step.refl _ _ _, fun _ _ => rfl, hK⟩
  | ret =>
    intro sc hl E R N F L ρ a w hs he hn hK
    simp only [low, Option.some.injEq] at hl; subst hl
    exact wp_ret ⟨F, L, ρ, hs, he, hn, rfl, Step.refl _ _ _, fun _ _ => rfl, hK⟩
  | region r ops draw =>
    intro sc hl E R N F L ρ a w hs he hn hK
    cases draw with
    | false =>
      simp only [low] at hl
      split at hl
      case h_2 => cases hl
      rename_i ss hss
      injection hl with hl; subst hl
      simp only [evalC] at hK
      exact wp_region (evalOps_sound _ hss hs he hn hK fun a' w' h => h)
    | true =>
      simp only [low] at hl
      split at hl
      case h_2 => cases hl
      rename_i is cl ss h1 h2
      split at hl
      case h_2 => cases hl
      rename_i h3
      injection hl with hl; subst hl
      obtain ⟨F1, L1, ρ1, hs1, he1, hst1, hK⟩ := frzD_sound _ hs he hK
      have h4 : ordIs A.ord r = is := by simp only [ordIs, h1]
      rw [h4] at h2
      exact draw_sound h2 h3 hs1 he1 hn hK fun a' w' h => Next2.after (asg1 := []) hst1 rfl (fun _ _ => rfl) h (fun _ h => absurd h List.not_mem_nil) (fun _ h => h)
  | seq x y ihx ihy =>
    intro sc hl E R N F L ρ a w hs he hn hK
    simp only [low] at hl
    split at hl
    case h_2 => cases hl
    rename_i h1 h2
    injection hl with hl; subst hl
    simp only [evalC] at hK
    refine wp_seq (wp_mono (ihx h1 hs he hn hK) ?_)
    intro e a1 w1 hq
    cases e with
    | normal =>
      obtain ⟨F1, L1, ρ1, g1, g2, g3, g4, g5, g6, g7⟩ := hq
      refine wp_mono (ihy h2 g1 g2 g3 g7) ?_
      intro e2 a2 w2 hq2
      cases e2 <;> first
        | exact Next2.after g5 g4 g6 hq2 (fun j h => List.mem_append.2 (.inl h)) (fun j h => List.mem_append.2 (.inr h))
        | exact hq2
        | exact (noPan hq2).elim
    | exit id => exact hq.mono fun j h => List.mem_append.2 (.inl h)
    | ret => exact hq.mono fun j h => List.mem_append.2 (.inl h)
    | goto l => exact hq
    | panic c => exact (noPan hq).elim
    | outgrown => exact hq
  | cond c x y ihx ihy =>
    intro sc hl E R N F L ρ a w hs he hn hK
    simp only [low] at hl
    split at hl
    case h_2 => cases hl
    rename_i h0 h1 h2
    injection hl with hl; subst hl
    simp only [evalC] at hK
    split at hK
    case h_2 => exact hK.elim
    rename_i t ht
    have hc : a.eval c = .bool t := by rw [lowX_eval h0 he, val_v ht]
    refine wp_cond hc ?_
    cases t
    · simp only [brn] at hK
      refine wp_mono (ihy h2 hs he hn hK) ?_
      intro e a1 w1 hq
      cases e <;> first
        | exact hq.mono fun j h => List.mem_append.2 (.inr h)
        | exact (noPan hq).elim
        | exact hq
    · simp only [brn] at hK
      refine wp_mono (ihx h1 hs he hn hK) ?_
      intro e a1 w1 hq
      cases e <;> first
        | exact hq.mono fun j h => List.mem_append.2 (.inl h)
        | exact (noPan hq).elim
        | exact hq
  | block id x ih =>
    intro sc hl E R N F L ρ a w hs he hn hK
    simp only [low] at hl
    split at hl
    case h_2 => cases hl
    rename_i h1
    injection hl with hl; subst hl
    simp only [evalC] at hK
    refine wp_block (wp_mono (ih h1 hs he hn hK) ?_)
    intro e a1 w1 hq
    cases e with
    | exit j =>
      simp only [Exit.inBlock]
      simp only [QQ] at hq
      by_cases hj : j = id
      · subst hj
        have hb : Nat.beq j j = true := by simp
        rw [hb] at hq
        rw [if_pos rfl]
        exact hq
      · have hb : Nat.beq j id = false := by
          cases h : Nat.beq j id with
          | true => exact absurd (Nat.eq_of_beq_eq_true h) hj
          | false => rfl
        rw [hb] at hq
        rw [if_neg hj]
        exact hq
    | normal => exact hq
    | ret => exact hq
    | goto l => exact hq
    | panic c => exact (noPan hq).elim
    | outgrown => exact hq
  | loop x ih =>
    intro sc hl E R N F L ρ a w hs he hn hK
    simp only [low] at hl
    split at hl
    case h_2 => cases hl
    rename_i sx h1
    injection hl with hl; subst hl
    simp only [evalC] at hK
    obtain ⟨σ, x0, Inv, ls, lv, Lf, μ, i0, i1, i2, i3, i4⟩ := hK
    -- the frame at a loop's head
    have head : ∀ (y : σ) (F1 : Frz) (L1 : Loc) (ρ1 : Env) (a1 : Act) (w1 : World), (∀ t, a1.tmps.getD t undef = conc L1 (ρ1 t)) → (∀ j, j ∉ asgOf x → a1.tmps.getD j undef = a.tmps.getD j undef) → holds ls ((lv y).map .v) ρ1 →
        EnvOk (Lf y) (puts ls ((lv y).map .v) (overJ (asgOf x) (fun j => a1.tmps.getD j undef) ρ)) a1 := by
      intro y F1 L1 ρ1 a1 w1 heq hfr hh
      have base : ∀ j k off, overJ (asgOf x) (fun j => a1.tmps.getD j undef) ρ j = .own k off → j ∉ asgOf x ∧ ρ j = .own k off := by
        intro j k off e
        simp only [overJ] at e
        split at e
        · cases e
        · rename_i hm
          exact ⟨fun h => (by rw [mem?_eq.2 h] at hm; cases hm), e⟩
      have bel : ∀ j ad i, overJ (asgOf x) (fun j => a1.tmps.getD j undef) ρ j = .el ad i → ρ j = .el ad i := by
        intro j ad i e
        simp only [overJ] at e
        split at e
        · cases e
        · exact e
      refine ⟨fun j => ?_, fun j k off e => ?_, fun j ad i e => ?_⟩
      · rcases holds_puts ls (lv y) ρ1 (overJ (asgOf x) (fun j => a1.tmps.getD j undef) ρ) heq hh j with ⟨v, h2, h3⟩ | h2
        · rw [h2, h3]; rfl
        · rw [h2]
          simp only [overJ]
          split
          · rfl
          · rename_i hm
            have hj : j ∉ asgOf x := fun h => by rw [mem?_eq.2 h] at hm; cases hm
            rw [hfr j hj, he.eq j]
            cases e : ρ j with
            | v u => rfl
            | el u i => rfl
            | own k off =>
              obtain ⟨g, ty, cs, hg⟩ := he.own j k off e
              obtain ⟨cs', hg'⟩ := keeps_get (i3 y) hg
              simp only [conc, hg, hg']
      · rcases puts_get_env ls (lv y) (overJ (asgOf x) (fun j => a1.tmps.getD j undef) ρ) j with h2 | ⟨v, h2⟩
        · rw [h2] at e
          obtain ⟨_, e'⟩ := base j k off e
          obtain ⟨g, ty, cs, hg⟩ := he.own j k off e'
          obtain ⟨cs', hg'⟩ := keeps_get (i3 y) hg
          exact ⟨g, ty, cs', hg'⟩
        · rw [h2] at e; cases e
      · rcases puts_get_env ls (lv y) (overJ (asgOf x) (fun j => a1.tmps.getD j undef) ρ) j with h2 | ⟨v, h2⟩
        · rw [h2] at e
          exact he.el j ad i (bel j ad i e)
        · rw [h2] at e; cases e
    refine wp_loop_n (fun n a1 w1 => ∃ (y : σ) (F1 : Frz), n = μ y ∧ F.le F1 ∧ Inv y F1 ∧ St F1 (Lf y) w1 ∧ a1.tmps.size = A.n ∧ a1.defers = a.defers ∧ Step F L w F1 (Lf y) w1 ∧ (∀ j, j ∉ asgOf x → a1.tmps.getD j undef = a.tmps.getD j undef) ∧
      EnvOk (Lf y) (puts ls ((lv y).map .v) (overJ (asgOf x) (fun j => a1.tmps.getD j undef) ρ)) a1) ?_ ?_
    · exact ⟨_, x0, F, rfl, Frz.le_refl F, i0, hs.gives i2, hn, rfl, gives_step i2, fun _ _ => rfl, head x0 F L ρ a w he.eq (fun _ _ => rfl) i1⟩
    · rintro n a1 w1 ⟨y, F1, rfl, hle, hinv, hs1, hn1, hd1, hst1, hfr1, he1⟩
      refine wp_mono (ih h1 hs1 he1 hn1 (i4 y F1 _ hle hinv)) ?_
      intro e a2 w2 hq
      cases e with
      | normal =>
        obtain ⟨F2, L2, ρ2, g1, g2, g3, g4, g5, g6, ⟨y', k1, k2, k3, k4⟩⟩ := hq
        have hfr2 : ∀ j, j ∉ asgOf x → a2.tmps.getD j undef = a.tmps.getD j undef := fun j hj => by rw [g6 j hj, hfr1 j hj]
        exact ⟨μ y', k4, y', F2, rfl, Frz.le_trans hle g5.le, k1, g1.gives k3, g3, g4.trans hd1, (hst1.trans g5).trans (gives_step k3), hfr2, head y' F2 L2 ρ2 a2 w2 g2.eq hfr2 k2⟩
      | exit j => exact Next2.after hst1 hd1 hfr1 hq (fun j h => h) (fun j h => h)
      | ret => exact Next2.after hst1 hd1 hfr1 hq (fun j h => h) (fun j h => h)
      | goto l => exact hq
      | panic c => exact (noPan hq).elim
      | outgrown => exact hq
  | rangeFunc f ps x y ihx ihy => intro sc hl; simp only [low] at hl; cases hl
  | scope x ih => intro sc hl; simp only [low] at hl; cases hl
  | goto l => intro sc hl; simp only [low] at hl; cases hl
  | refuse why => intro sc hl; simp only [low] at hl; cases hl

/-- a function's contract, out of the evaluator's word on its code -/
theorem callsA_of {f : FuncId} {fn : Func} {c : Code} {sc : SCode} {A : Ann} {rs : List RV} {F : Frz} {Lin : List Own} {R : Frz → List Own → Value → Prop} (svs : List SV)
    (hf : P.funcs[f]? = some fn) (hb : fn.body = some c) (hname : (fn.name == "runtime.NumGoroutine") = false) (hl : low P A c = some sc) (hn : fn.ntmps = A.n) (hres : resOk P fn.results.toList = some rs) (hlen : svs.length ≤ A.n)
    (hown : ∀ v ∈ svs, (∀ k off, v = .own k off → ∃ g ty cs, (inp Lin).get k = some (.box g ty cs)) ∧ (∀ ad j, v = .el ad j → ad ≠ none))
    (hmono : ∀ F G L v, F.le G → R F L v → R G L v)
    (h : evalC P sc (fun _ _ _ _ => False) (fun F' L' ρ' => retV L' ρ' rs fun vs => RetPt F' L' (resVal vs) R) (fun F' L' ρ' => retV L' ρ' rs fun vs => RetPt F' L' (resVal vs) R) F (inp Lin) (argE 0 svs)) :
    CallsA P f (svs.map (conc (inp Lin))).toArray F Lin R := by
  refine ⟨⟨fn, hf, by rw [hb]; rfl, hname⟩, hmono, fun w hs => ?_⟩
  refine calls_of_wp hf hb ?_
  have he : EnvOk (inp Lin) (argE 0 svs) { tmps := (svs.map (conc (inp Lin))).toArray ++ Array.replicate (fn.ntmps - (svs.map (conc (inp Lin))).toArray.size) undef, defers := [] } := by
    have hin : ∀ t, argE 0 svs t = .v undef ∨ argE 0 svs t ∈ svs := by
      intro t
      rw [argE_get]
      simp only [Nat.zero_le, if_true, Nat.sub_zero]
      cases e : svs[t]? with
      | none => exact .inl rfl
      | some v => exact .inr (List.mem_of_getElem? e)
    refine ⟨fun t => ?_, fun t k off e => ?_, fun t ad j e => ?_⟩
    · rw [argE_get]
      simp only [Nat.zero_le, if_true, Nat.sub_zero, Array.getD_eq_getD_getElem?]
      cases e : svs[t]? with
      | some v =>
        have hlt : t < svs.length := (List.getElem?_eq_some_iff.1 e).1
        rw [Array.getElem?_append_left (by simpa using hlt)]
        simp [e]
      | none =>
        have hge : svs.length ≤ t := List.getElem?_eq_none_iff.1 e
        rw [Array.getElem?_append_right (by simpa using hge)]
        simp only [Array.getElem?_replicate, Option.getD_none, conc]
        split <;> rfl
    · rcases hin t with h1 | h1
      · rw [h1] at e; cases e
      · exact (hown _ h1).1 k off e
    · rcases hin t with h1 | h1
      · rw [h1] at e; cases e
      · exact (hown _ h1).2 ad j e
  refine wp_mono (evalC_sound c hl hs he (by simp [hn]; omega) h) ?_
  intro e a' w' hq
  have fin : ∀ {a0 : Act}, Next2 A.n F (inp Lin) w a0 (asgOf c) (fun F' L' ρ' => retV L' ρ' rs fun vs => RetPt F' L' (resVal vs) R) a' w' → a'.defers = a0.defers ∧ ∃ v, (results fn a'.tmps).run P w' = .ok v w' ∧
      ∃ v' F' Lo, Ending.returned v = .returned v' ∧ St F' (inp Lo) w' ∧ Step F (inp Lin) w F' (inp Lo) w' ∧ R F' Lo v' := by
    rintro a0 ⟨F', L', ρ', g1, g2, g3, g4, g5, g6, hret⟩
    obtain ⟨vs, hm, ⟨ko, Lo, k1, k2, k3⟩⟩ := retV_run g1 g2 hres hret
    refine ⟨g4, resVal vs, ?_, resVal vs, F', Lo, rfl, g1.handed k1 k2, ?_, k3⟩
    · rw [results_eq]
      rw [Array.mapM_eq_mapM_toList]
      simp only [Sem.run_bind, Sem.run_map]
      rw [hm]
      simp only [Result.andThen_ok, Sem.run_pure]
      congr 1
      match vs with
      | [] => rfl
      | [t] => rfl
      | t :: u :: r =>
        simp only [resVal]
        rw [dif_neg (by simp)]
    · obtain ⟨e1, e2⟩ := sub_get k1
      refine ⟨g5.le, g5.os, g5.tape, g5.output, g5.size, g5.same, g5.frz, fun b hb => g5.own b ?_⟩
      obtain ⟨j, p, e, hb⟩ := hb
      rw [inp_get] at e
      split at e
      case isFalse => cases e
      have hlt : j - 1000 < Lo.length := (List.getElem?_eq_some_iff.1 e).1
      have hk : ko[j - 1000]? = some (ko[j - 1000]'(by omega)) := List.getElem?_eq_getElem (by omega)
      exact ⟨_, p, by rw [e2 _ _ hk]; exact e, hb⟩
  cases e with
  | normal => exact fin hq
  | ret => exact fin hq
  | exit j => obtain ⟨F', L', ρ', _, _, _, _, _, _, h⟩ := hq; exact h.elim
  | goto l => exact hq.elim
  | panic c => exact (noPan hq).elim
  | outgrown => exact hq.elim

theorem callsA_facts {f : FuncId} {fn : Func} {sc : SCode} {A : Ann} {rs : List RV} {F : Frz} {Lin : List Own} {R : Frz → List Own → Value → Prop} {args : Array Value} (svs : List SV)
    (hf : P.funcs[f]? = some fn) (hfacts : factsOf P A fn = some (sc, A.n, rs, false)) (hlen : Nat.ble svs.length A.n = true) (hargs : args = (svs.map (conc (inp Lin))).toArray)
    (hown : ∀ v ∈ svs, (∀ k off, v = .own k off → ∃ g ty cs, (inp Lin).get k = some (.box g ty cs)) ∧ (∀ ad j, v = .el ad j → ad ≠ none))
    (hmono : ∀ F G L v, F.le G → R F L v → R G L v)
    (h : evalC P sc (fun _ _ _ _ => False) (fun F' L' ρ' => retV L' ρ' rs fun vs => RetPt F' L' (resVal vs) R) (fun F' L' ρ' => retV L' ρ' rs fun vs => RetPt F' L' (resVal vs) R) F (inp Lin) (argE 0 svs)) :
    CallsA P f args F Lin R := by
  subst hargs
  unfold factsOf at hfacts
  split at hfacts
  case h_2 => cases hfacts
  rename_i c hb
  split at hfacts
  case h_2 => cases hfacts
  rename_i sc' rs' h1 h2
  injection hfacts with hfacts
  injection hfacts with e1 e2
  injection e2 with e2 e3
  injection e3 with e3 e4
  subst e1 e3
  exact callsA_of svs hf hb e4 h1 e2 h2 (Nat.le_of_ble_eq_true hlen) hown hmono h
end
end Go.Fr

/- The evaluator over frozen and own blocks, with loops at whose head own rows may go by other keys. -/
set_option linter.unusedVariables false
set_option linter.unusedSimpArgs false
namespace Go.Fr
open Go Go.RowKit
/-- each entry is there, under some key, no two under the same; or it is an empty row -/
def Loc.givesR (L L' : Loc) : Prop := ∃ r : Nat → Nat, (∀ k o, L'.get k = some o → L.get (r k) = some o ∨ ∃ t sz, o = .row (.slice none 0 0) t sz 0 []) ∧ ∀ k k', (L'.get k).isSome = true → (L'.get k').isSome = true → r k = r k' → k = k'
theorem givesR_of {L L' : Loc} (h : L.gives L') : L.givesR L' :=
  ⟨id, fun k o e => (gives_get h e).imp id fun h => h.2, fun _ _ _ _ h => h⟩
section
variable {F : Frz} {L : Loc} {w : World}
theorem St.givesR {L' : Loc} (hs : St F L w) (h : L.givesR L') : St F L' w := by
  obtain ⟨r, h, hi⟩ := h
  refine ⟨hs.frz, fun k o e => ?_, fun k o g e hb => ?_, fun k k' o o' g e e' hb hb' => ?_⟩
  · rcases h k o e with h1 | ⟨t, sz, rfl⟩
    · exact hs.own _ o h1
    · exact World.ownsRow_nil w 0 t sz
  · rcases h k o e with h1 | ⟨t, sz, rfl⟩
    · exact hs.off _ o g h1 hb
    · cases hb
  · rcases h k o e with h1 | ⟨t, sz, rfl⟩
    · rcases h k' o' e' with h1' | ⟨t', sz', rfl⟩
      · exact hi k k' (by rw [e]; rfl) (by rw [e']; rfl) (hs.sep _ _ o o' g h1 h1' hb hb')
      · cases hb'
    · cases hb
theorem givesR_step {L' : Loc} (h : L.givesR L') : Step F L w F L' w := by
  obtain ⟨r, h, hi⟩ := h
  exact ⟨Frz.le_refl F, rfl, rfl, rfl, Nat.le_refl _, fun _ _ _ => rfl, fun b h => .inl h, fun b ⟨k, o, e, hb⟩ => by
    rcases h k o e with h1 | ⟨t, sz, rfl⟩
    · exact .inl ⟨_, o, h1, hb⟩
    · cases hb⟩
end
structure LoopPt2 (body : Frz → Loc → Env → Kont → Prop) (asg : List Nat) (F : Frz) (L : Loc) (ρ : Env) : Prop where
  out : ∃ (σ : Type) (x0 : σ) (Inv : σ → Frz → Prop) (ls : List Nat) (lv : σ → List Value) (Lf : σ → Loc) (μ : σ → Nat),
    Inv x0 F ∧ holds ls ((lv x0).map .v) ρ ∧ L.givesR (Lf x0) ∧ (∀ x, L.keeps (Lf x)) ∧
    ∀ x F' jk, F.le F' → Inv x F' → Real F' (Lf x) → body F' (Lf x) (puts ls ((lv x).map .v) (overJ asg jk ρ)) fun F'' L'' ρ'' =>
      ∃ x', Inv x' F'' ∧ holds ls ((lv x').map .v) ρ'' ∧ L''.givesR (Lf x') ∧ μ x' < μ x

def evalC2 (P : Program) : SCode → (Nat → Kont) → Kont → Kont → Kont
  | .skip, _, _, N, F, L, ρ => N F L ρ
  | .reg ops, _, _, N, F, L, ρ => evalOps P ops F L ρ N
  | .regD ops, _, _, N, F, L, ρ => evalOps P ops F L ρ N
  | .seq a b, E, R, N, F, L, ρ => evalC2 P a E R (fun F L ρ => evalC2 P b E R N F L ρ) F L ρ
  | .cond c a b, E, R, N, F, L, ρ => match ev ρ c with
    | .v (.bool t) => brn t (evalC2 P a E R N F L ρ) (evalC2 P b E R N F L ρ)
    | _ => False
  | .block id c, E, R, N, F, L, ρ => evalC2 P c (fun j => match Nat.beq j id with | true => N | false => E j) R N F L ρ
  | .loop asg c, E, R, _, F, L, ρ => LoopPt2 (fun F L ρ K => evalC2 P c E R K F L ρ) asg F L ρ
  | .exit id, E, _, _, F, L, ρ => E id F L ρ
  | .ret, _, R, _, F, L, ρ => R F L ρ

section
variable {P : Program} {Q : Exit → Act → World → Prop} {K : Kont}
theorem frzD2_sound {ss : List SStep} {E : Nat → Kont} {R N : Kont} {F : Frz} {L : Loc} {ρ : Env} {a : Act} {w : World} : ∀ (ks : List Nat), St F L w → EnvOk L ρ a → evalC2 P (frzD ks (.regD ss)) E R N F L ρ →
    ∃ F' L' ρ', St F' L' w ∧ EnvOk L' ρ' a ∧ Step F L w F' L' w ∧ evalOps P ss F' L' ρ' N
  | [], hs, he, h => ⟨F, L, ρ, hs, he, Step.refl _ _ _, by simpa only [frzD, evalC2] using h⟩
  | k :: l, hs, he, h => by
    simp only [frzD, evalC2] at h
    have h' : evalOps P ((k :: l).map SStep.frz ++ []) F L ρ (fun F L ρ => evalOps P ss F L ρ N) := by simpa only [List.map_cons, List.append_nil] using h
    obtain ⟨F1, L1, ρ1, h1, h2, h3, h4⟩ := ghosts_sound (k :: l) hs he h'
    simp only [evalOps] at h4
    exact ⟨F1, L1, ρ1, h1, h2, h3, h4⟩

theorem evalC2_sound {A : Ann} : ∀ (c : Code) {sc : SCode}, low P A c = some sc → ∀ {E : Nat → Kont} {R N : Kont} {F : Frz} {L : Loc} {ρ : Env} {a : Act} {w : World}, St F L w → EnvOk L ρ a → a.tmps.size = A.n →
    evalC2 P sc E R N F L ρ → c.wp P (QQ A.n F L w a (asgOf c) (fun _ _ => False) E R N) a w := by
  intro c
  induction c with
  | skip =>
    intro sc hl E R N F L ρ a w hs he hn hK
    simp only [low, Option.some.injEq] at hl; subst hl
    exact wp_skip ⟨F, L, ρ, hs, he, hn, rfl, Step.refl _ _ _, fun _ _ => rfl, hK⟩
  | label l =>
    intro sc hl E R N F L ρ a w hs he hn hK
    simp only [low, Option.some.injEq] at hl; subst hl
    exact wp_label ⟨F, L, ρ, hs, he, hn, rfl, Step.refl _ _ _, fun _ _ => rfl, hK⟩
  | exit id =>
    intro sc hl E R N F L ρ a w hs he hn hK
    simp only [low, Option.some.injEq] at hl; subst hl
    exact wp_exit ⟨F, L, ρ, hs, he, hn, rfl, Step.refl _ _ _, fun _ _ => rfl, hK⟩
  | ret =>
    intro sc hl E R N F L ρ a w hs he hn hK
    simp only [low, Option.some.injEq] at hl; subst hl
    exact wp_ret ⟨F, L, ρ, hs, he, hn, rfl, Step.refl _ _ _, fun _ _ => rfl, hK⟩
  | region r ops draw =>
    intro sc hl E R N F L ρ a w hs he hn hK
    cases draw with
    | false =>
      simp only [low] at hl
      split at hl
      case h_2 => cases hl
      rename_i ss hss
      injection hl with hl; subst hl
      simp only [evalC2] at hK
      exact wp_region (evalOps_sound _ hss hs he hn hK fun a' w' h => h)
    | true =>
      simp only [low] at hl
      split at hl
      case h_2 => cases hl
      rename_i is cl ss h1 h2
      split at hl
      case h_2 => cases hl
      rename_i h3
      injection hl with hl; subst hl
      obtain ⟨F1, L1, ρ1, hs1, he1, hst1, hK⟩ := frzD2_sound _ hs he hK
      have h4 : ordIs A.ord r = is := by simp only [ordIs, h1]
      rw [h4] at h2
      exact draw_sound h2 h3 hs1 he1 hn hK fun a' w' h => Next2.after (asg1 := []) hst1 rfl (fun _ _ => rfl) h (fun _ h => absurd h List.not_mem_nil) (fun _ h => h)
  | seq x y ihx ihy =>
    intro sc hl E R N F L ρ a w hs he hn hK
    simp only [low] at hl
    split at hl
    case h_2 => cases hl
    rename_i h1 h2
    injection hl with hl; subst hl
    simp only [evalC2] at hK
    refine wp_seq (wp_mono (ihx h1 hs he hn hK) ?_)
    intro e a1 w1 hq
    cases e with
    | normal =>
      obtain ⟨F1, L1, ρ1, g1, g2, g3, g4, g5, g6, g7⟩ := hq
      refine wp_mono (ihy h2 g1 g2 g3 g7) ?_
      intro e2 a2 w2 hq2
      cases e2 <;> first
        | exact Next2.after g5 g4 g6 hq2 (fun j h => List.mem_append.2 (.inl h)) (fun j h => List.mem_append.2 (.inr h))
        | exact hq2
        | exact (noPan hq2).elim
    | exit id => exact hq.mono fun j h => List.mem_append.2 (.inl h)
    | ret => exact hq.mono fun j h => List.mem_append.2 (.inl h)
    | goto l => exact hq
    | panic c => exact (noPan hq).elim
    | outgrown => exact hq
  | cond c x y ihx ihy =>
    intro sc hl E R N F L ρ a w hs he hn hK
    simp only [low] at hl
    split at hl
    case h_2 => cases hl
    rename_i h0 h1 h2
    injection hl with hl; subst hl
    simp only [evalC2] at hK
    split at hK
    case h_2 => exact hK.elim
    rename_i t ht
    have hc : a.eval c = .bool t := by rw [lowX_eval h0 he, val_v ht]
    refine wp_cond hc ?_
    cases t
    · simp only [brn] at hK
      refine wp_mono (ihy h2 hs he hn hK) ?_
      intro e a1 w1 hq
      cases e <;> first
        | exact hq.mono fun j h => List.mem_append.2 (.inr h)
        | exact (noPan hq).elim
        | exact hq
    · simp only [brn] at hK
      refine wp_mono (ihx h1 hs he hn hK) ?_
      intro e a1 w1 hq
      cases e <;> first
        | exact hq.mono fun j h => List.mem_append.2 (.inl h)
        | exact (noPan hq).elim
        | exact hq
  | block id x ih =>
    intro sc hl E R N F L ρ a w hs he hn hK
    simp only [low] at hl
    split at hl
    case h_2 => cases hl
    rename_i h1
    injection hl with hl; subst hl
    simp only [evalC2] at hK
    refine wp_block (wp_mono (ih h1 hs he hn hK) ?_)
    intro e a1 w1 hq
    cases e with
    | exit j =>
      simp only [Exit.inBlock]
      simp only [QQ] at hq
      by_cases hj : j = id
      · subst hj
        have hb : Nat.beq j j = true := by simp
        rw [hb] at hq
        rw [if_pos rfl]
        exact hq
      · have hb : Nat.beq j id = false := by
          cases h : Nat.beq j id with
          | true => exact absurd (Nat.eq_of_beq_eq_true h) hj
          | false => rfl
        rw [hb] at hq
        rw [if_neg hj]
        exact hq
    | normal => exact hq
    | ret => exact hq
    | goto l => exact hq
    | panic c => exact (noPan hq).elim
    | outgrown => exact hq
  | loop x ih =>
    intro sc hl E R N F L ρ a w hs he hn hK
    simp only [low] at hl
    split at hl
    case h_2 => cases hl
    rename_i sx h1
    injection hl with hl; subst hl
    simp only [evalC2] at hK
    obtain ⟨σ, x0, Inv, ls, lv, Lf, μ, i0, i1, i2, i3, i4⟩ := hK
    -- the frame at a loop's head
    have head : ∀ (y : σ) (F1 : Frz) (L1 : Loc) (ρ1 : Env) (a1 : Act) (w1 : World), (∀ t, a1.tmps.getD t undef = conc L1 (ρ1 t)) → (∀ j, j ∉ asgOf x → a1.tmps.getD j undef = a.tmps.getD j undef) → holds ls ((lv y).map .v) ρ1 →
        EnvOk (Lf y) (puts ls ((lv y).map .v) (overJ (asgOf x) (fun j => a1.tmps.getD j undef) ρ)) a1 := by
      intro y F1 L1 ρ1 a1 w1 heq hfr hh
      have base : ∀ j k off, overJ (asgOf x) (fun j => a1.tmps.getD j undef) ρ j = .own k off → j ∉ asgOf x ∧ ρ j = .own k off := by
        intro j k off e
        simp only [overJ] at e
        split at e
        · cases e
        · rename_i hm
          exact ⟨fun h => (by rw [mem?_eq.2 h] at hm; cases hm), e⟩
      have bel : ∀ j ad i, overJ (asgOf x) (fun j => a1.tmps.getD j undef) ρ j = .el ad i → ρ j = .el ad i := by
        intro j ad i e
        simp only [overJ] at e
        split at e
        · cases e
        · exact e
      refine ⟨fun j => ?_, fun j k off e => ?_, fun j ad i e => ?_⟩
      · rcases holds_puts ls (lv y) ρ1 (overJ (asgOf x) (fun j => a1.tmps.getD j undef) ρ) heq hh j with ⟨v, h2, h3⟩ | h2
        · rw [h2, h3]; rfl
        · rw [h2]
          simp only [overJ]
          split
          · rfl
          · rename_i hm
            have hj : j ∉ asgOf x := fun h => by rw [mem?_eq.2 h] at hm; cases hm
            rw [hfr j hj, he.eq j]
            cases e : ρ j with
            | v u => rfl
            | el u i => rfl
            | own k off =>
              obtain ⟨g, ty, cs, hg⟩ := he.own j k off e
              obtain ⟨cs', hg'⟩ := keeps_get (i3 y) hg
              simp only [conc, hg, hg']
      · rcases puts_get_env ls (lv y) (overJ (asgOf x) (fun j => a1.tmps.getD j undef) ρ) j with h2 | ⟨v, h2⟩
        · rw [h2] at e
          obtain ⟨_, e'⟩ := base j k off e
          obtain ⟨g, ty, cs, hg⟩ := he.own j k off e'
          obtain ⟨cs', hg'⟩ := keeps_get (i3 y) hg
          exact ⟨g, ty, cs', hg'⟩
        · rw [h2] at e; cases e
      · rcases puts_get_env ls (lv y) (overJ (asgOf x) (fun j => a1.tmps.getD j undef) ρ) j with h2 | ⟨v, h2⟩
        · rw [h2] at e
          exact he.el j ad i (bel j ad i e)
        · rw [h2] at e; cases e
    refine wp_loop_n (fun n a1 w1 => ∃ (y : σ) (F1 : Frz), n = μ y ∧ F.le F1 ∧ Inv y F1 ∧ St F1 (Lf y) w1 ∧ a1.tmps.size = A.n ∧ a1.defers = a.defers ∧ Step F L w F1 (Lf y) w1 ∧ (∀ j, j ∉ asgOf x → a1.tmps.getD j undef = a.tmps.getD j undef) ∧
      EnvOk (Lf y) (puts ls ((lv y).map .v) (overJ (asgOf x) (fun j => a1.tmps.getD j undef) ρ)) a1) ?_ ?_
    · exact ⟨_, x0, F, rfl, Frz.le_refl F, i0, hs.givesR i2, hn, rfl, givesR_step i2, fun _ _ => rfl, head x0 F L ρ a w he.eq (fun _ _ => rfl) i1⟩
    · rintro n a1 w1 ⟨y, F1, rfl, hle, hinv, hs1, hn1, hd1, hst1, hfr1, he1⟩
      refine wp_mono (ih h1 hs1 he1 hn1 (i4 y F1 _ hle hinv ⟨w1, hs1⟩)) ?_
      intro e a2 w2 hq
      cases e with
      | normal =>
        obtain ⟨F2, L2, ρ2, g1, g2, g3, g4, g5, g6, ⟨y', k1, k2, k3, k4⟩⟩ := hq
        have hfr2 : ∀ j, j ∉ asgOf x → a2.tmps.getD j undef = a.tmps.getD j undef := fun j hj => by rw [g6 j hj, hfr1 j hj]
        exact ⟨μ y', k4, y', F2, rfl, Frz.le_trans hle g5.le, k1, g1.givesR k3, g3, g4.trans hd1, (hst1.trans g5).trans (givesR_step k3), hfr2, head y' F2 L2 ρ2 a2 w2 g2.eq hfr2 k2⟩
      | exit j => exact Next2.after hst1 hd1 hfr1 hq (fun j h => h) (fun j h => h)
      | ret => exact Next2.after hst1 hd1 hfr1 hq (fun j h => h) (fun j h => h)
      | goto l => exact hq
      | panic c => exact (noPan hq).elim
      | outgrown => exact hq
  | rangeFunc f ps x y ihx ihy => intro sc hl; simp only [low] at hl; cases hl
  | scope x ih => intro sc hl; simp only [low] at hl; cases hl
  | goto l => intro sc hl; simp only [low] at hl; cases hl
  | refuse why => intro sc hl; simp only [low] at hl; cases hl

/-- a function's contract, out of the evaluator's word on its code -/
theorem callsA2_of {f : FuncId} {fn : Func} {c : Code} {sc : SCode} {A : Ann} {rs : List RV} {F : Frz} {Lin : List Own} {R : Frz → List Own → Value → Prop} (svs : List SV)
    (hf : P.funcs[f]? = some fn) (hb : fn.body = some c) (hname : (fn.name == "runtime.NumGoroutine") = false) (hl : low P A c = some sc) (hn : fn.ntmps = A.n) (hres : resOk P fn.results.toList = some rs) (hlen : svs.length ≤ A.n)
    (hown : ∀ v ∈ svs, (∀ k off, v = .own k off → ∃ g ty cs, (inp Lin).get k = some (.box g ty cs)) ∧ (∀ ad j, v = .el ad j → ad ≠ none))
    (hmono : ∀ F G L v, F.le G → R F L v → R G L v)
    (h : evalC2 P sc (fun _ _ _ _ => False) (fun F' L' ρ' => retV L' ρ' rs fun vs => RetPt F' L' (resVal vs) R) (fun F' L' ρ' => retV L' ρ' rs fun vs => RetPt F' L' (resVal vs) R) F (inp Lin) (argE 0 svs)) :
    CallsA P f (svs.map (conc (inp Lin))).toArray F Lin R := by
  refine ⟨⟨fn, hf, by rw [hb]; rfl, hname⟩, hmono, fun w hs => ?_⟩
  refine calls_of_wp hf hb ?_
  have he : EnvOk (inp Lin) (argE 0 svs) { tmps := (svs.map (conc (inp Lin))).toArray ++ Array.replicate (fn.ntmps - (svs.map (conc (inp Lin))).toArray.size) undef, defers := [] } := by
    have hin : ∀ t, argE 0 svs t = .v undef ∨ argE 0 svs t ∈ svs := by
      intro t
      rw [argE_get]
      simp only [Nat.zero_le, if_true, Nat.sub_zero]
      cases e : svs[t]? with
      | none => exact .inl rfl
      | some v => exact .inr (List.mem_of_getElem? e)
    refine ⟨fun t => ?_, fun t k off e => ?_, fun t ad j e => ?_⟩
    · rw [argE_get]
      simp only [Nat.zero_le, if_true, Nat.sub_zero, Array.getD_eq_getD_getElem?]
      cases e : svs[t]? with
      | some v =>
        have hlt : t < svs.length := (List.getElem?_eq_some_iff.1 e).1
        rw [Array.getElem?_append_left (by simpa using hlt)]
        simp [e]
      | none =>
        have hge : svs.length ≤ t := List.getElem?_eq_none_iff.1 e
        rw [Array.getElem?_append_right (by simpa using hge)]
        simp only [Array.getElem?_replicate, Option.getD_none, conc]
        split <;> rfl
    · rcases hin t with h1 | h1
      · rw [h1] at e; cases e
      · exact (hown _ h1).1 k off e
    · rcases hin t with h1 | h1
      · rw [h1] at e; cases e
      · exact (hown _ h1).2 ad j e
  refine wp_mono (evalC2_sound c hl hs he (by simp [hn]; omega) h) ?_
  intro e a' w' hq
  have fin : ∀ {a0 : Act}, Next2 A.n F (inp Lin) w a0 (asgOf c) (fun F' L' ρ' => retV L' ρ' rs fun vs => RetPt F' L' (resVal vs) R) a' w' → a'.defers = a0.defers ∧ ∃ v, (results fn a'.tmps).run P w' = .ok v w' ∧
      ∃ v' F' Lo, Ending.returned v = .returned v' ∧ St F' (inp Lo) w' ∧ Step F (inp Lin) w F' (inp Lo) w' ∧ R F' Lo v' := by
    rintro a0 ⟨F', L', ρ', g1, g2, g3, g4, g5, g6, hret⟩
    obtain ⟨vs, hm, ⟨ko, Lo, k1, k2, k3⟩⟩ := retV_run g1 g2 hres hret
    refine ⟨g4, resVal vs, ?_, resVal vs, F', Lo, rfl, g1.handed k1 k2, ?_, k3⟩
    · rw [results_eq]
      rw [Array.mapM_eq_mapM_toList]
      simp only [Sem.run_bind, Sem.run_map]
      rw [hm]
      simp only [Result.andThen_ok, Sem.run_pure]
      congr 1
      match vs with
      | [] => rfl
      | [t] => rfl
      | t :: u :: r =>
        simp only [resVal]
        rw [dif_neg (by simp)]
    · obtain ⟨e1, e2⟩ := sub_get k1
      refine ⟨g5.le, g5.os, g5.tape, g5.output, g5.size, g5.same, g5.frz, fun b hb => g5.own b ?_⟩
      obtain ⟨j, p, e, hb⟩ := hb
      rw [inp_get] at e
      split at e
      case isFalse => cases e
      have hlt : j - 1000 < Lo.length := (List.getElem?_eq_some_iff.1 e).1
      have hk : ko[j - 1000]? = some (ko[j - 1000]'(by omega)) := List.getElem?_eq_getElem (by omega)
      exact ⟨_, p, by rw [e2 _ _ hk]; exact e, hb⟩
  cases e with
  | normal => exact fin hq
  | ret => exact fin hq
  | exit j => obtain ⟨F', L', ρ', _, _, _, _, _, _, h⟩ := hq; exact h.elim
  | goto l => exact hq.elim
  | panic c => exact (noPan hq).elim
  | outgrown => exact hq.elim

theorem callsA2_facts {f : FuncId} {fn : Func} {sc : SCode} {A : Ann} {rs : List RV} {F : Frz} {Lin : List Own} {R : Frz → List Own → Value → Prop} {args : Array Value} (svs : List SV)
    (hf : P.funcs[f]? = some fn) (hfacts : factsOf P A fn = some (sc, A.n, rs, false)) (hlen : Nat.ble svs.length A.n = true) (hargs : args = (svs.map (conc (inp Lin))).toArray)
    (hown : ∀ v ∈ svs, (∀ k off, v = .own k off → ∃ g ty cs, (inp Lin).get k = some (.box g ty cs)) ∧ (∀ ad j, v = .el ad j → ad ≠ none))
    (hmono : ∀ F G L v, F.le G → R F L v → R G L v)
    (h : evalC2 P sc (fun _ _ _ _ => False) (fun F' L' ρ' => retV L' ρ' rs fun vs => RetPt F' L' (resVal vs) R) (fun F' L' ρ' => retV L' ρ' rs fun vs => RetPt F' L' (resVal vs) R) F (inp Lin) (argE 0 svs)) :
    CallsA P f args F Lin R := by
  subst hargs
  unfold factsOf at hfacts
  split at hfacts
  case h_2 => cases hfacts
  rename_i c hb
  split at hfacts
  case h_2 => cases hfacts
  rename_i sc' rs' h1 h2
  injection hfacts with hfacts
  injection hfacts with e1 e2
  injection e2 with e2 e3
  injection e3 with e3 e4
  subst e1 e3
  exact callsA2_of svs hf hb e4 h1 e2 h2 (Nat.le_of_ble_eq_true hlen) hown hmono h
end
end Go.Fr

/- What a walk over addresses uses: data and cells. -/
set_option linter.unusedVariables false
set_option linter.unusedSimpArgs false
namespace Go.Fr.T
open Go Go.RowKit Go.Fr
abbrev bval (b : UInt8) : Value := .int .u8 b.toNat
def bvals (p : List UInt8) : List Value := p.map fun b => Value.int .u8 b.toNat
theorem bvals_len (p : List UInt8) : (bvals p).length = p.length := by simp [bvals]
theorem bvals_app (p q : List UInt8) : bvals (p ++ q) = bvals p ++ bvals q := by simp [bvals]
theorem bvals_ones (p : List UInt8) : ∀ u ∈ bvals p, u.oneCell' = true := by
  intro u h
  simp only [bvals, List.mem_map] at h
  obtain ⟨b, _, rfl⟩ := h
  rfl
section
variable {F : Frz} {L : Loc}
theorem RelRow_bvals : ∀ {p : List UInt8} {xs : List Value}, RelRow F 1 (bcells p) xs → xs = bvals p
  | [], xs, h => by simpa [bcells, RelRow, bvals] using h
  | b :: p, xs, h => by
    simp only [bcells, List.map_cons, RelRow] at h
    obtain ⟨vs, xs', rfl, h1, h2, h3, h4⟩ := h
    simp only [Rels, Rel] at h3
    obtain ⟨v, vs', rfl, ⟨rfl, _⟩, rfl⟩ := h3
    rw [RelRow_bvals (p := p) h4]
    rfl
theorem RelRow_of_bvals (p : List UInt8) : RelRow F 1 (bcells p) (bvals p) := RelRow_bytes p
/-- the parts of a slice -/
theorem sl_form {els : List (List C)} {v : Value} (h : Rel F L (.sl els) v) : ∃ a c, v = .slice a els.length c ∧ els.length ≤ c ∧ els.length ≤ maxLen ∧ (a = none → els = [] ∧ c = 0) := by
  simp only [Rel] at h
  obtain ⟨a, c, h1, h2, h3, h4, _⟩ := h
  exact ⟨a, c, h1, h2, h3, h4⟩
theorem sl_at {els : List (List C)} {a : Option Addr} {n c sz k : Nat} {es : List C} (h : Rel F L (.sl els) (.slice a n c)) (he : els[k]? = some es) (hs : es.length = sz) :
    ∃ vs, vs.length = sz ∧ FCells F a (k * sz) vs ∧ Rels F [] es vs ∧ n = els.length ∧ a ≠ none ∧ k < n := by
  simp only [Rel] at h
  obtain ⟨a', c', h1, h2, h3, h4, sz', h5⟩ := h
  injection h1 with e1 e2 e3
  subst e1 e2 e3
  have hk := (List.getElem?_eq_some_iff.1 he).1
  obtain ⟨vs, k1, k2, k3, k4⟩ := RelS_iff.1 h5 k es he
  have hl := k4.len
  have : sz' = sz := by omega
  subst this
  refine ⟨vs, k1, by simpa using k2, k4, rfl, fun e => ?_, hk⟩
  have := (h4 e).1
  subst this
  simp at hk
theorem sl_bytes {p : List UInt8} {v : Value} (h : Rel F L (.sl (bcells p)) v) : ∃ a c, v = .slice a p.length c ∧ p.length ≤ c ∧ p.length ≤ maxLen ∧ (FCells F a 0 (bvals p) ∨ (p.length = 0 ∧ bvals p = [])) := by
  have hn : (bcells p).length = p.length := by simp [bcells]
  have h0 := h
  simp only [Rel] at h0
  obtain ⟨a, c, h1, h2, h3, h4, sz, h5⟩ := h0
  obtain ⟨xs, e1, e2, e3⟩ := RelS_flat (sz := 1) h5 (fun es he => by simp only [bcells, List.mem_map] at he; obtain ⟨b, _, rfl⟩ := he; rfl)
  have e4 := RelRow_bvals e3
  subst e4
  rw [hn] at h1 h2 h3 e2
  exact ⟨a, c, h1, h2, h3, e2⟩
theorem sl_cap {p : List UInt8} {a : Option Addr} {n c : Nat} (h : Rel F L (.sl (bcells p)) (.slice a n c)) : n ≤ c := by
  obtain ⟨a', c', e, h1, _⟩ := sl_bytes h
  injection e with e1 e2 e3
  omega
theorem src_bytes {p : List UInt8} {a : Option Addr} {n c : Nat} (h : Rel F L (.sl (bcells p)) (.slice a n c)) : FCells F a 0 (bvals p) ∨ (n = 0 ∧ bvals p = []) := by
  obtain ⟨a', c', e, _, _, h'⟩ := sl_bytes h
  injection e with e1 e2 e3
  subst e1 e2 e3
  exact h'
theorem bytes_sl {p : List UInt8} {ad : Addr} {c : Nat} (h : FCells F (some ad) 0 (bvals p)) (h1 : p.length ≤ c) (h2 : p.length ≤ maxLen) : Rel F L (.sl (bcells p)) (.slice (some ad) p.length c) := by
  have hn : (bcells p).length = p.length := by simp [bcells]
  simp only [Rel]
  exact ⟨some ad, c, by rw [hn], by omega, by omega, fun e => (by cases e), 1, (RelRow_bytes p).frz h⟩
theorem nil_sl : Rel F L (.sl []) (.slice none 0 0) := by
  simp only [Rel]
  exact ⟨none, 0, rfl, Nat.le_refl _, Nat.zero_le _, fun _ => by simp, 0, by simp [RelS]⟩
/-- a part of frozen bytes -/
theorem rel_slc {L' : Loc} {s : List UInt8} {a : Option Addr} {n c l h : Nat} (hr : Rel F L (.sl (bcells s)) (.slice a n c)) (h1 : l ≤ h) (h2 : h ≤ s.length) : Rel F L' (.sl (bcells ((s.drop l).take (h - l)))) (slcVal a c l h 1) := by
  have hn : (bcells s).length = s.length := by simp [bcells]
  simp only [Rel] at hr ⊢
  obtain ⟨a', c', e, k1, k2, k3, sz, k4⟩ := hr
  injection e with e1 e2 e3
  subst e1 e2 e3
  obtain ⟨xs, f1, f2, f3⟩ := RelS_flat (sz := 1) k4 (fun es he => by simp only [bcells, List.mem_map] at he; obtain ⟨b, _, rfl⟩ := he; rfl)
  have hlen : ((s.drop l).take (h - l)).length = h - l := by rw [List.length_take, List.length_drop]; omega
  have hbl : (bcells ((s.drop l).take (h - l))).length = h - l := by simp only [bcells, List.length_map, hlen]
  have hb : bcells ((s.drop l).take (h - l)) = ((bcells s).drop l).take (h - l) := by simp [bcells, List.map_drop, List.map_take]
  by_cases hs : s = []
  · subst hs
    refine ⟨_, _, by rw [hbl]; rfl, by rw [hbl]; omega, by rw [hbl]; omega, fun e => ⟨by simp [bcells], ?_⟩, 1, by simp [bcells, RelS]⟩
    have h0 : l = 0 := by simp at h2; omega
    subst h0
    by_cases hc : c = 0
    · simp [hc]
    · rw [if_neg hc] at e
      cases a with
      | none => exact absurd (k3 rfl).2 hc
      | some ad => cases e
  · have ha : a ≠ none := fun e => hs (by have := (k3 e).1; simpa [bcells] using this)
    obtain ⟨ad, rfl⟩ := Option.ne_none_iff_exists'.1 ha
    have hf : FCells F (some ad) 0 xs := f2.resolve_right fun h => hs (by
      have := h.1
      rw [hn] at this
      exact List.eq_nil_of_length_eq_zero this)
    have h5 := RelS_slc (l := l) (h := h) (c := c) (RelRow.frz f3 hf) (fun e => by cases e) h1 (by rw [hn]; exact h2) k1
    refine ⟨_, _, by rw [hbl]; rfl, by rw [hbl]; omega, by rw [hbl]; omega, fun e => ?_, 1, by rw [hb]; exact h5⟩
    split at e <;> cases e
theorem fcells_take {a : Option Addr} {xs : List Value} {m : Nat} (h : FCells F a 0 xs) : FCells F a 0 (xs.take m) := by
  obtain ⟨ad, arr, t, fr, e, hb, hsp, hc⟩ := h
  refine ⟨ad, arr, t, fr, e, hb, hsp, fun i v hv => hc i v ?_⟩
  rw [List.getElem?_take] at hv
  split at hv
  · exact hv
  · cases hv
/-- the row of a state that some world is in -/
theorem real_row {k : Nat} {v : Value} {t sz n : Nat} {xs : List Value} (h : Real F L) (hk : L.get k = some (.row v t sz n xs)) : xs.length = n * sz ∧ ((v = .slice none 0 0 ∧ n = 0) ∨ ∃ g c, v = .slice (some ⟨g, 0, none⟩) n c ∧ n ≤ c ∧ c ≤ maxLen) := by
  obtain ⟨w, hs⟩ := h
  have hr := hs.own k _ hk
  simp only [Own.ok] at hr
  refine ⟨hr.1, ?_⟩
  rcases hr.2 with h | ⟨g, cap, cur, e, _, _, h1, h2, _⟩
  · exact .inl h
  · exact .inr ⟨g, cap, e, h1, h2⟩
theorem frow_bytes {p : List UInt8} {v : Value} (h : FRow F v 1 p.length (bvals p)) (hm : p.length ≤ maxLen) : Rel F L (.sl (bcells p)) v := by
  rcases h with ⟨rfl, h1, _⟩ | ⟨a, c, rfl, h1, h2⟩
  · have : p = [] := List.eq_nil_of_length_eq_zero h1
    subst this
    exact nil_sl
  · exact bytes_sl h1 h2 hm
/-- a row is handed back -/
theorem resRow {Lin : List Own} {v : Value} {t sz n : Nat} {xs : List Value} {els : List (List C)} (hL : Lin = []) (h : RelRow F sz els xs) (hn : n = els.length) (hm : n ≤ maxLen) (hv : ∃ a c, v = .slice a n c ∧ (a = none → n = 0)) :
    ResA Lin (Ret [.row t sz els] (.rw 1000)) F [.row v t sz n xs] v := by
  subst hL
  obtain ⟨a, c, rfl, h2⟩ := hv
  refine ⟨[.row t sz els], .rw 1000, rfl, fun k => ?_, ?_, fun i g t cs e => (by simp at e), rfl, rfl⟩
  · simp only [tinp, inp, tinpFrom, inpFrom, TL.get, Loc.get]
    cases hk : Nat.beq 1000 k with
    | true => exact ⟨rfl, rfl, hn, ⟨hm, a, c, rfl, h2⟩, h⟩
    | false => trivial
  · simp only [Rel]
    exact ⟨a, c, t, sz, n, xs, rfl, rfl⟩
theorem real_max {k : Nat} {v : Value} {t sz n : Nat} {xs : List Value} (h : Real F L) (hk : L.get k = some (.row v t sz n xs)) : n ≤ maxLen ∧ ∃ a c, v = .slice a n c ∧ (a = none → n = 0) := by
  obtain ⟨_, h⟩ := real_row h hk
  rcases h with ⟨rfl, rfl⟩ | ⟨g, c, rfl, h1, h2⟩
  · exact ⟨Nat.zero_le _, none, 0, rfl, fun _ => rfl⟩
  · exact ⟨Nat.le_trans h1 h2, _, c, rfl, fun e => (by cases e)⟩
theorem retRowF (kd : Nat) {v : Value} {t sz n : Nat} {xs : List Value} {els : List (List C)} (hre : Real F L) (hk : L.get kd = some (.row v t sz n xs)) (h : RelRow F sz els xs) (hn : n = els.length) : RetPt F L v (ResA [] (Ret [.row t sz els] (.rw 1000))) := by
  obtain ⟨h1, h2⟩ := real_max hre hk
  exact ⟨[kd], [.row v t sz n xs], by simp only [Loc.sub, hk], by simp, resRow rfl h hn h1 h2⟩
theorem resVal' {Lin : List Own} {v : Value} {x : C} (hL : Lin = []) (h : Rel F (inp []) x v) : ResA Lin (Ret [] x) F [] v := by
  subst hL
  exact ⟨[], x, rfl, fun k => trivial, h, fun i g t cs e => (by simp at e), rfl, rfl⟩
/-- append, the value made out -/
theorem appF (kd n : Nat) (xs : List Value) (m : Nat) (news : List Value) {e sz bytes : Nat} {s : Value} {ad : Option Addr} {cx : Nat} {K : Loc → Value → Prop}
    (h1 : L.get kd = some (.row s e sz n xs) ∨ (L.get kd = none ∧ n = 0 ∧ xs = [] ∧ s = .slice none 0 0)) (h2 : news.length = m * sz) (h3 : FCells F ad 0 news ∨ (m = 0 ∧ news = [])) (h4 : ∀ u ∈ news, u.oneCell' = true) (h5 : n + m ≤ maxLen) (h6 : (n + m) * bytes ≤ 140737488355328)
    (kk : ∀ a c, (a = none → n + m = 0) → K (L.set kd (.row (.slice a (n + m) c) e sz (n + m) (xs ++ news))) (.slice a (n + m) c)) : AppPt F L e sz bytes s (.slice ad m cx) K := by
  refine ⟨kd, n, xs, m, news, ?_, ⟨ad, cx, rfl, h2, h3.imp id .inl⟩, h4, h5, h6, fun v hv => ?_⟩
  · rcases h1 with h | ⟨h, e1, e2, e3⟩
    · exact .inl h
    · exact .inr (.inl ⟨h, e1, e2, e3⟩)
  · obtain ⟨a, c, rfl, hv⟩ := hv
    exact kk a c hv
theorem appDF (kd n : Nat) (xs : List Value) (m : Nat) (news : List Value) {d : Option Nat} {e sz bytes : Nat} {s : Value} {ad : Option Addr} {cx : Nat} {K : Loc → Value → Prop}
    (h1 : L.get kd = some (.row s e sz n xs) ∨ (d = some kd ∧ L.get kd = none ∧ n = 0 ∧ xs = [] ∧ s = .slice none 0 0)) (h2 : news.length = m * sz) (h3 : FCells F ad 0 news ∨ (m = 0 ∧ news = [])) (h4 : ∀ u ∈ news, u.oneCell' = true) (h5 : n + m ≤ maxLen) (h6 : (n + m) * bytes ≤ 140737488355328)
    (kk : ∀ a c, (a = none → n + m = 0) → Real F (L.set kd (.row (.slice a (n + m) c) e sz (n + m) (xs ++ news))) → K (L.set kd (.row (.slice a (n + m) c) e sz (n + m) (xs ++ news))) (.slice a (n + m) c)) : AppDPt F L d e sz bytes s (.slice ad m cx) K := by
  refine ⟨kd, n, xs, m, news, h1, ⟨ad, cx, rfl, h2, h3⟩, h4, h5, h6, fun v hv hre => ?_⟩
  obtain ⟨a, c, rfl, hv⟩ := hv
  exact kk a c hv hre
/-- a loop that counts up to a bound -/
theorem loopNF {β : Type} {body : Frz → Loc → Env → Kont → Prop} {asg : List Nat} {ρ : Env} (n ki : Nat) (ls : List Nat) (s0 : β) (lv : Nat → β → List Value) (Lf : Nat → β → Loc) (Inv : Nat → β → Frz → Prop) (h0 : Inv 0 s0 F) (hk : ρ ki = .v (.int .i64 (0 : Nat))) (hh : holds ls ((lv 0 s0).map .v) ρ)
    (hg : L.givesR (Lf 0 s0)) (hb : ∀ k s, L.keeps (Lf k s))
    (h : ∀ (k : Nat) s F' jk, F.le F' → k ≤ n → Inv k s F' → Real F' (Lf k s) → body F' (Lf k s) (puts (ki :: ls) ((Value.int .i64 k :: lv k s).map .v) (overJ asg jk ρ)) fun F'' L'' ρ'' =>
      ∃ x' : Nat × β, (x'.1 ≤ n ∧ Inv x'.1 x'.2 F'') ∧ holds (ki :: ls) ((Value.int .i64 (x'.1 : Nat) :: lv x'.1 x'.2).map .v) ρ'' ∧ L''.givesR (Lf x'.1 x'.2) ∧ n - x'.1 < n - k) : LoopPt2 body asg F L ρ := by
  refine ⟨Nat × β, (0, s0), fun x G => x.1 ≤ n ∧ Inv x.1 x.2 G, ki :: ls, fun x => .int .i64 x.1 :: lv x.1 x.2, fun x => Lf x.1 x.2, fun x => n - x.1, ⟨Nat.zero_le _, h0⟩, ⟨hk, hh⟩, hg, fun x => hb x.1 x.2, ?_⟩
  rintro ⟨k, s⟩ F' jk hle ⟨hkn, hi⟩ hreal
  exact h k s F' jk hle hkn hi hreal
theorem puts_same {asg : List Nat} {jk : Nat → Value} {ρ : Env} : ∀ {us : List Nat} {uv : List SV}, holds us uv ρ → (us.all fun j => !mem? asg j) = true → puts us uv (overJ asg jk ρ) = overJ asg jk ρ
  | [], _, _, _ => rfl
  | _ :: _, [], _, _ => rfl
  | k :: ks, v :: vs, h, hd => by
    simp only [List.all_cons, Bool.and_eq_true] at hd
    simp only [puts]
    rw [puts_same h.2 hd.2]
    have hk : mem? asg k = false := by simpa using hd.1
    funext j
    simp only [put]
    cases hb : Nat.beq j k with
    | false => rfl
    | true =>
      have := Nat.eq_of_beq_eq_true hb
      subst this
      simp only [overJ, hk]
      exact h.1.symm
theorem puts_self {ρ : Env} : ∀ {us : List Nat} {uv : List SV}, holds us uv ρ → puts us uv ρ = ρ
  | [], _, _ => rfl
  | _ :: _, [], _ => rfl
  | k :: ks, v :: vs, h => by
    simp only [puts]
    rw [puts_self h.2]
    funext j
    simp only [put]
    cases hb : Nat.beq j k with
    | false => rfl
    | true =>
      have := Nat.eq_of_beq_eq_true hb
      subst this
      exact h.1.symm
/-- what is known, written anew: the own blocks, and the slots that are still read -/
theorem norm (P : Program) {ss : List SStep} {F : Frz} {L : Loc} {ρ : Env} {K : Kont} (L' : Loc) (hL : L = L') (us : List Nat) (uv : List SV) (hu : holds us uv ρ) (h : ∀ ρ', evalOps P ss F L' (puts us uv ρ') K) : evalOps P ss F L ρ K := by
  subst hL
  have := h ρ
  rwa [puts_self hu] at this
theorem normK {F : Frz} {L : Loc} {ρ : Env} {K : Kont} (us : List Nat) (uv : List SV) (hu : holds us uv ρ) (h : ∀ ρ', K F L (puts us uv ρ')) : K F L ρ := by
  have := h ρ
  rwa [puts_self hu] at this
/-- a loop that counts; of the slots that it does not turn, those alone are known that are named -/
theorem loopNU {β : Type} {body : Frz → Loc → Env → Kont → Prop} {asg : List Nat} {ρ : Env} (n ki : Nat) (us : List Nat) (uv : List SV) (hu : holds us uv ρ) (hd : (us.all fun j => !mem? asg j) = true) (ls : List Nat) (s0 : β) (lv : Nat → β → List Value) (Lf : Nat → β → Loc) (Inv : Nat → β → Frz → Prop) (h0 : Inv 0 s0 F) (hk : ρ ki = .v (.int .i64 (0 : Nat))) (hh : holds ls ((lv 0 s0).map .v) ρ)
    (hg : L.givesR (Lf 0 s0)) (hb : ∀ k s, L.keeps (Lf k s))
    (h : ∀ (k : Nat) s F' ρ', F.le F' → k ≤ n → Inv k s F' → Real F' (Lf k s) → body F' (Lf k s) (puts (ki :: ls) ((Value.int .i64 k :: lv k s).map .v) (puts us uv ρ')) fun F'' L'' ρ'' =>
      ∃ x' : Nat × β, (x'.1 ≤ n ∧ Inv x'.1 x'.2 F'') ∧ holds (ki :: ls) ((Value.int .i64 (x'.1 : Nat) :: lv x'.1 x'.2).map .v) ρ'' ∧ L''.givesR (Lf x'.1 x'.2) ∧ n - x'.1 < n - k) : LoopPt2 body asg F L ρ := by
  refine loopNF n ki ls s0 lv Lf Inv h0 hk hh hg hb ?_
  intro k s F' jk hle hk hi hre
  have := h k s F' (overJ asg jk ρ) hle hk hi hre
  rwa [puts_same hu hd] at this
theorem nextV {k : Nat} : SV.v (Value.int .i64 ((k : Int) + 1)) = .v (.int .i64 ((k + 1 : Nat) : Int)) := rfl
variable {P : Program} {f : Nat} {vs : List Value} {K : Frz → Loc → Value → Prop}
/-- calls that hand back one row -/
theorem callRow (kd : Nat) {t : TypeId} {sz : Nat} {Φ : Frz → Value → Nat → List Value → Prop} (h : CallsA P f vs.toArray F [] (fun F' Lo v => ∃ n xs, Lo = [.row v t sz n xs] ∧ Φ F' v n xs)) (hk : L.get kd = none)
    (kk : ∀ v F' n xs, F.le F' → Φ F' v n xs → K F' (L.set kd (.row v t sz n xs)) v) : CallPt P f vs F L K := by
  refine ⟨[], [kd], [], _, rfl, .nil, by simp, fun k hk' => .inr (by rw [List.mem_singleton.1 hk']; exact hk), h, fun v F' Lo hle hR => ?_⟩
  obtain ⟨n, xs, rfl, hR⟩ := hR
  exact ⟨rfl, fun _ _ _ _ h => absurd h List.not_mem_nil, kk v F' n xs hle hR⟩
theorem callRowD (kd : Nat) {t : TypeId} {sz : Nat} {Φ : Frz → Value → Nat → List Value → Prop} (h : CallsA P f vs.toArray F [] (fun F' Lo v => ∃ n xs, Lo = [.row v t sz n xs] ∧ Φ F' v n xs)) (hk : L.get kd = none)
    (kk : ∀ v F' n xs, F.le F' → Φ F' v n xs → Real F' (L.set kd (.row v t sz n xs)) → K F' (L.set kd (.row v t sz n xs)) v) : CallDPt P f vs F L (some kd) K := by
  refine .own _ kd h rfl hk fun v F' Lo hle hR => ?_
  obtain ⟨n, xs, rfl, hR⟩ := hR
  exact ⟨_, rfl, fun hr => kk v F' n xs hle hR hr⟩
/-- a contract over data: one row is handed back -/
theorem rowA {args : List C} {t sz : Nat} {els : List (List C)} (h : CallsT P f args [] (Ret [.row t sz els] (.rw 1000))) (hr : Rels F (inp []) args vs) :
    CallsA P f vs.toArray F [] (fun F' Lo v => ∃ n xs, Lo = [.row v t sz n xs] ∧ n = els.length ∧ n ≤ maxLen ∧ ((v = .slice none 0 0 ∧ n = 0) ∨ ∃ g c, v = .slice (some ⟨g, 0, none⟩) n c ∧ n ≤ c) ∧ RelRow F' sz els xs) := by
  have hA := h.out F [] vs rfl (fun k => trivial) hr
  refine ⟨hA.ent, ?_, fun w hs => Calls.mono (hA.run w hs) ?_⟩
  · rintro F1 F2 Lo v hle ⟨n, xs, e1, e2, e3, e4, e5⟩
    exact ⟨n, xs, e1, e2, e3, e4, e5.mono hle⟩
  · rintro e w' ⟨v, F', Lo, rfl, h1, h2, Mo, c, q1, q2, q3, q4, rfl, rfl⟩
    refine ⟨v, F', Lo, rfl, h1, h2, ?_⟩
    match Lo, q1 with
    | [o], _ =>
      have h3 := q2 1000
      simp only [tinp, inp, tinpFrom, inpFrom, TL.get, Loc.get, RelK] at h3
      simp only [Rel] at q3
      obtain ⟨a, c, t', sz', n', xs', rfl, hg⟩ := q3
      simp only [inp, inpFrom, Loc.get, Option.some.injEq] at hg
      subst hg
      simp only [RelO] at h3
      obtain ⟨rfl, rfl, e3, e4, e5⟩ := h3
      have hre : Real F' (inp [.row (.slice a n' c) t sz n' xs']) := ⟨w', h1⟩
      have h4 := (real_row (k := 1000) hre rfl).2
      refine ⟨n', xs', rfl, e3, e4.1, ?_, e5⟩
      rcases h4 with h4 | ⟨g, c2, h4, h5, _⟩
      · exact .inl h4
      · exact .inr ⟨g, c2, h4, h5⟩
theorem row0 {G : Nat → Value → Prop} {n : Nat} (h : n = 0) (k : ∀ c, c = 0 → G n (.slice none n c)) : G n (.slice none 0 0) := by
  subst h
  exact k 0 rfl
theorem callTRow (kd : Nat) {args : List C} {t sz : Nat} {els : List (List C)} (h : CallsT P f args [] (Ret [.row t sz els] (.rw 1000))) (hr : Rels F (inp []) args vs) (hk : L.get kd = none)
    (kk : ∀ a c F' xs, F.le F' → RelRow F' sz els xs → (a = none → els.length = 0) → els.length ≤ maxLen → els.length ≤ c → K F' (L.set kd (.row (.slice a els.length c) t sz els.length xs)) (.slice a els.length c)) : CallPt P f vs F L K := by
  refine callRow kd (rowA h hr) hk fun v F' n xs hle ⟨e1, e2, e3, e4⟩ => ?_
  subst e1
  rcases e3 with ⟨rfl, e3⟩ | ⟨g, c, rfl, e3⟩
  · exact row0 (G := fun n v => K F' (L.set kd (.row v t sz n xs)) v) e3 (fun c hc => kk none c F' xs hle e4 (fun _ => e3) e2 (by omega))
  · exact kk _ c F' xs hle e4 (fun e => (by cases e)) e2 e3
theorem callTRowD (kd : Nat) {args : List C} {t sz : Nat} {els : List (List C)} (h : CallsT P f args [] (Ret [.row t sz els] (.rw 1000))) (hr : Rels F (inp []) args vs) (hk : L.get kd = none)
    (kk : ∀ a c F' xs, F.le F' → RelRow F' sz els xs → (a = none → els.length = 0) → els.length ≤ maxLen → els.length ≤ c → Real F' (L.set kd (.row (.slice a els.length c) t sz els.length xs)) → K F' (L.set kd (.row (.slice a els.length c) t sz els.length xs)) (.slice a els.length c)) : CallDPt P f vs F L (some kd) K := by
  refine callRowD kd (rowA h hr) hk fun v F' n xs hle ⟨e1, e2, e3, e4⟩ hre => ?_
  subst e1
  rcases e3 with ⟨rfl, e3⟩ | ⟨g, c, rfl, e3⟩
  · exact row0 (G := fun n v => Real F' (L.set kd (.row v t sz n xs)) → K F' (L.set kd (.row v t sz n xs)) v) e3 (fun c hc hre => kk none c F' xs hle e4 (fun _ => e3) e2 (by omega) hre) hre
  · exact kk _ c F' xs hle e4 (fun e => (by cases e)) e2 e3 hre
theorem callTBRow (kd : Nat) {args : List C} {t : TypeId} {s : List UInt8} (h : CallsT P f args [] (Ret [.row t 1 (bcells s)] (.rw 1000))) (hr : Rels F (inp []) args vs) (hk : L.get kd = none) (hs : 0 < s.length)
    (kk : ∀ g c F', F.le F' → s.length ≤ maxLen → s.length ≤ c → K F' (L.set kd (.row (.slice (some ⟨g, 0, none⟩) s.length c) t 1 s.length (bvals s))) (.slice (some ⟨g, 0, none⟩) s.length c)) : CallPt P f vs F L K := by
  refine callRow kd (rowA h hr) hk fun v F' n xs hle ⟨e1, e2, e3, e4⟩ => ?_
  have hn : (bcells s).length = s.length := by simp [bcells]
  rw [hn] at e1
  subst e1
  have e5 := RelRow_bvals e4
  subst e5
  rcases e3 with ⟨_, e3⟩ | ⟨g, c, rfl, e3⟩
  · omega
  · exact kk g c F' hle e2 e3
theorem callTBRowD (kd : Nat) {args : List C} {t : TypeId} {s : List UInt8} (h : CallsT P f args [] (Ret [.row t 1 (bcells s)] (.rw 1000))) (hr : Rels F (inp []) args vs) (hk : L.get kd = none) (hs : 0 < s.length)
    (kk : ∀ g c F', F.le F' → s.length ≤ maxLen → s.length ≤ c → Real F' (L.set kd (.row (.slice (some ⟨g, 0, none⟩) s.length c) t 1 s.length (bvals s))) → K F' (L.set kd (.row (.slice (some ⟨g, 0, none⟩) s.length c) t 1 s.length (bvals s))) (.slice (some ⟨g, 0, none⟩) s.length c)) : CallDPt P f vs F L (some kd) K := by
  refine callRowD kd (rowA h hr) hk fun v F' n xs hle ⟨e1, e2, e3, e4⟩ hre => ?_
  have hn : (bcells s).length = s.length := by simp [bcells]
  rw [hn] at e1
  subst e1
  have e5 := RelRow_bvals e4
  subst e5
  rcases e3 with ⟨_, e3⟩ | ⟨g, c, rfl, e3⟩
  · omega
  · exact kk g c F' hle e2 e3 hre
/-- a contract over data: a value alone -/
theorem valA {args : List C} {x : C} (h : CallsT P f args [] (Ret [] x)) (hr : Rels F (inp []) args vs) : CallsA P f vs.toArray F [] (fun F' Lo v => Lo = [] ∧ Rel F' [] x v) := by
  have hA := h.out F [] vs rfl (fun k => trivial) hr
  refine ⟨hA.ent, ?_, fun w hs => Calls.mono (hA.run w hs) ?_⟩
  · rintro F1 F2 Lo v hle ⟨e1, e2⟩
    exact ⟨e1, e2.mono hle⟩
  · rintro e w' ⟨v, F', Lo, rfl, h1, h2, Mo, c, q1, q2, q3, q4, rfl, rfl⟩
    obtain rfl : Lo = [] := List.length_eq_zero_iff.1 q1.symm
    exact ⟨v, F', [], rfl, h1, h2, rfl, q3⟩
theorem callTVal {args : List C} {x : C} (h : CallsT P f args [] (Ret [] x)) (hr : Rels F (inp []) args vs) (kk : ∀ v F', F.le F' → Rel F' [] x v → K F' L v) : CallPt P f vs F L K := by
  refine ⟨[], [], [], _, rfl, .nil, .nil, fun k hk => absurd hk List.not_mem_nil, valA h hr, fun v F' Lo hle hR => ?_⟩
  obtain ⟨rfl, hR⟩ := hR
  exact ⟨rfl, fun _ _ _ _ h => absurd h List.not_mem_nil, kk v F' hle hR⟩
theorem callTValD {d : Option Nat} {args : List C} {x : C} (h : CallsT P f args [] (Ret [] x)) (hr : Rels F (inp []) args vs) (kk : ∀ v F', F.le F' → Rel F' [] x v → Real F' L → K F' L v) : CallDPt P f vs F L d K := by
  refine .frz _ (valA h hr) fun v F' Lo hle hR => ?_
  exact ⟨hR.1, fun hre => kk v F' hle hR.2 hre⟩
theorem callTInt {args : List C} {n : Int} (h : CallsT P f args [] (Ret [] (.int .i64 n))) (hr : Rels F (inp []) args vs) (kk : ∀ F', F.le F' → K F' L (.int .i64 n)) : CallPt P f vs F L K :=
  callTVal h hr fun v F' hle hR => by
    simp only [Rel] at hR
    rw [hR.1]; exact kk F' hle
theorem callTIntD {d : Option Nat} {args : List C} {n : Int} (h : CallsT P f args [] (Ret [] (.int .i64 n))) (hr : Rels F (inp []) args vs) (kk : ∀ F', F.le F' → Real F' L → K F' L (.int .i64 n)) : CallDPt P f vs F L d K :=
  callTValD h hr fun v F' hle hR hre => by
    simp only [Rel] at hR
    rw [hR.1]; exact kk F' hle hre
theorem callTBool {args : List C} {b : Bool} (h : CallsT P f args [] (Ret [] (.bool b))) (hr : Rels F (inp []) args vs) (kk : ∀ F', F.le F' → K F' L (.bool b)) : CallPt P f vs F L K :=
  callTVal h hr fun v F' hle hR => by
    simp only [Rel] at hR
    rw [hR]; exact kk F' hle
theorem callTBoolD {d : Option Nat} {args : List C} {b : Bool} (h : CallsT P f args [] (Ret [] (.bool b))) (hr : Rels F (inp []) args vs) (kk : ∀ F', F.le F' → Real F' L → K F' L (.bool b)) : CallDPt P f vs F L d K :=
  callTValD h hr fun v F' hle hR hre => by
    simp only [Rel] at hR
    rw [hR]; exact kk F' hle hre
theorem callTBytesD {d : Option Nat} {args : List C} {p : List UInt8} (h : CallsT P f args [] (Ret [] (.sl (bcells p)))) (hr : Rels F (inp []) args vs)
    (kk : ∀ a c F', F.le F' → Rel F' [] (.sl (bcells p)) (.slice a p.length c) → Real F' L → K F' L (.slice a p.length c)) : CallDPt P f vs F L d K :=
  callTValD h hr fun v F' hle hR hre => by
    obtain ⟨a, c, rfl, _⟩ := sl_bytes hR
    exact kk a c F' hle hR hre
end
end Go.Fr.T

/- Many rows of one's own. -/
set_option linter.unusedVariables false
set_option linter.unusedSimpArgs false
namespace Go.Fr.T
open Go Go.RowKit Go.Fr
def noneP (o : Option Own) (A : Prop) : Prop := match o with | none => A | some _ => False
theorem matchNone {o : Option Own} {A : Prop} (h : o = none) (hA : A) : noneP o A := by
  subst h; exact hA
section
variable {F : Frz} {w : World}
open Classical in
/-- all rows are given up at once -/
theorem freezeAll {Lo : List Own} (hs : St F (inp Lo) w) (hr : ∀ o ∈ Lo, ∃ v t sz n xs, o = .row v t sz n xs) :
    ∃ F2, F.le F2 ∧ St F2 [] w ∧ Step F (inp Lo) w F2 [] w ∧ ∀ v t sz n xs, Own.row v t sz n xs ∈ Lo → FRow F2 v sz n xs := by
  refine ⟨fun b => match F b with | some o => some o | none => if (inp Lo).owns b then w.heap[b]? else none, ?_, ?_, ?_, ?_⟩
  · intro b o h
    simp only [h]
  · refine ⟨fun b o h => ?_, fun k o e => (by cases e), fun k o g e => (by cases e), fun k k' o o' g e => (by cases e)⟩
    split at h
    · rename_i o' h'
      injection h with h
      subst h
      exact hs.frz b _ h'
    · split at h
      · exact h
      · cases h
  · refine ⟨fun b o h => (by simp only [h]), rfl, rfl, rfl, Nat.le_refl _, fun _ _ _ => rfl, fun b h => ?_, fun b ⟨k, o, e, _⟩ => (by cases e)⟩
    split at h
    · rename_i o h'
      exact .inl (by rw [h']; simp)
    · split at h
      · rename_i ho
        exact .inr (.inl ho)
      · exact absurd rfl h
  · intro v t sz n xs hm
    obtain ⟨i, hi, hi'⟩ := List.getElem_of_mem hm
    have hg : (inp Lo).get (1000 + i) = some (.row v t sz n xs) := by
      rw [inp_get, if_pos (by omega), Nat.add_sub_cancel_left, List.getElem?_eq_getElem hi, hi']
    have h1 := hs.own _ _ hg
    simp only [Own.ok] at h1
    rcases h1.2 with ⟨e1, e2⟩ | ⟨g, cap, cur, e1, _, e2, e3, e4, e5, e6⟩
    · exact .inl ⟨e1, e2, List.eq_nil_of_length_eq_zero (by rw [h1.1, e2]; simp)⟩
    · refine .inr ⟨⟨g, 0, none⟩, cap, e1, ⟨⟨g, 0, none⟩, cur, t, (0, 0), rfl, ?_, rfl, fun i v hv => ?_⟩, e3⟩
      · have hb : (Own.row v t sz n xs).blk = some g := by simp only [Own.blk, e1, Value.ownBlock]
        have hF := hs.off _ _ g hg hb
        have ho : (inp Lo).owns g := ⟨_, _, hg, hb⟩
        simp only [hF, if_pos ho, e2]
      · rw [← e6, List.getElem?_take] at hv
        split at hv
        · simpa using hv
        · cases hv
end
end Go.Fr.T

/- What the data relation asks of the frozen memory: cells alone. -/
set_option linter.unusedVariables false
set_option linter.unusedSimpArgs false
namespace Go.Fr.T
open Go Go.RowKit Go.Fr
def leZ (F G : Frz) : Prop := ∀ b arr t fr, F b = some (.cells arr t fr) → G b = some (.cells arr t fr)
theorem leZ_of {F G : Frz} (h : F.le G) : leZ F G := fun b arr t fr e => h b _ e
theorem FCells.monoC {F F' : Frz} (h : leZ F F') {a : Option Addr} {j : Nat} {cs : List Value} (c : FCells F a j cs) : FCells F' a j cs := by
  obtain ⟨ad, arr, t, fr, e, hb, r⟩ := c
  exact ⟨ad, arr, t, fr, e, h _ _ _ _ hb, r⟩
theorem PtB.monoC {F F' : Frz} (h : leZ F F') {b o off : Nat} {vs : List Value} (c : PtB F b o off vs) : PtB F' b o off vs := by
  obtain ⟨base, arr, t, fr, h1, h2⟩ := c
  exact ⟨base, arr, t, fr, h _ _ _ _ h1, h2⟩
mutual
theorem Rel.monoC {F F' : Frz} (h : leZ F F') : ∀ {L : Loc} {c : C} {v : Value}, Rel F L c v → Rel F' L c v
  | _, .int k n, v, r => r
  | _, .bool b, v, r => r
  | _, .str s, v, r => r
  | _, .sl els, v, r => by
    simp only [Rel] at r ⊢
    obtain ⟨a, c, h1, h2, h3, h4, sz, h5⟩ := r
    exact ⟨a, c, h1, h2, h3, h4, sz, RelS.monoC h h5⟩
  | _, .slx els, v, r => by
    simp only [Rel] at r ⊢
    obtain ⟨a, h1, h2, sz, h5⟩ := r
    exact ⟨a, h1, h2, sz, RelS.monoC h h5⟩
  | _, .nils, v, r => r
  | L, .rw k, v, r => by simp only [Rel] at r ⊢; exact r
  | L, .own k off, v, r => by simp only [Rel] at r ⊢; exact r
  | _, .pt es off, v, r => by
    simp only [Rel] at r ⊢
    obtain ⟨b, o, vs, h1, h2, h3, h4⟩ := r
    exact ⟨b, o, vs, h1, PtB.monoC h h2, h3, Rels.monoC h h4⟩
  | L, .fn f fi ca, v, r => by
    simp only [Rel] at r ⊢
    obtain ⟨fi', ca', h1, h2, h3⟩ := r
    exact ⟨fi', ca', h1, Rels.monoC h h2, Rels.monoC h h3⟩
  | L, .agg cs, v, r => by
    simp only [Rel] at r ⊢
    obtain ⟨vs, h1, h2⟩ := r
    exact ⟨vs, h1, Rels.monoC h h2⟩
  | L, .tup cs, v, r => by
    simp only [Rel] at r ⊢
    obtain ⟨vs, h1, h2⟩ := r
    exact ⟨vs, h1, Rels.monoC h h2⟩
  | _, .nilp, v, r => r
  | _, .nilf, v, r => r
  | _, .ifc t c, v, r => by
    simp only [Rel] at r ⊢
    obtain ⟨u, h1, h2⟩ := r
    exact ⟨u, h1, Rel.monoC h h2⟩
  | _, .und, v, r => r
  | _, .any, v, r => trivial
  | _, .ownv _ _, v, r => r
  | _, .elr _ _ _, v, r => r
theorem Rels.monoC {F F' : Frz} (h : leZ F F') : ∀ {L : Loc} {cs : List C} {vs : List Value}, Rels F L cs vs → Rels F' L cs vs
  | _, [], vs, r => by simp only [Rels] at r ⊢; exact r
  | L, c :: cs, vs, r => by
    simp only [Rels] at r ⊢
    obtain ⟨v, vs', h1, h2, h3⟩ := r
    exact ⟨v, vs', h1, Rel.monoC h h2, Rels.monoC h h3⟩
theorem RelS.monoC {F F' : Frz} (h : leZ F F') {a : Option Addr} {sz : Nat} : ∀ {i : Nat} {l : List (List C)}, RelS F a sz i l → RelS F' a sz i l
  | _, [], r => by simp only [RelS]
  | i, es :: l, r => by
    simp only [RelS] at r ⊢
    obtain ⟨⟨vs, h1, h2, h3, h4⟩, h5⟩ := r
    exact ⟨⟨vs, h1, FCells.monoC h h2, h3, Rels.monoC h h4⟩, RelS.monoC h h5⟩
end
theorem RelRow.monoC {F F' : Frz} (h : leZ F F') {sz : Nat} : ∀ {l : List (List C)} {xs : List Value}, RelRow F sz l xs → RelRow F' sz l xs
  | [], xs, r => r
  | es :: l, xs, r => by
    simp only [RelRow] at r ⊢
    obtain ⟨vs, xs', h1, h2, h3, h4, h5⟩ := r
    exact ⟨vs, xs', h1, h2, h3, h4.monoC h, RelRow.monoC h h5⟩
theorem RelO.monoC {F F' : Frz} (h : leZ F F') {L : Loc} : ∀ {o : TO} {p : Own}, RelO F L o p → RelO F' L o p
  | .box t cs, .box g t' vs, r => ⟨r.1, r.2.monoC h⟩
  | .row t sz els, .row v t' sz' n xs, r => ⟨r.1, r.2.1, r.2.2.1, r.2.2.2.1, r.2.2.2.2.monoC h⟩
  | .box _ _, .row .., r => r.elim
  | .row .., .box .., r => r.elim
theorem RelTL.monoC {F F' : Frz} (h : leZ F F') {L : Loc} {M : TL} (r : RelTL F L M) : RelTL F' L M := by
  intro k
  have := r k
  revert this
  cases M.get k <;> cases L.get k <;> simp only [RelK] <;> first | exact fun h => h | exact fun r => r.monoC h

theorem ResA.monoC {Li : List Own} {R : List TO → C → Prop} {F G : Frz} {L : List Own} {v : Value} (hF : leZ F G) (h : ResA Li R F L v) : ResA Li R G L v := by
  obtain ⟨Mo, c, q1, q2, q3, q4, q5⟩ := h
  exact ⟨Mo, c, q1, RelTL.monoC hF q2, Rel.monoC hF q3, q4, q5⟩
end Go.Fr.T

/- Regions in a round of a range over a function. -/
set_option linter.unusedVariables false
set_option linter.unusedSimpArgs false
namespace Go.Fr.T
open Go Go.RowKit Go.Fr
def noDefer (ops : Array Oper) : Bool := ops.toList.all fun o => match o.op with | .defer _ => false | _ => true
theorem noDefer_op {ops : Array Oper} (h : noDefer ops = true) {i : Nat} {o : Oper} (ho : ops[i]? = some o) : ∀ c, o.op ≠ .defer c := by
  intro c hc
  have hm : o ∈ ops.toList := by
    rw [Array.getElem?_eq_some_iff] at ho
    obtain ⟨h1, rfl⟩ := ho
    exact Array.getElem_mem_toList h1
  have := List.all_eq_true.1 h o hm
  rw [hc] at this
  cases this
section
variable {P : Program} {ops : Array Oper} {Q : Exit → Act → World → Prop}
theorem oper_in (l n : Nat) {o : Oper} (hnd : ∀ c, o.op ≠ .defer c) {a : Act} {w : World} {K K' : Act → World → Prop} (hK : ∀ a w, K a w → K' a w) (h : o.wp P a w K Q) : o.wpIn (Fence.wide.inRound l) n P a w K' Q := by
  refine ⟨fun _ _ => trivial, ?_⟩
  have he : o.semAt (Fence.wide.inRound l).round a.eval = execOp a.eval o := Oper.semAt_eq _ _ _ hnd
  rw [he]
  unfold Oper.wp at h
  generalize (execOp a.eval o).run P w = r at h ⊢
  cases r with
  | ok x w' =>
    cases x with
    | value v => exact hK _ _ h
    | skip => exact hK _ _ h
    | defer d => exact hK _ _ h
    | enter f args =>
      refine ⟨nofun, ?_⟩
      refine CallsIn.inRound l (callsIn_wide.2 (Calls.mono h ?_))
      intro e w'' he
      cases e with
      | returned v => exact hK _ _ he
      | panicked ch => exact he
      | outgrown => exact he
    | row row args =>
      refine ⟨nofun, fun c cs _ => ?_⟩
      obtain ⟨v, w'', r, s⟩ := h c cs
      exact ⟨v, w'', hK _ _ r, stepsIn_wide.2 s⟩
    | _ => exact h.elim
  | halt x w' =>
    cases x <;> first | exact h | exact h.elim
theorem wpOps_in (l n : Nat) (hnd : noDefer ops = true) (hQ : ¬ LetsOut Q) : ∀ (is : List Nat) (a : Act) (w : World), wpOps P ops Q is a w → wpOpsIn (Fence.wide.inRound l) n P ops Q is a w := by
  intro is
  induction is with
  | nil => exact fun a w h => h
  | cons i is ih =>
    intro a w h
    simp only [wpOps] at h
    simp only [wpOpsIn]
    cases ho : ops[i]? with
    | none => rw [ho] at h; exact ih a w h
    | some o =>
      rw [ho] at h
      simp only at h ⊢
      split
      · rename_i hw
        rw [if_pos hw] at h
        rcases h with h | ⟨_, h⟩
        · exact oper_in l n (noDefer_op hnd ho) ih h
        · exact absurd h hQ
      · rename_i hw
        rw [if_neg hw] at h
        exact ⟨fun _ _ => trivial, ih _ _ h⟩
theorem wpAny_in (l n : Nat) (hnd : noDefer ops = true) (hQ : ¬ LetsOut Q) (md : Region.Mode) : ∀ (fuel : Nat) (listed : Array Bool) (a : Act) (w : World), wpAny P md ops Q fuel listed a w → wpAnyIn (Fence.wide.inRound l) n P md ops Q fuel listed a w := by
  intro fuel
  induction fuel with
  | zero => exact fun listed a w h => h
  | succ fuel ih =>
    intro listed a w h
    refine ⟨h.1, fun i hi => ?_⟩
    have h := h.2 i hi
    simp only [wpOp] at h
    simp only [wpOpIn]
    cases ho : ops[i]? with
    | none => rw [ho] at h; exact ih _ _ _ h
    | some o =>
      rw [ho] at h
      simp only at h ⊢
      split
      · rename_i hw
        rw [if_pos hw] at h
        rcases h with h | ⟨_, h⟩
        · exact oper_in l n (noDefer_op hnd ho) (ih _) h
        · exact absurd h hQ
      · rename_i hw
        rw [if_neg hw] at h
        exact ⟨fun _ _ => trivial, ih _ _ _ h⟩
/-- a region that draws its order, in a round -/
theorem draw_in {K : Kont} (l n : Nat) (hnd : noDefer ops = true) (hQo : ¬ LetsOut Q) {A : Ann} {r : Nat} {is : List Nat} {cl : List (List Nat)} {ss : List SStep} {F : Frz} {L : Loc} {ρ : Env} {a : Act} {w : World} (hl : lowRegD P A ops is = some ss) (hc : drawOk P ops is cl ss = true)
    (hs : St F L w) (he : EnvOk L ρ a) (hn : a.tmps.size = A.n) (hK : evalOps P ss F L ρ K) (hQ : ∀ a' w', Next2 A.n F L w a (dstsOf ops (List.range ops.size)) K a' w' → Q .normal a' w') :
    (Code.region r ops true).wpIn (Fence.wide.inRound l) n P Q a w := by
  simp only [drawOk, Bool.and_eq_true] at hc
  obtain ⟨⟨⟨⟨⟨⟨h1, h2⟩, h3⟩, h4⟩, h5⟩, h7⟩, h6⟩ := hc
  have h3 := Fr.nodup?_eq h3
  have h4 := Nat.eq_of_beq_eq_true h4
  have hlt : ∀ i ∈ is, i < ops.size := fun i hi => by
    have h : Nat.blt i ops.size = true := List.all_eq_true.1 h5 i hi
    simpa using h
  refine wpIn_region_any h1 ?_
  show wpAnyIn _ n P .any ops Q ops.size (Array.replicate ops.size false) a w.drew
  refine wpAny_in l n hnd hQo .any _ _ _ _ ?_
  refine any_sound h2 ops.size is ss _ F L ρ a w.drew hl (by simp) h3 (fun i => ?_) (by omega) h6 ?_ hs.drew he hn hK ?_
  · constructor
    · intro hi
      refine ⟨hlt i hi, ?_⟩
      simp [Array.getD_eq_getD_getElem?, hlt i hi]
    · rintro ⟨hi, _⟩
      exact mem?_eq.1 (List.all_eq_true.1 h7 i (List.mem_range.2 hi))
  · intro i hi hd'
    simp [Array.getD_eq_getD_getElem?, hi] at hd'
  · rintro a' w' ⟨F', L', ρ', g1, g2, g3, g4, g5, g6, g7⟩
    refine hQ a' w' ⟨F', L', ρ', g1, g2, g3, g4, ?_, g6, g7⟩
    exact ⟨g5.le, g5.os, g5.tape, g5.output, g5.size, g5.same, g5.frz, g5.own⟩
/-- a region in a round -/
theorem region_in {E : Nat → Kont} {R N : Kont} (l n : Nat) (hnd : noDefer ops = true) (hQo : ¬ LetsOut Q) {A : Ann} {r : Nat} {dr : Bool} {sc : SCode} {F : Frz} {L : Loc} {ρ : Env} {a : Act} {w : World} (hl : low P A (.region r ops dr) = some sc)
    (hs : St F L w) (he : EnvOk L ρ a) (hn : a.tmps.size = A.n) (hK : evalC2 P sc E R N F L ρ) (hQ : ∀ a' w', Next2 A.n F L w a (dstsOf ops (List.range ops.size)) N a' w' → Q .normal a' w') :
    (Code.region r ops dr).wpIn (Fence.wide.inRound l) n P Q a w := by
  cases dr with
  | false =>
    simp only [low] at hl
    split at hl
    case h_2 => cases hl
    rename_i ss hss
    injection hl with hl; subst hl
    simp only [evalC2] at hK
    exact wpIn_region (wpOps_in l n hnd hQo _ _ _ (evalOps_sound _ hss hs he hn hK fun a' w' h => hQ a' w' h))
  | true =>
    simp only [low] at hl
    split at hl
    case h_2 => cases hl
    rename_i is cl ss h1 h2
    split at hl
    case h_2 => cases hl
    rename_i h3
    injection hl with hl; subst hl
    obtain ⟨F1, L1, ρ1, hs1, he1, hst1, hK⟩ := frzD2_sound _ hs he hK
    have h4 : ordIs A.ord r = is := by simp only [ordIs, h1]
    rw [h4] at h2
    exact draw_in l n hnd hQo h2 h3 hs1 he1 hn hK fun a' w' h => hQ _ _ (Next2.after (asg1 := []) hst1 rfl (fun _ _ => rfl) h (fun _ h => absurd h List.not_mem_nil) (fun _ h => h))
end
end Go.Fr.T

/- The evaluator over addresses, with a range over a function. -/
set_option linter.unusedVariables false
set_option linter.unusedSimpArgs false
namespace Go.Fr.T
open Go Go.RowKit Go.Fr
inductive SC3 where
  | c (x : SCode)
  | seq (a b : SC3)
  | rf (g p1 p2 q p : Nat) (b : SCode)
def hasRf : SC3 → Bool
  | .c _ => false
  | .seq a b => hasRf a || hasRf b
  | .rf .. => true
def asg1 : List Oper → Option (Nat × Nat)
  | [o] => match o.dst, o.op, o.guard with
    | some q, .assign (.tmp p), none => some (q, p)
    | _, _, _ => none
  | _ => none
def lowRf (P : Program) (A : Ann) : Code → Option SC3
  | .block _ (.rangeFunc (.tmp g) ps (.region _ aops false) (.block _ (.region rb bops dr))) => match ps.toList, asg1 aops.toList, low P A (.region rb bops dr), noDefer bops with
    | [p1, p2], some (q, p), some sb, true => match Nat.blt p1 A.n, Nat.blt p2 A.n, Nat.blt q A.n with
      | true, true, true => some (.rf g p1 p2 q p sb)
      | _, _, _ => none
    | _, _, _, _ => none
  | _ => none
def low3 (P : Program) (A : Ann) : Code → Option SC3
  | .seq x y => match low P A (.seq x y) with
    | some s => some (.c s)
    | none => match low3 P A x, low3 P A y with
      | some a, some b => some (.seq a b)
      | _, _ => none
  | c => match lowRf P A c with
    | some r => some r
    | none => match low P A c with
      | some s => some (.c s)
      | none => none
/-- what a round keeps -/
def KpF (F : Frz) (W W' : World) : Prop := St F [] W → St F [] W'
structure RFPt (P : Program) (body : Frz → Loc → Env → Kont → Prop) (g p1 p2 q p : Nat) (F : Frz) (L : Loc) (ρ : Env) (N : Kont) : Prop where
  out : ∃ (α : Type) (gf : Nat) (lb : Array Value) (v1 v2 : α → Value) (its : List α) (M : Nat) (σ : Type) (x0 : σ) (Inv : List α → σ → Frz → Prop) (Lf : σ → Loc),
    ρ g = .v (.func (.func gf) #[] lb) ∧ (∀ args w, (callFunc gf args).run P w = .ok (.enter gf args) w) ∧
    (∀ w, St F [] w → SeqStopsK Fence.wide 2 P gf lb (fun x => #[v1 x, v2 x]) (KpF F) (fun xs => xs = its) (fun _ => True) M w) ∧
    Inv [] x0 F ∧ L.givesR (Lf x0) ∧ (∀ x, L.keeps (Lf x)) ∧ (∀ pre x F1 F2, leZ F1 F2 → Inv pre x F1 → Inv pre x F2) ∧
    (∀ pre i x F', F.le F' → pre.length < M → Inv pre x F' → Real F' (Lf x) → body F' (Lf x) (put (some q) (ev (put (some p2) (.v (v2 i)) (put (some p1) (.v (v1 i)) ρ)) (.t p)) (put (some p2) (.v (v2 i)) (put (some p1) (.v (v1 i)) ρ))) fun F'' L'' ρ'' => ∃ x', Inv (pre ++ [i]) x' F'' ∧ L''.givesR (Lf x')) ∧
    (∀ x F', F.le F' → Inv its x F' → Real F' (Lf x) → N F' (Lf x) ρ)
def eval3 (P : Program) : SC3 → Bool → Kont → Kont → Kont
  | .c x, m, R, N, F, L, ρ => evalC2 P x (fun _ _ _ _ => False) R N F L ρ
  | .seq a b, m, R, N, F, L, ρ => eval3 P a m R (fun F L ρ => eval3 P b (m || hasRf a) R N F L ρ) F L ρ
  | .rf g p1 p2 q p b, m, R, N, F, L, ρ => m = false ∧ RFPt P (fun F L ρ K => evalC2 P b (fun _ _ _ _ => False) (fun _ _ _ => False) K F L ρ) g p1 p2 q p F L ρ N
/- marks -/
abbrev mkD (D : Nat) : Deferred := { target := .collected D, args := #[] }
def MarksOk (m0 : Nat) (ds : List Nat) (w : World) : Prop := ds.length ≤ 1 ∧ ∀ D ∈ ds, m0 ≤ D ∧ w.heap[D]? = some (.deferred (some []))
section
variable {P : Program} {F F' : Frz} {L L' : Loc} {w w' : World}
theorem owns_cells (hs : St F L w) {b : Nat} (h : L.owns b) : ∃ arr t fr, w.heap[b]? = some (.cells arr t fr) := by
  obtain ⟨k, o, e, hb⟩ := h
  have ho := hs.own k o e
  cases o with
  | box g t cs =>
    simp only [Own.blk, Option.some.injEq] at hb
    subst hb
    exact ⟨_, _, _, ho⟩
  | row v t sz n xs =>
    simp only [Own.ok] at ho
    simp only [Own.blk] at hb
    rcases ho.2 with ⟨rfl, _⟩ | ⟨g, cap, cur, rfl, _, hg, _⟩
    · cases hb
    · simp only [Value.ownBlock, Option.some.injEq] at hb
      subst hb
      exact ⟨_, _, _, hg⟩
theorem marks_step {m0 : Nat} {ds : List Nat} (hs : St F L w) (h : Step F L w F' L' w') (hm : MarksOk m0 ds w) : MarksOk m0 ds w' := by
  refine ⟨hm.1, fun D hD => ?_⟩
  obtain ⟨h1, h2⟩ := hm.2 D hD
  refine ⟨h1, ?_⟩
  rw [h.same D (Array.getElem?_eq_some_iff.1 h2).1 ?_]
  · exact h2
  · intro ho
    obtain ⟨arr, t, fr, e⟩ := owns_cells hs ho
    rw [h2] at e; cases e
def Nx3 (m0 nT : Nat) (m : Bool) (F : Frz) (L : Loc) (w : World) (K : Kont) (a' : Act) (w' : World) : Prop :=
  ∃ F' L' ρ' ds, St F' L' w' ∧ EnvOk L' ρ' a' ∧ a'.tmps.size = nT ∧ a'.defers = ds.map mkD ∧ MarksOk m0 ds w' ∧ (m = false → ds = []) ∧ Step F L w F' L' w' ∧ K F' L' ρ'
def QQ3 (m0 nT : Nat) (m : Bool) (F : Frz) (L : Loc) (w : World) (R N : Kont) : Exit → Act → World → Prop
  | .normal, a', w' => Nx3 m0 nT m F L w N a' w'
  | .ret, a', w' => Nx3 m0 nT true F L w R a' w'
  | _, _, _ => False
theorem Nx3.after {m0 nT : Nat} {m : Bool} {F F1 : Frz} {L L1 : Loc} {w w1 : World} {K : Kont} {a' : Act} {w' : World} (hst : Step F L w F1 L1 w1) (h : Nx3 m0 nT m F1 L1 w1 K a' w') : Nx3 m0 nT m F L w K a' w' := by
  obtain ⟨F', L', ρ', ds, h1, h2, h3, h4, h5, h6, h7, h8⟩ := h
  exact ⟨F', L', ρ', ds, h1, h2, h3, h4, h5, h6, hst.trans h7, h8⟩
theorem Nx3.ret {m0 nT : Nat} {m : Bool} {F : Frz} {L : Loc} {w : World} {K : Kont} {a' : Act} {w' : World} (h : Nx3 m0 nT m F L w K a' w') : Nx3 m0 nT true F L w K a' w' := by
  obtain ⟨F', L', ρ', ds, h1, h2, h3, h4, h5, h6, h7, h8⟩ := h
  exact ⟨F', L', ρ', ds, h1, h2, h3, h4, h5, fun e => (by cases e), h7, h8⟩
/-- a block of no cells is struck from the frozen memory -/
theorem strike (hs : St F L w) {r : Nat} {o : Obj} (ho : w.heap[r]? = some o) (hc : o.isCells = false) (hg : w.grownBy w' (some r)) :
    St (fun b => if b = r then none else F b) L w' ∧ leZ F (fun b => if b = r then none else F b) := by
  have hne : ∀ {b : Nat} {arr t fr}, w.heap[b]? = some (.cells arr t fr) → b ≠ r := by
    rintro b arr t fr h rfl
    rw [h] at ho; injection ho with ho; subst ho; cases hc
  have hlt : ∀ {b : Nat} {o : Obj}, w.heap[b]? = some o → b < w.heap.size := fun h => (Array.getElem?_eq_some_iff.1 h).1
  have hk : ∀ {b : Nat} {o : Obj}, w.heap[b]? = some o → b ≠ r → w'.heap[b]? = some o := fun h hn => (hg.block _ (hlt h) (fun e => hn (by injection e))).trans h
  refine ⟨⟨fun b o h => ?_, fun k o e => ?_, fun k o g e hb => ?_, hs.sep⟩, fun b arr t fr h => ?_⟩
  · split at h
    · cases h
    · rename_i hn
      exact hk (hs.frz b o h) hn
  · have h := hs.own k o e
    cases o with
    | box g t cs => exact hk h (hne h)
    | row v t sz n xs =>
      simp only [Own.ok] at h ⊢
      refine ⟨h.1, h.2.imp id ?_⟩
      rintro ⟨g, cap, cur, e1, e2, e3, e4⟩
      exact ⟨g, cap, cur, e1, e2, hk e3 (hne e3), e4⟩
  · show (if g = r then none else F g) = none
    split
    · rfl
    · exact hs.off k o g e hb
  · have := hne (hs.frz b _ h)
    simp only [if_neg this, h]
theorem grown0 (hs : St F L w) (hg : w.grownBy w' none) : St F L w' := hs.keep fun b hb => hg.block b hb (by simp)
theorem keeps_env {ρ : Env} {a : Act} (he : EnvOk L ρ a) (hk : L.keeps L') : EnvOk L' ρ a := by
  refine ⟨fun j => ?_, fun j k off e => ?_, he.el⟩
  · rw [he.eq j]
    cases e : ρ j with
    | v u => rfl
    | el u i => rfl
    | own k off =>
      obtain ⟨g, ty, cs, hg⟩ := he.own j k off e
      obtain ⟨cs', hg'⟩ := keeps_get hk hg
      simp only [conc, hg, hg']
  · obtain ⟨g, ty, cs, hg⟩ := he.own j k off e
    obtain ⟨cs', hg'⟩ := keeps_get hk hg
    exact ⟨g, ty, cs', hg'⟩
theorem stepGrown {B : World} {row : Option Nat} (h : Step F L w F' L' B) (hg : B.grownBy w' row) (hr : ∀ r, row = some r → w.heap.size ≤ r) {F2 : Frz} (hF : F.le F2) (hn : ∀ b, F2 b ≠ none → F' b ≠ none) : Step F L w F2 L' w' := by
  refine ⟨hF, hg.os.trans h.os, hg.tape.trans h.tape, hg.output.trans h.output, Nat.le_trans h.size hg.size, fun b hb ho => ?_, fun b hb => h.frz b (hn b hb), h.own⟩
  rw [hg.block b (Nat.lt_of_lt_of_le hb h.size) (fun e => by have := hr b e.symm; omega)]
  exact h.same b hb ho
section
variable {ρ : Env} {a : Act} {N : Kont}
theorem act_put {t : Array Value} {ds : List Deferred} {d : Nat} {v : Value} : (Act.put ⟨t, ds⟩ (some d) v) = ⟨t.setIfInBounds d v, ds⟩ := rfl
theorem rf_sound {A : Ann} {m0 : Nat} {g p1 p2 q p : Nat} {ps : Array Nat} {aops bops : Array Oper} {r1 b0 b2 rb : Nat} {dr : Bool} {sb : SCode} (hps : ps.toList = [p1, p2]) (hasg : asg1 aops.toList = some (q, p)) (hlow : low P A (.region rb bops dr) = some sb) (hnd : noDefer bops = true)
    (h1 : p1 < A.n) (h2 : p2 < A.n) (h3 : q < A.n) (hs : St F L w) (he : EnvOk L ρ a) (hn : a.tmps.size = A.n) (hd : a.defers = []) (hm0 : m0 ≤ w.heap.size)
    (hK : RFPt P (fun F L ρ K => evalC2 P sb (fun _ _ _ _ => False) (fun _ _ _ => False) K F L ρ) g p1 p2 q p F L ρ N) :
    (Code.block b0 (.rangeFunc (.tmp g) ps (.region r1 aops false) (.block b2 (.region rb bops dr)))).wp P (fun e a' w' => e = .normal ∧ Nx3 m0 A.n true F L w N a' w') a w := by
  obtain rfl : ps = #[p1, p2] := by cases ps; simpa using hps
  obtain ⟨α, gf, lb, v1, v2, its, M, σ, x0, Inv, Lf, k1, k2, k3, k4, k5, k6, k7, k8, k9⟩ := hK
  refine wp_block (wpIn_wide (n := 3).1 ?_)
  have hlt : ∀ {b : Nat} {o : Obj}, F b = some o → b < w.heap.size := fun h => (Array.getElem?_eq_some_iff.1 (hs.frz _ _ h)).1
  have hs0 : ∀ {F' L' W}, St F' L' W → St F' [] W := fun h => ⟨h.frz, fun k o e => (by cases e), fun k o g e => (by cases e), fun k k' o o' g e => (by cases e)⟩
  refine wpIn_rangeFunc_ownG (F := Fence.wide) (n := 3) rfl (by omega) (gf := gf) (lb := lb) ?_ trivial k2 (k3 w (hs0 hs)) (fun h h' => fun x => h' (h x)) ?_ (Below.refl _ _) (fun _ => rfl)
    (fun pre W => ∃ F' x, F.le F' ∧ Inv pre x F' ∧ St F' (Lf x) W ∧ Step F L w F' (Lf x) W) (fun _ _ _ => False) ?_ (fun _ _ _ _ _ h _ _ => h) ?_
    (fun x => (Act.put ⟨(a.tmps.setIfInBounds p1 (v1 x)).setIfInBounds p2 (v2 x), []⟩ (some q) (((a.tmps.setIfInBounds p1 (v1 x)).setIfInBounds p2 (v2 x)).getD p undef))) ?_ ?_ ?_ ?_
  · show a.tmps.getD g undef = _
    rw [he.eq g, k1]; rfl
  · intro W l o o' hl ho hc hw hst
    refine ⟨fun b ob hb => ?_, fun k o e => (by cases e), fun k o g e => (by cases e), fun k k' o o' g e => (by cases e)⟩
    have := hlt hb
    rw [World.putObj_heap_other (by omega)]
    exact hst.frz b ob hb
  · rintro pre B B' row ⟨F', x, i1, i2, i3, i4⟩ hg hr
    cases row with
    | none => exact ⟨F', x, i1, i2, grown0 i3 hg, stepGrown i4 hg (fun r e => (by cases e)) i1 (fun b h => h)⟩
    | some r =>
      obtain ⟨hB, o, ho, hc⟩ := hr r rfl
      obtain ⟨j1, j2⟩ := strike i3 ho hc hg
      have hle : F.le (fun b => if b = r then none else F' b) := fun b o h => by
        have := hlt h
        show (if b = r then none else F' b) = some o
        rw [if_neg (by omega)]
        exact i1 b o h
      refine ⟨_, x, hle, k7 _ _ _ _ j2 i2, j1, stepGrown i4 hg (fun r' e => by injection e with e; omega) hle (fun b h => ?_)⟩
      intro e
      apply h
      show (if b = r then none else F' b) = none
      split
      · rfl
      · exact e
  · exact ⟨F, x0, Frz.le_refl F, k4, hs.givesR k5, givesR_step k5⟩
  · intro l x W K hK
    obtain ⟨o, ho, hdst, hop, hgd⟩ : ∃ o, aops.toList = [o] ∧ o.dst = some q ∧ o.op = .assign (.tmp p) ∧ o.guard = none := by
      unfold asg1 at hasg
      split at hasg
      case h_2 => cases hasg
      rename_i o ho
      split at hasg
      case h_2 => cases hasg
      rename_i q' p' e1 e2 e3
      injection hasg with hasg
      injection hasg with e4 e5
      subst e4 e5
      exact ⟨o, ho, e1, e2, e3⟩
    obtain rfl : aops = #[o] := by cases aops; simpa using ho
    refine wpIn_region ?_
    show wpOpsIn _ _ P #[o] _ [0] _ W
    have hw : Region.wanted o (yielded #[o] ((a.tmps.setIfInBounds p1 (v1 x)).setIfInBounds p2 (v2 x))) = true := by simp [Region.wanted, hgd]
    have hz : (#[p1, p2].zip #[v1 x, v2 x]).foldl (fun t (pv : Nat × Value) => t.setIfInBounds pv.1 pv.2) a.tmps = (a.tmps.setIfInBounds p1 (v1 x)).setIfInBounds p2 (v2 x) := by simp
    have hz' : { tmps := (#[p1, p2].zip #[v1 x, v2 x]).foldl (fun t (pv : Nat × Value) => t.setIfInBounds pv.1 pv.2) a.tmps, defers := [] : Act } = ⟨(a.tmps.setIfInBounds p1 (v1 x)).setIfInBounds p2 (v2 x), []⟩ := by rw [hz]
    show wpOpsIn _ _ P #[o] _ [0] { tmps := (#[p1, p2].zip #[v1 x, v2 x]).foldl (fun t (pv : Nat × Value) => t.setIfInBounds pv.1 pv.2) a.tmps, defers := [] } W
    rw [hz']
    simp only [wpOpsIn, List.getElem?_toArray, List.getElem?_cons_zero, hw, if_true]
    refine ⟨fun _ _ => trivial, ?_⟩
    have he : o.semAt (Fence.wide.inRound l).round (Act.eval ⟨(a.tmps.setIfInBounds p1 (v1 x)).setIfInBounds p2 (v2 x), []⟩) = execOp (Act.eval ⟨(a.tmps.setIfInBounds p1 (v1 x)).setIfInBounds p2 (v2 x), []⟩) o := Oper.semAt_eq _ _ _ (by rw [hop]; intro c h; cases h)
    rw [he]
    simp only [execOp, hop, Sem.run_pure]
    show K (Act.put _ o.dst _) W
    rw [hdst]
    exact hK
  · rintro l pre x W ⟨F', y, i1, i2, i3, i4⟩ hM
    refine wpIn_block ?_
    have he0 : EnvOk (Lf y) ρ ⟨a.tmps, []⟩ := ⟨(keeps_env he (k6 y)).eq, (keeps_env he (k6 y)).own, (keeps_env he (k6 y)).el⟩
    have heA := he0.put (d := some p1) (v := v1 x) (x := .v (v1 x)) (fun k e => by injection e with e; subst e; show _ < a.tmps.size; omega) rfl noOwn noEl (boxKeep _)
    have heB := heA.put (d := some p2) (v := v2 x) (x := .v (v2 x)) (fun k e => by injection e with e; subst e; rw [size_put]; show _ < a.tmps.size; omega) rfl noOwn noEl (boxKeep _)
    have heC := heB.put (d := some q) (v := ((a.tmps.setIfInBounds p1 (v1 x)).setIfInBounds p2 (v2 x)).getD p undef) (x := ev (put (some p2) (.v (v2 x)) (put (some p1) (.v (v1 x)) ρ)) (.t p)) (fun k e => by injection e with e; subst e; rw [size_put, size_put]; show _ < a.tmps.size; omega) (heB.eq p).symm (heB.own p) (heB.el p) (boxKeep _)
    have hn2 : (Act.put ⟨(a.tmps.setIfInBounds p1 (v1 x)).setIfInBounds p2 (v2 x), []⟩ (some q) (((a.tmps.setIfInBounds p1 (v1 x)).setIfInBounds p2 (v2 x)).getD p undef)).tmps.size = A.n := by
      rw [size_put]; simp [hn]
    refine region_in l 1 hnd ?_ hlow i3 heC hn2 (k8 pre x y F' i1 hM i2 ⟨W, i3⟩) ?_
    · rintro ⟨_, _, h⟩
      exact h
    · rintro a' w' ⟨F2, L2, ρ2, g1, g2, g3, g4, g5, g6, y', g7, g8⟩
      refine ⟨⟨g5.size, fun k o hB hk hc => ?_⟩, fun hst => ?_, F2, y', Frz.le_trans i1 g5.le, g7, g1.givesR g8, (i4.trans g5).trans (givesR_step g8)⟩
      · rw [g5.same k (Array.getElem?_eq_some_iff.1 hk).1 ?_]
        · exact hk
        · intro ho
          obtain ⟨arr, t, fr, e⟩ := owns_cells i3 ho
          rw [hk] at e; injection e with e; subst e; cases hc
      · refine ⟨fun b o hb => ?_, fun k o e => (by cases e), fun k o g e => (by cases e), fun k k' o o' g e => (by cases e)⟩
        have hW := hst.frz b o hb
        rw [g5.same b (Array.getElem?_eq_some_iff.1 hW).1 ?_]
        · exact hW
        · rintro ⟨k, o', e, hbk⟩
          have := i3.off k o' b e hbk
          rw [i1 b o hb] at this; cases this
  · rintro D xs W hD rfl ⟨F', x, i1, i2, i3, i4⟩ hK
    refine ⟨rfl, F', Lf x, ρ, [D], i3, ⟨(keeps_env he (k6 x)).eq, (keeps_env he (k6 x)).own, (keeps_env he (k6 x)).el⟩, hn, by rw [hd]; rfl, ⟨Nat.le_refl _, fun D' hD' => ?_⟩, fun e => (by cases e), i4, k9 x F' i1 i2 ⟨W, i3⟩⟩
    rw [List.mem_singleton.1 hD']
    exact ⟨by omega, hK⟩
  · exact fun D c pre W _ _ h _ => h.elim
theorem c_sound {A : Ann} {m0 : Nat} {m : Bool} {c : Code} {sc : SCode} {ds : List Nat} {R N : Kont} (hl : low P A c = some sc) (hs : St F L w) (he : EnvOk L ρ a) (hn : a.tmps.size = A.n) (hd : a.defers = ds.map mkD) (hm : MarksOk m0 ds w) (hmf : m = false → ds = [])
    (hK : evalC2 P sc (fun _ _ _ _ => False) R N F L ρ) : c.wp P (QQ3 m0 A.n m F L w R N) a w := by
  refine wp_mono (evalC2_sound c hl hs he hn hK) ?_
  intro e a' w' hq
  cases e with
  | normal =>
    obtain ⟨F', L', ρ', g1, g2, g3, g4, g5, g6, g7⟩ := hq
    exact ⟨F', L', ρ', ds, g1, g2, g3, g4.trans hd, marks_step hs g5 hm, hmf, g5, g7⟩
  | ret =>
    obtain ⟨F', L', ρ', g1, g2, g3, g4, g5, g6, g7⟩ := hq
    exact ⟨F', L', ρ', ds, g1, g2, g3, g4.trans hd, marks_step hs g5 hm, fun e => (by cases e), g5, g7⟩
  | exit j => obtain ⟨F', L', ρ', _, _, _, _, _, _, h⟩ := hq; exact h.elim
  | goto l => exact hq.elim
  | panic ch => exact (noPan hq).elim
  | outgrown => exact hq.elim
theorem leaf_sound {A : Ann} {m0 : Nat} {m : Bool} {c : Code} {sc : SC3} {ds : List Nat} {R N : Kont} (hl : (match lowRf P A c with | some r => some r | none => match low P A c with | some s => some (SC3.c s) | none => none) = some sc) (hs : St F L w) (he : EnvOk L ρ a) (hn : a.tmps.size = A.n) (hd : a.defers = ds.map mkD) (hm : MarksOk m0 ds w) (hmf : m = false → ds = []) (hm0 : m0 ≤ w.heap.size)
    (hK : eval3 P sc m R N F L ρ) : c.wp P (QQ3 m0 A.n (m || hasRf sc) F L w R N) a w := by
  split at hl
  · rename_i r hr
    injection hl with hl; subst hl
    unfold lowRf at hr
    split at hr
    case h_2 => cases hr
    split at hr
    case h_2 => cases hr
    rename_i p1 p2 q p sb e1 e2 e3 e4
    split at hr
    case h_2 => cases hr
    rename_i b1 b2 b3
    injection hr with hr; subst hr
    simp only [eval3] at hK
    obtain ⟨rfl, hK⟩ := hK
    have hds := hmf rfl
    subst hds
    refine wp_mono (rf_sound (m0 := m0) e1 e2 e3 e4 (by simpa using b1) (by simpa using b2) (by simpa using b3) hs he hn hd hm0 hK) ?_
    rintro e a' w' ⟨rfl, h⟩
    exact h
  · split at hl
    case h_2 => cases hl
    rename_i s hs'
    injection hl with hl; subst hl
    simp only [eval3] at hK
    simp only [hasRf, Bool.or_false]
    exact c_sound hs' hs he hn hd hm hmf hK
theorem eval3_sound {A : Ann} {m0 : Nat} : ∀ (c : Code) {sc : SC3}, low3 P A c = some sc → ∀ {m : Bool} {ds : List Nat} {R N : Kont} {F : Frz} {L : Loc} {ρ : Env} {a : Act} {w : World}, St F L w → EnvOk L ρ a → a.tmps.size = A.n → a.defers = ds.map mkD → MarksOk m0 ds w → (m = false → ds = []) → m0 ≤ w.heap.size →
    eval3 P sc m R N F L ρ → c.wp P (QQ3 m0 A.n (m || hasRf sc) F L w R N) a w := by
  intro c
  induction c with
  | seq x y ihx ihy =>
    intro sc hl m ds R N F L ρ a w hs he hn hd hm hmf hm0 hK
    simp only [low3] at hl
    split at hl
    · rename_i s hs'
      injection hl with hl; subst hl
      simp only [eval3] at hK
      simp only [hasRf, Bool.or_false]
      exact c_sound hs' hs he hn hd hm hmf hK
    · split at hl
      case h_2 => cases hl
      rename_i b c h1 h2
      injection hl with hl; subst hl
      simp only [eval3] at hK
      refine wp_seq (wp_mono (ihx h1 hs he hn hd hm hmf hm0 hK) ?_)
      intro e a1 w1 hq
      cases e with
      | normal =>
        obtain ⟨F1, L1, ρ1, ds1, g1, g2, g3, g4, g5, g6, g7, g8⟩ := hq
        refine wp_mono (ihy h2 g1 g2 g3 g4 g5 g6 (Nat.le_trans hm0 g7.size) g8) ?_
        intro e2 a2 w2 hq2
        cases e2 with
        | normal =>
          have := hq2.after g7
          simp only [hasRf, ← Bool.or_assoc]
          exact this
        | ret => exact hq2.after g7
        | exit j => exact hq2
        | goto l => exact hq2
        | panic ch => exact hq2
        | outgrown => exact hq2
      | ret => exact hq
      | exit j => exact hq.elim
      | goto l => exact hq.elim
      | panic ch => exact hq.elim
      | outgrown => exact hq.elim
  | _ =>
    intro sc hl m ds R N F L ρ a w hs he hn hd hm hmf hm0 hK
    exact leaf_sound (by simpa only [low3] using hl) hs he hn hd hm hmf hm0 hK
end
end
section
variable {P : Program}
theorem callsA3_of {f : FuncId} {fn : Func} {c : Code} {sc : SC3} {A : Ann} {rs : List RV} {F : Frz} {Lin : List Own} {R : Frz → List Own → Value → Prop} (svs : List SV)
    (hf : P.funcs[f]? = some fn) (hb : fn.body = some c) (hname : (fn.name == "runtime.NumGoroutine") = false) (hl : low3 P A c = some sc) (hn : fn.ntmps = A.n) (hres : resOk P fn.results.toList = some rs) (hlen : svs.length ≤ A.n)
    (hown : ∀ v ∈ svs, (∀ k off, v = .own k off → ∃ g ty cs, (inp Lin).get k = some (.box g ty cs)) ∧ (∀ ad j, v = .el ad j → ad ≠ none))
    (hmono : ∀ F G L v, leZ F G → R F L v → R G L v)
    (h : eval3 P sc false (fun F' L' ρ' => retV L' ρ' rs fun vs => RetPt F' L' (resVal vs) R) (fun F' L' ρ' => retV L' ρ' rs fun vs => RetPt F' L' (resVal vs) R) F (inp Lin) (argE 0 svs)) :
    CallsA P f (svs.map (conc (inp Lin))).toArray F Lin R := by
  refine ⟨⟨fn, hf, by rw [hb]; rfl, hname⟩, fun F G L v hle => hmono F G L v (leZ_of hle), fun w hs => ?_⟩
  refine callsIn_wide.1 (callsIn_of_wp_marks (F := Fence.wide) (n := 3) hf hb trivial (wpIn_wide.2 ?_) rfl)
  have he : EnvOk (inp Lin) (argE 0 svs) { tmps := (svs.map (conc (inp Lin))).toArray ++ Array.replicate (fn.ntmps - (svs.map (conc (inp Lin))).toArray.size) undef, defers := [] } := by
    have hin : ∀ t, argE 0 svs t = .v undef ∨ argE 0 svs t ∈ svs := by
      intro t
      rw [argE_get]
      simp only [Nat.zero_le, if_true, Nat.sub_zero]
      cases e : svs[t]? with
      | none => exact .inl rfl
      | some v => exact .inr (List.mem_of_getElem? e)
    refine ⟨fun t => ?_, fun t k off e => ?_, fun t ad j e => ?_⟩
    · rw [argE_get]
      simp only [Nat.zero_le, if_true, Nat.sub_zero, Array.getD_eq_getD_getElem?]
      cases e : svs[t]? with
      | some v =>
        have hlt : t < svs.length := (List.getElem?_eq_some_iff.1 e).1
        rw [Array.getElem?_append_left (by simpa using hlt)]
        simp [e]
      | none =>
        have hge : svs.length ≤ t := List.getElem?_eq_none_iff.1 e
        rw [Array.getElem?_append_right (by simpa using hge)]
        simp only [Array.getElem?_replicate, Option.getD_none, conc]
        split <;> rfl
    · rcases hin t with h1 | h1
      · rw [h1] at e; cases e
      · exact (hown _ h1).1 k off e
    · rcases hin t with h1 | h1
      · rw [h1] at e; cases e
      · exact (hown _ h1).2 ad j e
  refine wp_mono (eval3_sound (m0 := w.heap.size) (ds := []) c hl hs he (by simp [hn]; omega) rfl ⟨Nat.zero_le _, fun _ h => absurd h List.not_mem_nil⟩ (fun _ => rfl) (Nat.le_refl _) h) ?_
  intro e a' w' hq
  have fin : ∀ {m : Bool}, Nx3 w.heap.size A.n m F (inp Lin) w (fun F' L' ρ' => retV L' ρ' rs fun vs => RetPt F' L' (resVal vs) R) a' w' → LeavesInM Fence.wide 3 P fn a'.tmps (fun e w' => ∃ v F' Lo, e = .returned v ∧ St F' (inp Lo) w' ∧ Step F (inp Lin) w F' (inp Lo) w' ∧ R F' Lo v) a'.defers .returning w' := by
    rintro m ⟨F', L', ρ', ds, g1, g2, g3, g4, g5, g6, g7, hret⟩
    have last : ∀ {F2 : Frz} {w2 : World}, leZ F' F2 → St F2 L' w2 → Step F (inp Lin) w F2 L' w2 → LeavesInM Fence.wide 3 P fn a'.tmps (fun e w' => ∃ v F' Lo, e = .returned v ∧ St F' (inp Lo) w' ∧ Step F (inp Lin) w F' (inp Lo) w' ∧ R F' Lo v) [] .returning w2 := by
      intro F2 w2 hz k0 g5
      obtain ⟨vs, hm, ⟨ko, Lo, k1, k2, k3⟩⟩ := retV_run k0 g2 hres hret
      refine ⟨resVal vs, ?_, resVal vs, F2, Lo, rfl, k0.handed k1 k2, ?_, hmono _ _ _ _ hz k3⟩
      · rw [results_eq]
        rw [Array.mapM_eq_mapM_toList]
        simp only [Sem.run_bind, Sem.run_map]
        rw [hm]
        simp only [Result.andThen_ok, Sem.run_pure]
        congr 1
        match vs with
        | [] => rfl
        | [t] => rfl
        | t :: u :: r =>
          simp only [resVal]
          rw [dif_neg (by simp)]
      · obtain ⟨e1, e2⟩ := sub_get k1
        refine ⟨g5.le, g5.os, g5.tape, g5.output, g5.size, g5.same, g5.frz, fun b hb => g5.own b ?_⟩
        obtain ⟨j, p, e, hb⟩ := hb
        rw [inp_get] at e
        split at e
        case isFalse => cases e
        have hlt : j - 1000 < Lo.length := (List.getElem?_eq_some_iff.1 e).1
        have hk : ko[j - 1000]? = some (ko[j - 1000]'(by omega)) := List.getElem?_eq_getElem (by omega)
        exact ⟨_, p, by rw [e2 _ _ hk]; exact e, hb⟩
    rw [g4]
    match ds, g5 with
    | [], _ => exact last (fun _ _ _ _ h => h) g1 g7
    | [D], g5 =>
      obtain ⟨hD1, hD2⟩ := g5.2 D (List.mem_singleton_self D)
      have hg : w'.grownBy (w'.putObj D (.deferred none)) (some D) := grownBy_putObj' w' D (.deferred none)
      obtain ⟨j1, j2⟩ := strike g1 hD2 rfl hg
      have hFD : ∀ b o, F b = some o → b < w.heap.size := fun b o h => (Array.getElem?_eq_some_iff.1 (hs.frz b o h)).1
      refine ⟨by simp, .inl ⟨D, _, rfl, run_takeDeferred hD2, last j2 j1 (stepGrown g7 hg (fun r e => by injection e with e; omega) (fun b o h => ?_) (fun b h => ?_))⟩⟩
      · have := hFD b o h
        show (if b = D then none else F' b) = some o
        rw [if_neg (by omega)]
        exact g7.le b o h
      · intro e
        apply h
        show (if b = D then none else F' b) = none
        split
        · rfl
        · exact e
    | _ :: _ :: _, g5 => exact absurd g5.1 (by simp)
  cases e with
  | normal => exact fin hq
  | ret => exact fin hq
  | exit j => exact hq.elim
  | goto l => exact hq.elim
  | panic c => exact hq.elim
  | outgrown => exact hq.elim
def factsOf3 (P : Program) (A : Ann) (fn : Func) : Option (SC3 × Nat × List RV × Bool) :=
  match fn.body with
  | some c => match low3 P A c, resOk P fn.results.toList with
    | some sc, some rs => some (sc, fn.ntmps, rs, fn.name == "runtime.NumGoroutine")
    | _, _ => none
  | none => none
theorem callsA3_facts {f : FuncId} {fn : Func} {sc : SC3} {A : Ann} {rs : List RV} {F : Frz} {Lin : List Own} {R : Frz → List Own → Value → Prop} {args : Array Value} (svs : List SV)
    (hf : P.funcs[f]? = some fn) (hfacts : factsOf3 P A fn = some (sc, A.n, rs, false)) (hlen : Nat.ble svs.length A.n = true) (hargs : args = (svs.map (conc (inp Lin))).toArray)
    (hown : ∀ v ∈ svs, (∀ k off, v = .own k off → ∃ g ty cs, (inp Lin).get k = some (.box g ty cs)) ∧ (∀ ad j, v = .el ad j → ad ≠ none))
    (hmono : ∀ F G L v, leZ F G → R F L v → R G L v)
    (h : eval3 P sc false (fun F' L' ρ' => retV L' ρ' rs fun vs => RetPt F' L' (resVal vs) R) (fun F' L' ρ' => retV L' ρ' rs fun vs => RetPt F' L' (resVal vs) R) F (inp Lin) (argE 0 svs)) :
    CallsA P f args F Lin R := by
  subst hargs
  unfold factsOf3 at hfacts
  split at hfacts
  case h_2 => cases hfacts
  rename_i c hb
  split at hfacts
  case h_2 => cases hfacts
  rename_i sc' rs' h1 h2
  injection hfacts with hfacts
  injection hfacts with e1 e2
  injection e2 with e2 e3
  injection e3 with e3 e4
  subst e1 e3
  exact callsA3_of svs hf hb e4 h1 e2 h2 (Nat.le_of_ble_eq_true hlen) hown hmono h
end
end Go.Fr.T

/- A contract on frozen slices is one on a row of one's own, which is given up. -/
set_option linter.unusedVariables false
set_option linter.unusedSimpArgs false
namespace Go.Fr.T
open Go Go.RowKit Go.Fr
theorem CallsT.own1 {P : Program} {f : Nat} {args args' : List C} {t sz : Nat} {els : List (List C)} {R : List TO → C → Prop} (h : CallsT P f args' [] R) (ha : args.map (C.frz 1000 els) = args') (hent : ∃ fn, P.funcs[f]? = some fn ∧ fn.body.isSome = true ∧ (fn.name == "runtime.NumGoroutine") = false) :
    CallsT P f args [.row t sz els] R := by
  subst ha
  refine ⟨fun F Li vs hl htl hr => ?_⟩
  match Li, hl with
  | [o], _ =>
  refine ⟨hent, ResA.mono', fun w hs => ?_⟩
  have he0 : EnvOk (inp [o]) (fun _ => .v undef) (⟨#[], []⟩ : Act) := by
    refine ⟨fun j => ?_, fun j k off e => (by cases e), fun j a i e => (by cases e)⟩
    simp [conc]
  obtain ⟨F2, L2, g1, g2, g3, g4, g5⟩ := frz1_sound (G := fun _ => none) (k := 1000) hs he0 (τ := fun _ => .any) ⟨htl, fun j => trivial, fun k g t e => (by cases e)⟩ (show (tinp [TO.row t sz els]).get 1000 = some (.row t sz els) from rfl)
  have hnone : ∀ k, L2.get k = none := by
    intro k
    have := g4.tl k
    have e : TL.get (((tinp [TO.row t sz els]).del 1000).mapC (C.frz 1000 els)) k = none := rfl
    rw [e] at this
    cases hk : L2.get k with
    | none => rfl
    | some o => rw [hk] at this; exact this.elim
  have hL0 : L2 = [] := by
    cases L2 with
    | nil => rfl
    | cons p l =>
      obtain ⟨k, o⟩ := p
      have := hnone k
      simp only [Loc.get] at this
      have hb : Nat.beq k k = true := by simp
      rw [hb] at this
      cases this
  subst hL0
  have hr2 : Rels F2 (inp []) (args.map (C.frz 1000 els)) vs := Rels.map (fun c _ v hc => g5 hc) hr
  refine Calls.mono ((h.out F2 [] vs rfl (fun k => trivial) hr2).run w g1) ?_
  rintro e w' ⟨v, F', Lo, rfl, hs', hst, Mo, c, q1, q2, q3, q4, q5⟩
  refine ⟨v, F', Lo, rfl, hs', g3.trans hst, Mo, c, q1, q2, q3, fun i g t' cs e => ?_, q5⟩
  cases i with
  | zero =>
    simp only [List.getElem?_cons_zero, Option.some.injEq] at e
    subst e
    have := htl 1000
    exact this.elim
  | succ i => simp at e
end Go.Fr.T
