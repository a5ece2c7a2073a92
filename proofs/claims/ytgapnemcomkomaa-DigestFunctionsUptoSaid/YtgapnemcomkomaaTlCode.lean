/- The evaluator over data speaks of the model's code. -/
import Derived.Test.YtgapnemcomkomaaTlSim6
set_option linter.unusedVariables false
set_option linter.unusedSimpArgs false
namespace Go.Fr.T
open Go Go.RowKit Go.Fr

section
variable {P : Program} {G : Nat → Option (Nat × TypeId)} {F : Frz} {L : Loc} {ρ : Env} {M : TL} {τ : TEnv} {a : Act} {w : World} {Q : Exit → Act → World → Prop} {o : Oper}

theorem evals_env {L2 : Loc} (he : EnvOk L ρ a) (he2 : EnvOk L2 ρ a) : ∀ xs : List X, evals L2 ρ xs = evals L ρ xs
  | [] => rfl
  | x :: xs => by
    have : val L2 ρ x = val L ρ x := by
      cases x with
      | t n => exact (he2.eq n).symm.trans (he.eq n)
      | c v => rfl
      | fn f => rfl
    simp only [evals, this, evals_env he he2 xs]
theorem callT_sound {f : Nat} {args : List C} {vs : List Value} {K : TL → TEnv → C → Prop} (hs : St F L w) (he : EnvOk L ρ a) (ht : TS G F L ρ M τ) (ha : Rels F L args vs) (h : CallT P f args M τ K) :
    ∃ F' L', St F' L' w ∧ EnvOk L' ρ a ∧ Step F L w F' L' w ∧ CallPt P f vs F' L' (fun F' L' v => ∃ M' τ' c, TS G F' L' ρ M' τ' ∧ RelV F' L' c (.v v) ∧ K M' τ' c) := by
  obtain ⟨fz, ks, ko, h⟩ := h
  obtain ⟨F1, L1, M1, τ1, args1, g1, g2, g3, g4, g5, M2, Lin, R, k1, k3, k4, k5, k6, k7, k8, k9⟩ := frzK_sound hs he ht ha h
  rcases k1 with rfl | ⟨k1, k2⟩
  · exact ⟨F1, _, g1, g2, g3, sim_call0 g4 g5 k3 k4 k5 k6 k7 k8 k9⟩
  · obtain ⟨e1, e2, e3, e4, e5⟩ := gives_sound g1 g2 g4 k1 k2
    exact ⟨F1, _, e1, e2, g3.trans e3, sim_call0 e4 (g5.ext (Frz.le_refl F1) e5) k3 k4 k5 k6 k7 k8 k9⟩
theorem Next1.from {F1 : Frz} {L1 : Loc} {K : Kont} {a' : Act} {w' : World} (hst : Step F L w F1 L1 w) (h : Next1 F1 L1 w a K a' w') : Next1 F L w a K a' w' := by
  obtain ⟨F', L', ρ', h1, h2, h3, h4, h5, h6⟩ := h
  exact ⟨F', L', ρ', h1, h2, h3, h4, hst.trans h5, h6⟩
theorem opT_sound {own : Bool} {s : SOp} {K : TK} (hs : St F L w) (he : EnvOk L ρ a) (ht : TS G F L ρ M τ) (hd : ∀ k, o.dst = some k → k < a.tmps.size) (hl : lowOp P own o.op = some s)
    (hK : evalTOp P s o.dst M τ K) : o.wp P a w (Next1 F L w a (Both G K)) Q := by
  by_cases hc : callOp s = true
  · cases s <;> simp only [callOp, Bool.false_eq_true] at hc
    · rename_i f args
      simp only [evalTOp, fT_eq, fl_eq, fca_eq] at hK
      obtain ⟨F1, L1, g1, g2, g3, g4⟩ := callT_sound hs he ht (evals_rel ht.env args) hK
      refine Oper.wp_mono (fun a' w' => Next1.from g3) (evalOp_sound g1 g2 hd hl ?_)
      simp only [evalOp]
      rw [evals_env he g2]
      exact CallPt.imp g4 fun F' L' v ⟨M', τ', c, h1, h2, h3⟩ => h1.kput h2 h3
    · rename_i fx args
      simp only [evalTOp, fT_eq, fl_eq, fca_eq] at hK
      split at hK
      case h_2 => exact hK.elim
      rename_i f fi ca hx
      obtain ⟨fi', ca', e1, h1, h2⟩ := inv_fn ht.env hx
      obtain ⟨F1, L1, g1, g2, g3, g4⟩ := callT_sound hs he ht (conc_vals ht.env h1 h2 args) hK
      refine Oper.wp_mono (fun a' w' => Next1.from g3) (evalOp_sound g1 g2 hd hl ?_)
      simp only [evalOp, e1]
      rw [evals_env he g2]
      exact CallPt.imp g4 fun F' L' v ⟨M', τ', c, h1, h2, h3⟩ => h1.kput h2 h3
  · exact evalOp_sound hs he hd hl (simOp (by simpa using hc) ht hK)
theorem norm_sound (he : EnvOk L ρ a) (ht : TS G F L ρ M τ) (d : Option Nat) : ∃ ρ', EnvOk L ρ' a ∧ TS G F L ρ' M (normD d τ) := by
  cases d with
  | none => exact ⟨ρ, he, ht⟩
  | some k =>
    have hn : ∀ j, normD (some k) τ j = if j = k then (τ k).toOwn else τ j := by
      intro j
      simp only [normD]
      cases h : Nat.beq j k with
      | true => have := Nat.eq_of_beq_eq_true h; simp [this]
      | false => have := beq_f h; simp [this]
    by_cases hv : ∃ k' off, τ k = .ownv k' off
    · obtain ⟨k', off, hv⟩ := hv
      have hr := ht.env k
      rw [hv] at hr
      simp only [RelV, Rel] at hr
      obtain ⟨v, e1, g, t, cs, e2, rfl⟩ := hr
      refine ⟨Fr.put (some k) (.own k' off) ρ, ⟨fun t' => ?_, fun t' j o e => ?_, fun t' ad j e => ?_⟩, ht.tl, fun j => ?_, ht.kp⟩
      · rw [he.eq t', put_eq]
        simp only []
        split
        · rename_i h; subst h; rw [e1]; simp only [conc, e2]
        · rfl
      · rw [put_eq] at e
        simp only [] at e
        split at e
        · injection e with q1 q2; subst q1; exact ⟨g, t, cs, e2⟩
        · exact he.own _ _ _ e
      · rw [put_eq] at e
        simp only [] at e
        split at e
        · cases e
        · exact he.el _ _ _ e
      · rw [hn, put_eq]
        simp only []
        split
        · rw [hv]; exact ⟨rfl, g, t, cs, e2⟩
        · exact ht.env j
    · refine ⟨ρ, he, ht.tl, fun j => ?_, ht.kp⟩
      rw [hn]
      split
      · rename_i h
        subst h
        have : (τ j).toOwn = τ j := by
          cases e : τ j <;> first | rfl | exact absurd ⟨_, _, e⟩ hv
        rw [this]
        exact ht.env j
      · exact ht.env j

/-- the operations of a region, one after the other -/
theorem evalTOps_sound {A : Ann} {r : Nat} {ops : Array Oper} {K : TK} : ∀ (is : List Nat) {ss : List SStep} {F : Frz} {L : Loc} {ρ : Env} {M : TL} {τ : TEnv} {a : Act} {w : World}, lowReg P A r ops is = some ss → St F L w → EnvOk L ρ a → TS G F L ρ M τ → a.tmps.size = A.n → a.defers = [] →
    evalTOps P false ss M τ K → (∀ a' w', Next2 A.n F L w a (dstsOf ops is) (Both G K) a' w' → Q .normal a' w') → wpOps P ops Q is a w := by
  intro is
  induction is with
  | nil =>
    intro ss F L ρ M τ a w hl hs he ht hn hdf hK hQ
    simp only [lowReg, Option.some.injEq] at hl
    subst hl
    exact hQ a w ⟨F, L, ρ, hs, he, hn, hdf, Step.refl _ _ _, fun _ _ => rfl, M, τ, ht, hK⟩
  | cons i is ih =>
    intro ss F L ρ M τ a w hl hs he ht hn hdf hK hQ
    simp only [lowReg] at hl
    split at hl
    case h_1 => cases hl
    rename_i o hi
    split at hl
    case h_2 => cases hl
    rename_i g s rest hg hop hdst hrest
    injection hl with hl
    subst hl
    have ghosts : ∀ (ks : List Nat) {F : Frz} {L : Loc} {M : TL} {τ : TEnv}, St F L w → EnvOk L ρ a → TS G F L ρ M τ → evalTOps P false (ks.map SStep.frz ++ .op o.dst s g :: rest) M τ K →
        ∃ F' L' M' τ', St F' L' w ∧ EnvOk L' ρ a ∧ Step F L w F' L' w ∧ TS G F' L' ρ M' τ' ∧ evalTOps P false (.op o.dst s g :: rest) M' τ' K := by
      intro ks
      induction ks with
      | nil => intro F L M τ hs he ht h; exact ⟨F, L, M, τ, hs, he, Step.refl _ _ _, ht, h⟩
      | cons k ks ihk =>
        intro F L M τ hs he ht h
        simp only [List.map_cons, List.cons_append, evalTOps_cons, stepT, fT_eq] at h
        split at h
        case h_2 => exact h.elim
        rename_i t sz els hk
        obtain ⟨F1, L1, g1, g2, g3, g4, _⟩ := frz1_sound hs he ht hk
        obtain ⟨F2, L2, M2, τ2, k1, k2, k3, k4, k5⟩ := ihk g1 g2 g4 h
        exact ⟨F2, L2, M2, τ2, k1, k2, g3.trans k3, k4, k5⟩
    obtain ⟨F1, L1, M1, τ1, hs1, he1, hst1, ht1, hK⟩ := ghosts _ hs he ht hK
    clear ghosts he
    have hd : ∀ k, o.dst = some k → k < a.tmps.size := by
      intro k hk
      rw [hk] at hdst
      rw [hn]
      have h2 : Nat.blt k A.n = true := hdst
      simpa using h2
    have hdsts : dstsOf ops (i :: is) = match o.dst with | some d => d :: dstsOf ops is | none => dstsOf ops is := by
      simp only [dstsOf, hi, Option.bind_some]
      rfl
    have notin : ∀ j, j ∉ dstsOf ops (i :: is) → o.dst ≠ some j ∧ j ∉ dstsOf ops is := by
      intro j hj
      rw [hdsts] at hj
      cases ho : o.dst with
      | none => rw [ho] at hj; exact ⟨by simp, hj⟩
      | some d =>
        rw [ho] at hj
        simp only [List.mem_cons, not_or] at hj
        exact ⟨by simp; exact fun e => hj.1 e.symm, hj.2⟩
    have goOn : ∀ {τ1 : TEnv}, TS G F1 L1 ρ M1 τ1 → evalTOp P s o.dst M1 τ1 (fun M' τ' => evalTOps P false rest M' (normD o.dst τ') K) → o.wp P a w (wpOps P ops Q is) Q := by
      intro τ1 ht1 hK
      have := opT_sound (Q := Q) hs1 he1 ht1 hd hop hK
      refine Oper.wp_mono ?_ (wp_frame (asg := []) this)
      rintro a' w' ⟨⟨F', L', ρ', g1, g2, g3, g4, g5, M', τ', g6, g7⟩, hfr⟩
      obtain ⟨ρ2, n1, n2⟩ := norm_sound g2 g6 o.dst
      refine ih hrest g1 n1 n2 (by rw [g3, hn]) (by rw [g4, hdf]) g7 ?_
      rintro a'' w'' ⟨F'', L'', ρ'', k1, k2, k3, k4, k5, k6, k7⟩
      refine hQ a'' w'' ⟨F'', L'', ρ'', k1, k2, k3, k4, (hst1.trans g5).trans k5, fun j hj => ?_, k7⟩
      obtain ⟨n1, n2⟩ := notin j hj
      rw [k6 j n2, hfr j n1]
    have skip : ∀ {τ1 : TEnv}, TS G F1 L1 ρ M1 τ1 → evalTOps P false rest M1 (tput o.dst .und τ1) K → wpOps P ops Q is (a.put o.dst undef) w := by
      intro τ1 ht1 hK
      have he2 := he1.put hd (v := undef) (x := .v undef) rfl noOwn noEl (boxKeep L1)
      refine ih hrest hs1 he2 (ht1.put (c := .und) (sv := .v undef) ⟨_, rfl, by simp only [Rel]⟩ o.dst) (by rw [size_put, hn]) (by rw [defers_put, hdf]) hK ?_
      rintro a'' w'' ⟨F'', L'', ρ'', k1, k2, k3, k4, k5, k6, k7⟩
      refine hQ a'' w'' ⟨F'', L'', ρ'', k1, k2, k3, k4, hst1.trans k5, fun j hj => ?_, k7⟩
      obtain ⟨n1, n2⟩ := notin j hj
      rw [k6 j n2, put_frame n1]
    simp only [wpOps, hi]
    cases hgd : o.guard with
    | none =>
      rw [hgd] at hg
      simp only [lowGuard, Option.some.injEq] at hg
      subst hg
      simp only [evalTOps_cons, stepT] at hK
      rw [if_pos (by simp [Region.wanted, hgd])]
      exact .inl (goOn ht1 hK)
    | some p =>
      obtain ⟨j, want⟩ := p
      rw [hgd] at hg
      simp only [lowGuard] at hg
      split at hg
      case h_2 => cases hg
      rename_i d hjd
      injection hg with hg
      subst hg
      simp only [evalTOps_cons, stepT] at hK
      split at hK
      · rename_i b hb
        have hb' : ρ d = .v (.bool b) := inv_bool (x := .t d) ht1.env hb
        have htmp := he1.eq d
        rw [hb'] at htmp
        have hy : yielded ops a.tmps j = some b := by
          simp only [yielded, hjd, Option.bind_some, getD_bool htmp]
        have hw : Region.wanted o (yielded ops a.tmps) = (b == want) := by
          simp only [Region.wanted, hgd, hy]
          cases b <;> cases want <;> rfl
        have htp : TS G F1 L1 ρ M1 (tput (some d) (.bool b) τ1) := by
          have := ht1.put (c := .bool b) (sv := .v (.bool b)) ⟨_, rfl, by simp only [Rel]⟩ (some d)
          rwa [put_same hb'] at this
        rw [hw]
        cases b <;> simp only [brn] at hK
        · cases want
          · exact .inl (goOn htp hK)
          · exact skip htp hK
        · cases want
          · exact skip htp hK
          · exact .inl (goOn htp hK)
      · rename_i hb
        have hr := ht1.env d
        rw [hb] at hr
        simp only [RelV, Rel] at hr
        obtain ⟨v, hb', rfl⟩ := hr
        have htmp := he1.eq d
        rw [hb'] at htmp
        have hy : yielded ops a.tmps j = none := by
          simp only [yielded, hjd, Option.bind_some]
          rw [Array.getD_eq_getD_getElem?] at htmp
          cases e : a.tmps[d]? with
          | none => rfl
          | some v => rw [e] at htmp; simp only [Option.getD_some, conc] at htmp; rw [htmp]; rfl
        have hw : Region.wanted o (yielded ops a.tmps) = false := by
          simp only [Region.wanted, hgd, hy]; rfl
        rw [hw]
        exact skip ht1 hK
      · exact hK.elim

/-- a region that draws its order -/
theorem relV_und : RelV F L .und (.v undef) := ⟨_, rfl, by simp only [Rel]⟩
theorem evalOp_imp {o : SOp} {d : Option Nat} {F : Frz} {L : Loc} {ρ : Env} {K K' : Kont} (h : evalOp P o d F L ρ K) (hk : ∀ F' L' ρ', K F' L' ρ' → K' F' L' ρ') : evalOp P o d F L ρ K' := by
  cases o
  case box t x =>
    simp only [evalOp] at h ⊢
    cases d with
    | none => exact h.elim
    | some k =>
      simp only [] at h ⊢
      generalize L.get k = z at h ⊢
      cases z with
      | none => exact fun g => hk _ _ _ (h g)
      | some _ => exact h.elim
  case boxD t x =>
    simp only [evalOp] at h ⊢
    cases d with
    | none => exact h.elim
    | some k =>
      simp only [] at h ⊢
      generalize L.get k = z at h ⊢
      cases z with
      | none => exact fun g r => hk _ _ _ (h g r)
      | some _ => exact h.elim
  case boxF t x => exact fun g F' a b => hk _ _ _ (h g F' a b)
  case alloc t z =>
    simp only [evalOp] at h ⊢
    cases d with
    | none => exact h.elim
    | some k =>
      simp only [] at h ⊢
      generalize L.get k = z at h ⊢
      cases z with
      | none => exact fun g => hk _ _ _ (h g)
      | some _ => exact h.elim
  case allocD t z =>
    simp only [evalOp] at h ⊢
    cases d with
    | none => exact h.elim
    | some k =>
      simp only [] at h ⊢
      generalize L.get k = z at h ⊢
      cases z with
      | none => exact fun g r => hk _ _ _ (h g r)
      | some _ => exact h.elim
  case mkF e n sz xs =>
    simp only [evalOp] at h ⊢
    generalize parts? L ρ sz xs = z at h ⊢
    cases z with
    | true => exact fun g F' a b => hk _ _ _ (h g F' a b)
    | false => exact h.elim
  case mkFD e n sz xs =>
    simp only [evalOp] at h ⊢
    generalize parts? L ρ sz xs = z at h ⊢
    cases z with
    | true => exact fun g F' a b c => hk _ _ _ (h g F' a b c)
    | false => exact h.elim
  case mkR e n sz xs =>
    simp only [evalOp] at h ⊢
    generalize parts? L ρ sz xs = z at h ⊢
    cases z with
    | false => exact h.elim
    | true =>
      cases d with
      | none => exact h.elim
      | some k =>
        simp only [] at h ⊢
        generalize L.get k = z at h ⊢
        cases z with
        | none => exact fun g => hk _ _ _ (h g)
        | some _ => exact h.elim
  case s2b e x =>
    simp only [evalOp] at h ⊢
    generalize ev ρ x = z at h ⊢
    split at h
    · exact fun g c F' a b e => hk _ _ _ (h g c F' a b e)
    · exact h.elim
  case makeS e sz b zs l c =>
    simp only [evalOp] at h ⊢
    generalize ev ρ l = z1 at h ⊢
    generalize ev ρ c = z2 at h ⊢
    split at h
    · rename_i k
      generalize L.get k = z at h ⊢
      cases z with
      | none => exact ⟨h.lo, h.eq, h.hi, h.max, fun g => hk _ _ _ (h.out g)⟩
      | some _ => exact h.elim
    · exact h.elim
  case store n a x =>
    simp only [evalOp] at h ⊢
    generalize len? (vcells (val L ρ x)) n = z1 at h ⊢
    generalize ones? (vcells (val L ρ x)) = z2 at h ⊢
    generalize ev ρ a = z3 at h ⊢
    split at h
    · rename_i k off
      generalize L.get k = z at h ⊢
      split at h
      · rename_i cs
        generalize len? ((cs.drop off).take n) n = b at h ⊢
        cases b
        · exact h.elim
        · exact hk _ _ _ h
      · exact h.elim
    · exact ⟨let ⟨k, v, t, sz, m, xs, ad, c, h1, h2, h3, h4, h5, h6⟩ := h.out; ⟨k, v, t, sz, m, xs, ad, c, h1, h2, h3, h4, h5, hk _ _ _ h6⟩⟩
    · exact ⟨let ⟨k, v, t, sz, m, xs, ad, c, h1, h2, h3, h4, h5, h6⟩ := h.out; ⟨k, v, t, sz, m, xs, ad, c, h1, h2, h3, h4, h5, hk _ _ _ h6⟩⟩
    · exact h.elim
  case storeD n a x =>
    simp only [evalOp] at h ⊢
    generalize len? (vcells (val L ρ x)) n = z1 at h ⊢
    generalize ones? (vcells (val L ρ x)) = z2 at h ⊢
    generalize ev ρ a = z3 at h ⊢
    split at h
    · rename_i k off
      generalize L.get k = z at h ⊢
      split at h
      · rename_i cs
        generalize len? ((cs.drop off).take n) n = b at h ⊢
        cases b
        · exact h.elim
        · exact hk _ _ _ h
      · exact h.elim
    · exact h.elim
  case call f args =>
    simp only [evalOp] at h ⊢
    exact CallPt.imp h fun _ _ _ h => hk _ _ _ h
  case callV f args =>
    simp only [evalOp] at h ⊢
    generalize ev ρ f = z at h ⊢
    split at h
    · exact CallPt.imp h fun _ _ _ h => hk _ _ _ h
    · exact h.elim
  case callO f args =>
    simp only [evalOp] at h ⊢
    exact CallPt.imp h fun _ _ _ h r => hk _ _ _ (h r)
  case callVO f args =>
    simp only [evalOp] at h ⊢
    generalize ev ρ f = z at h ⊢
    split at h
    · exact CallPt.imp h fun _ _ _ h r => hk _ _ _ (h r)
    · exact h.elim
  case callD f args =>
    simp only [evalOp] at h ⊢
    exact CallDPt.imp' h fun _ _ _ h => hk _ _ _ h
  case callVD f args =>
    simp only [evalOp] at h ⊢
    generalize ev ρ f = z at h ⊢
    split at h
    · exact CallDPt.imp' h fun _ _ _ h => hk _ _ _ h
    · exact h.elim
  case app e sz b zs s x =>
    simp only [evalOp] at h ⊢
    generalize ev ρ s = z1 at h ⊢
    generalize ev ρ x = z2 at h ⊢
    split at h
    · exact ⟨let ⟨kd, n, xs, m, news, h1, h2, h3, h4, h5, h6⟩ := h.out; ⟨kd, n, xs, m, news, h1, h2, h3, h4, h5, fun v hv => hk _ _ _ (h6 v hv)⟩⟩
    · exact h.elim
  case appX e sz b zs s x =>
    simp only [evalOp] at h ⊢
    generalize ev ρ s = z1 at h ⊢
    generalize ev ρ x = z2 at h ⊢
    split at h
    · exact ⟨let ⟨kd, n, xs, m, news, h1, h2, h3, h4, h5, h6⟩ := h.out; ⟨kd, n, xs, m, news, h1, h2, h3, h4, h5, fun v hv r => hk _ _ _ (h6 v hv r)⟩⟩
    · exact h.elim
  case appD e sz b zs s x =>
    simp only [evalOp] at h ⊢
    generalize ev ρ s = z1 at h ⊢
    generalize ev ρ x = z2 at h ⊢
    split at h
    · exact ⟨let ⟨kd, n, xs, m, news, h1, h2, h3, h4, h5, h6⟩ := h.out; ⟨kd, n, xs, m, news, h1, h2, h3, h4, h5, fun v hv r => hk _ _ _ (h6 v hv r)⟩⟩
    · exact h.elim
  case appS e s x =>
    simp only [evalOp] at h ⊢
    generalize ev ρ s = z1 at h ⊢
    generalize ev ρ x = z2 at h ⊢
    split at h
    · exact ⟨let ⟨kd, n, xs, h1, h2, h3, h4⟩ := h.out; ⟨kd, n, xs, h1, h2, h3, fun v hv => hk _ _ _ (h4 v hv)⟩⟩
    · exact h.elim
  case copy e sz dd x =>
    simp only [evalOp] at h ⊢
    generalize ev ρ dd = z1 at h ⊢
    generalize ev ρ x = z2 at h ⊢
    split at h
    · exact ⟨let ⟨k, n, v, nr, xs, ad, cr, cd, j, m, a, c, news, h1, h2, h3, h4, h5, h6, h7, h8, h9⟩ := h.out; ⟨k, n, v, nr, xs, ad, cr, cd, j, m, a, c, news, h1, h2, h3, h4, h5, h6, h7, h8, hk _ _ _ h9⟩⟩
    · exact h.elim
  all_goals
    simp only [evalOp] at h ⊢
    exact outV_imp h fun v h => hk _ _ _ h
theorem drawn_call {s s' : SOp} (h : drawn s = some s') : callOp s' = false := by
  cases s <;> simp only [drawn, Option.some.injEq, reduceCtorEq] at h <;> subst h <;> rfl
theorem drawnO_call {s s' : SOp} (h : drawnO s = some s') : callOp s' = false := by
  cases s <;> simp only [drawnO, Option.some.injEq, reduceCtorEq] at h <;> subst h <;> rfl
theorem lowRegD_ops {A : Ann} {ops : Array Oper} : ∀ {is : List Nat} {ss : List SStep}, lowRegD P A ops is = some ss → ∀ s ∈ ss, ∃ d o g, s = .op d o g ∧ callOp o = false := by
  intro is
  induction is with
  | nil => intro ss h s hs; simp only [lowRegD, Option.some.injEq] at h; subst h; cases hs
  | cons i is ih =>
    intro ss h s hs
    simp only [lowRegD] at h
    split at h
    case h_2 => cases h
    rename_i s0 ss0 h1 h2
    injection h with h
    subst h
    rcases List.mem_cons.1 hs with rfl | hs
    · unfold lowD at h1
      split at h1
      case h_1 => cases h1
      split at h1
      case h_2 => cases h1
      split at h1
      · split at h1
        case h_2 => cases h1
        rename_i s' hs'
        injection h1 with h1
        exact ⟨_, s', _, h1.symm, drawnO_call hs'⟩
      · split at h1
        case h_2 => cases h1
        rename_i s' hs'
        split at h1
        case h_2 => cases h1
        injection h1 with h1
        exact ⟨_, s', _, h1.symm, drawn_call hs'⟩
    · exact ih h2 s hs
theorem simOps {K : TK} : ∀ (ss : List SStep), (∀ s ∈ ss, ∃ d o g, s = SStep.op d o g ∧ callOp o = false) → ∀ {F : Frz} {L : Loc} {ρ : Env} {M : TL} {τ : TEnv}, TS G F L ρ M τ → evalTOps P true ss M τ K → evalOps P ss F L ρ (Both G K)
  | [], _, F, L, ρ, M, τ, ht, h => ⟨M, τ, ht, h⟩
  | s :: ss, hc, F, L, ρ, M, τ, ht, h => by
    obtain ⟨d, o, g, rfl, ho⟩ := hc s (by simp)
    have hc' : ∀ s ∈ ss, ∃ d o g, s = SStep.op d o g ∧ callOp o = false := fun s hs => hc s (by simp [hs])
    have goOn : ∀ {ρ : Env} {τ : TEnv}, TS G F L ρ M τ → evalTOp P o d M τ (fun M' τ' => evalTOps P true ss M' τ' K) → evalOp P o d F L ρ (fun F' L' ρ' => evalOps P ss F' L' ρ' (Both G K)) := by
      intro ρ τ ht h
      have := simOp ho ht h
      exact evalOp_imp this fun F' L' ρ' ⟨M', τ', h1, h2⟩ => simOps ss hc' h1 h2
    cases g with
    | none =>
      simp only [evalTOps_cons, stepT] at h
      simp only [evalOps]
      exact goOn ht h
    | some p =>
      obtain ⟨s, want⟩ := p
      simp only [evalTOps_cons, stepT] at h
      simp only [evalOps]
      split at h
      · rename_i b hb
        have hb' : ρ s = .v (.bool b) := inv_bool (x := .t s) ht.env hb
        simp only [hb']
        have htp : ∀ b', b = b' → TS G F L (Fr.put (some s) (.v (.bool b')) ρ) M (tput (some s) (.bool b') τ) := fun b' _ => ht.put relV_bool (some s)
        have hu : ∀ {ρ : Env} {τ : TEnv}, TS G F L ρ M τ → TS G F L (Fr.put d (.v undef) ρ) M (tput d .und τ) := fun ht => ht.put relV_und d
        cases b <;> simp only [brn] at h ⊢ <;> cases want <;> simp only [] at h ⊢
        · exact goOn (htp _ rfl) h
        · exact simOps ss hc' (hu (htp _ rfl)) h
        · exact simOps ss hc' (hu (htp _ rfl)) h
        · exact goOn (htp _ rfl) h
      · rename_i hb
        have hr := ht.env s
        rw [hb] at hr
        simp only [RelV, Rel] at hr
        obtain ⟨v, hb', rfl⟩ := hr
        simp only [hb', undef]
        exact simOps ss hc' (ht.put relV_und d) h
      · exact h.elim
/- code -/
theorem putsT_eq : ∀ (ls : List Nat) (vs : List C) (τ : TEnv) (j : Nat), putsT ls vs τ j = τ j ∨ ∃ (i : Nat) (c : C), ls[i]? = some j ∧ vs[i]? = some c ∧ putsT ls vs τ j = c
  | [], vs, τ, j => .inl rfl
  | k :: ls, [], τ, j => .inl rfl
  | k :: ls, v :: vs, τ, j => by
    simp only [putsT, tput_eq]
    split
    · rename_i h; subst h; exact .inr ⟨0, v, by simp, by simp, rfl⟩
    · rcases putsT_eq ls vs τ j with h | ⟨i, c, h1, h2, h3⟩
      · exact .inl h
      · exact .inr ⟨i + 1, c, by simpa using h1, by simpa using h2, h3⟩
theorem holdsT_at {M1 : TL} : ∀ {ls : List Nat} {vs : List C} {τ : TEnv}, holdsT M M1 ls vs τ → ∀ {i j : Nat} {c : C}, ls[i]? = some j → vs[i]? = some c → leC M M1 (τ j) c
  | [], vs, τ, h, i, j, c, e, _ => by simp at e
  | k :: ls, [], τ, h, i, j, c, _, e => by simp at e
  | k :: ls, v :: vs, τ, h, i, j, c, e1, e2 => by
    simp only [holdsT] at h
    cases i with
    | zero => simp at e1 e2; subst e1 e2; exact h.1
    | succ i => exact holdsT_at h.2 (by simpa using e1) (by simpa using e2)
theorem holdsT_wf {M1 : TL} (ht : TS G F L ρ M τ) : ∀ {ls : List Nat} {vs : List C}, vs.length = ls.length → holdsT M M1 ls vs τ → gives M M1 M1 → WfS vs
  | [], [], _, _, _ => by simp only [WfS]
  | [], v :: vs, hl, _, _ => by simp at hl
  | k :: ls, [], hl, _, _ => by simp at hl
  | k :: ls, v :: vs, hl, h, hg => by
    simp only [holdsT] at h
    simp only [WfS]
    refine ⟨?_, holdsT_wf ht (by simpa using hl) h.2 hg⟩
    have hr := cel_rel' (ht.env k)
    rcases h.1 with e | ⟨e, _⟩ | ⟨e1, e2⟩ | ⟨e1, k', t, sz, e2, _⟩ | ⟨els, e1, e2⟩
    · rw [e]; simp only [Wf]
    · rw [e] at hr
      have := hr.wf
      revert this
      cases v <;> simp [C.cel, Wf]
    · rw [e2]; simp [Wf, WfSS]
    · rw [e2]; simp only [Wf]
    · rw [e1] at hr
      have := (slx_sl hr).wf
      rw [e2]; exact this
theorem wf_row {M : TL} (ht : RelTL F L M) : ∀ {l : TL}, (∀ k o, l.get k = some o → M.get k = some o) → ∀ k o, l.get k = some o → o.Wf := by
  intro l h k o e
  rcases relK_get (ht k) with ⟨c1, _⟩ | ⟨q, p, c1, c2, hr⟩
  · rw [h k o e] at c1; cases c1
  · rw [h k o e] at c1
    injection c1 with c1
    subst c1
    exact hr.wf
/-- a tree that says nothing of rows -/
theorem unrw_leaf {L' : Loc} {F' : Frz} (hF : F.le F') (hk : ∀ k g t cs, L.get k = some (.box g t cs) → ∃ cs', L'.get k = some (.box g t cs')) :
    (∀ c v, C.leaf c = true → Rel F L c v → Rel F' L' (unrwLeaf c) v) ∧ (∀ c sv, C.leaf c = true → RelV F L c sv → RelV F' L' (unrwLeaf c) sv) := by
  have hb : ∀ {k : Nat}, (∃ g t cs, L.get k = some (.box g t cs)) → ∀ o, L.get k = some o → ∃ o', L'.get k = some o' ∧ Own.like o o' := by
    intro k hg o ho
    obtain ⟨g, t, cs, hg⟩ := hg
    rw [hg] at ho
    injection ho with ho
    subst ho
    obtain ⟨cs', h⟩ := hk k g t cs hg
    exact ⟨_, h, rfl⟩
  constructor
  · intro c v hc h
    cases c <;> simp only [C.leaf, Bool.false_eq_true] at hc <;> simp only [unrwLeaf]
    case rw => simp only [Rel]
    case elr => simp only [Rel]
    case own k off =>
      have h' := h
      simp only [Rel] at h'
      obtain ⟨g, t, cs, h1, _⟩ := h'
      refine rel_leaf hF (fun j e => ?_) rfl h
      rcases e with ⟨off, e⟩ | e
      · injection e with e e2; subst e; exact hb ⟨g, t, cs, h1⟩
      · cases e
    all_goals
      exact rel_leaf hF (fun j' e => by rcases e with ⟨off, e⟩ | e <;> cases e) rfl h
  · intro c sv hc h
    cases c <;> simp only [C.leaf, Bool.false_eq_true] at hc <;> simp only [unrwLeaf]
    case rw => trivial
    case elr => trivial
    case own k off =>
      have h' := h
      simp only [RelV] at h'
      refine relV_leaf hF (fun j e => ?_) rfl h
      rcases e with ⟨off, e⟩ | ⟨off, e⟩ | e | ⟨a, b, e⟩ <;> first | cases e; done | skip
      injection e with e e2
      subst e
      exact hb h'.2
    case ownv k off =>
      have h' := h
      simp only [RelV, Rel] at h'
      obtain ⟨v, _, g, t, cs, h1, _⟩ := h'
      refine relV_leaf hF (fun j e => ?_) rfl h
      rcases e with ⟨off, e⟩ | ⟨off, e⟩ | e | ⟨a, b, e⟩ <;> first | cases e; done | skip
      injection e with e e2
      subst e
      exact hb ⟨g, t, cs, h1⟩
    all_goals
      exact relV_leaf hF (fun j' e => by rcases e with ⟨off, e⟩ | ⟨off, e⟩ | e | ⟨a, b, e⟩ <;> cases e) rfl h
/-- the slot's place for a tree -/
def svOf (L : Loc) (c : C) (v : Value) : SV := match c with | .own k off => .own k off | .ownv _ _ => .v v | _ => .v v
theorem svOf_ok {c : C} {v : Value} (h : Rel F L c v) : RelV F L c (svOf L c v) ∧ conc L (svOf L c v) = v ∧ (∀ k off, svOf L c v = .own k off → ∃ g t cs, L.get k = some (.box g t cs)) ∧ (∀ ad j, svOf L c v ≠ .el ad j) := by
  cases c
  case own k off =>
    simp only [Rel] at h
    obtain ⟨g, t, cs, h, rfl⟩ := h
    refine ⟨⟨rfl, g, t, cs, h⟩, by simp only [svOf, conc, h], fun k' off' e => ?_, fun ad j e => (by cases e)⟩
    injection e with e1 e2
    subst e1
    exact ⟨g, t, cs, h⟩
  case pt es off =>
    simp only [Rel] at h
    obtain ⟨b, o, vs, rfl, h2, h3⟩ := h
    exact ⟨⟨b, o, 0, vs, .inl ⟨rfl, rfl⟩, h2, h3⟩, rfl, fun k' off' e => (by cases e), fun ad j e => (by cases e)⟩
  case ownv => exact h.elim
  case elr => exact h.elim
  case any => exact ⟨trivial, rfl, fun k' off' e => (by cases e), fun ad j e => (by cases e)⟩
  all_goals
    exact ⟨⟨v, rfl, h⟩, rfl, fun k' off' e => (by cases e), fun ad j e => (by cases e)⟩
/-- the head of a loop: a frame whose slots are known as far as it is said -/
theorem head_env {F0 : Frz} {L0 : Loc} {ρ0 : Env} {τ0 : TEnv} {a0 a1 : Act} {asg : List Nat} {ls : List Nat} {vs : List C} {L1 : Loc} {F1 : Frz} (he0 : EnvOk L0 ρ0 a0) (ht0 : ∀ j, RelV F0 L0 (τ0 j) (ρ0 j)) (hF : F0.le F1)
    (hb : ∀ k g t cs, L0.get k = some (.box g t cs) → ∃ cs', L1.get k = some (.box g t cs')) (hfr : ∀ j, j ∉ asg → a1.tmps.getD j undef = a0.tmps.getD j undef)
    (hv : ∀ (i j : Nat) c, ls[i]? = some j → vs[i]? = some c → Rel F1 L1 c (a1.tmps.getD j undef)) :
    ∃ ρ1, EnvOk L1 ρ1 a1 ∧ ∀ j, RelV F1 L1 (putsT ls vs (headE asg τ0) j) (ρ1 j) := by
  have key : ∀ j, ∃ sv, RelV F1 L1 (putsT ls vs (headE asg τ0) j) sv ∧ conc L1 sv = a1.tmps.getD j undef ∧ (∀ k off, sv = .own k off → ∃ g t cs, L1.get k = some (.box g t cs)) ∧ (∀ ad i, sv = .el ad i → ad ≠ none) := by
    intro j
    rcases putsT_eq ls vs (headE asg τ0) j with h | ⟨i, c, h1, h2, h3⟩
    · rw [h]
      simp only [headE]
      split
      · exact ⟨.v (a1.tmps.getD j undef), trivial, rfl, fun _ _ e => (by cases e), fun _ _ e => (by cases e)⟩
      · rename_i hm
        have hj : j ∉ asg := fun h => by rw [mem?_eq.2 h] at hm; cases hm
        obtain ⟨u1, u2⟩ := unrw_leaf hF hb
        refine ⟨ρ0 j, RelV.mp u1 u2 3 (ht0 j), ?_, ?_, he0.el j⟩
        · rw [hfr j hj, he0.eq j]
          cases e : ρ0 j with
          | v x => rfl
          | el x i => rfl
          | own k off =>
            obtain ⟨g, t, cs, hg⟩ := he0.own j k off e
            obtain ⟨cs', hg'⟩ := hb _ _ _ _ hg
            simp only [conc, hg, hg']
        · intro k off e
          obtain ⟨g, t, cs, hg⟩ := he0.own j k off e
          obtain ⟨cs', hg'⟩ := hb _ _ _ _ hg
          exact ⟨g, t, cs', hg'⟩
    · rw [h3]
      obtain ⟨s1, s2, s3, s4⟩ := svOf_ok (hv i j c h1 h2)
      exact ⟨_, s1, s2, s3, fun ad i e => absurd e (s4 ad i)⟩
  refine ⟨fun j => (key j).choose, ⟨fun t => ?_, fun t k off e => ?_, fun t ad j e => ?_⟩, fun j => (key j).choose_spec.1⟩
  · exact (key t).choose_spec.2.1.symm
  · exact (key t).choose_spec.2.2.1 k off e
  · exact (key t).choose_spec.2.2.2 ad j e

theorem next2_imp {n : Nat} {F : Frz} {L : Loc} {w : World} {a : Act} {asg : List Nat} {K K' : Kont} {a' : Act} {w' : World} (h : Next2 n F L w a asg K a' w') (hk : ∀ {F' L' ρ'}, K F' L' ρ' → K' F' L' ρ') : Next2 n F L w a asg K' a' w' := by
  obtain ⟨F', L', ρ', h1, h2, h3, h4, h5, h6, h7⟩ := h
  exact ⟨F', L', ρ', h1, h2, h3, h4, h5, h6, hk h7⟩
theorem ghostsT_sound {P : Program} {G : Nat → Option (Nat × TypeId)} {ρ : Env} {a : Act} {w : World} {rest : List SStep} {K : TK} : ∀ (ks : List Nat) {F : Frz} {L : Loc} {M : TL} {τ : TEnv}, St F L w → EnvOk L ρ a → TS G F L ρ M τ → evalTOps P false (ks.map SStep.frz ++ rest) M τ K →
    ∃ F' L' M' τ', St F' L' w ∧ EnvOk L' ρ a ∧ Step F L w F' L' w ∧ TS G F' L' ρ M' τ' ∧ evalTOps P false rest M' τ' K := by
  intro ks
  induction ks with
  | nil => intro F L M τ hs he ht h; exact ⟨F, L, M, τ, hs, he, Step.refl _ _ _, ht, h⟩
  | cons k ks ihk =>
    intro F L M τ hs he ht h
    simp only [List.map_cons, List.cons_append, evalTOps_cons, stepT, fT_eq] at h
    split at h
    case h_2 => exact h.elim
    rename_i t sz els hk
    obtain ⟨F1, L1, g1, g2, g3, g4, _⟩ := frz1_sound hs he ht hk
    obtain ⟨F2, L2, M2, τ2, k1, k2, k3, k4, k5⟩ := ihk g1 g2 g4 h
    exact ⟨F2, L2, M2, τ2, k1, k2, g3.trans k3, k4, k5⟩
theorem frzDT_sound {P : Program} {G : Nat → Option (Nat × TypeId)} {ρ : Env} {a : Act} {w : World} {ss : List SStep} {E : Nat → TK} {R N : TK} {F : Frz} {L : Loc} {M : TL} {τ : TEnv} : ∀ (ks : List Nat), St F L w → EnvOk L ρ a → TS G F L ρ M τ → evalTC P (frzD ks (.regD ss)) E R N M τ →
    ∃ F' L' M' τ', St F' L' w ∧ EnvOk L' ρ a ∧ Step F L w F' L' w ∧ TS G F' L' ρ M' τ' ∧ evalTOps P true ss M' τ' N
  | [], hs, he, ht, h => ⟨F, L, M, τ, hs, he, Step.refl _ _ _, ht, h⟩
  | k :: l, hs, he, ht, h => by
    have h' : evalTOps P false ((k :: l).map SStep.frz ++ []) M τ (fun M τ => evalTOps P true ss M τ N) := by rw [List.append_nil]; exact h
    obtain ⟨F1, L1, M1, τ1, h1, h2, h3, h4, h5⟩ := ghostsT_sound (k :: l) hs he ht h'
    exact ⟨F1, L1, M1, τ1, h1, h2, h3, h4, h5⟩

theorem evalTC_sound {A : Ann} : ∀ (c : Code) {sc : SCode}, low P A c = some sc → ∀ {G : Nat → Option (Nat × TypeId)} {E : Nat → TK} {R N : TK} {F : Frz} {L : Loc} {ρ : Env} {M : TL} {τ : TEnv} {a : Act} {w : World}, St F L w → EnvOk L ρ a → TS G F L ρ M τ → a.tmps.size = A.n → a.defers = [] →
    evalTC P sc E R N M τ → c.wp P (QQ A.n F L w a (asgOf c) (fun j => Both G (E j)) (Both G R) (Both G N)) a w := by
  intro c
  induction c with
  | skip =>
    intro sc hl G E R N F L ρ M τ a w hs he ht hn hd hK
    simp only [low, Option.some.injEq] at hl; subst hl
    exact wp_skip ⟨F, L, ρ, hs, he, hn, hd, Step.refl _ _ _, fun _ _ => rfl, M, τ, ht, hK⟩
  | label l =>
    intro sc hl G E R N F L ρ M τ a w hs he ht hn hd hK
    simp only [low, Option.some.injEq] at hl; subst hl
    exact wp_label ⟨F, L, ρ, hs, he, hn, hd, Step.refl _ _ _, fun _ _ => rfl, M, τ, ht, hK⟩
  | exit id =>
    intro sc hl G E R N F L ρ M τ a w hs he ht hn hd hK
    simp only [low, Option.some.injEq] at hl; subst hl
    exact wp_exit ⟨F, L, ρ, hs, he, hn, hd, Step.refl _ _ _, fun _ _ => rfl, M, τ, ht, hK⟩
  | ret =>
    intro sc hl G E R N F L ρ M τ a w hs he ht hn hd hK
    simp only [low, Option.some.injEq] at hl; subst hl
    exact wp_ret ⟨F, L, ρ, hs, he, hn, hd, Step.refl _ _ _, fun _ _ => rfl, M, τ, ht, hK⟩
  | region r ops draw =>
    intro sc hl G E R N F L ρ M τ a w hs he ht hn hd hK
    cases draw with
    | false =>
      simp only [low] at hl
      split at hl
      case h_2 => cases hl
      rename_i ss hss
      injection hl with hl; subst hl
      simp only [evalTC_skip, evalTC_reg, evalTC_regD, evalTC_seq, evalTC_cond, evalTC_block, evalTC_loop, evalTC_exit, evalTC_ret] at hK
      exact wp_region (evalTOps_sound _ hss hs he ht hn hd hK fun a' w' h => h)
    | true =>
      simp only [low] at hl
      split at hl
      case h_2 => cases hl
      rename_i is cl ss h1 h2
      split at hl
      case h_2 => cases hl
      rename_i h3
      injection hl with hl; subst hl
      obtain ⟨F1, L1, M1, τ1, hs1, he1, hst1, ht1, hK⟩ := frzDT_sound _ hs he ht hK
      have h4 : ordIs A.ord r = is := by simp only [ordIs, h1]
      rw [h4] at h2
      exact draw_sound h2 h3 hs1 he1 hn hd (simOps ss (lowRegD_ops h2) ht1 hK) fun a' w' h => Next2.after (asg1 := []) hst1 (fun _ _ => rfl) h (fun _ h => absurd h List.not_mem_nil) (fun _ h => h)
  | seq x y ihx ihy =>
    intro sc hl G E R N F L ρ M τ a w hs he ht hn hd hK
    simp only [low] at hl
    split at hl
    case h_2 => cases hl
    rename_i h1 h2
    injection hl with hl; subst hl
    simp only [evalTC_skip, evalTC_reg, evalTC_regD, evalTC_seq, evalTC_cond, evalTC_block, evalTC_loop, evalTC_exit, evalTC_ret] at hK
    refine wp_seq (wp_mono (ihx h1 hs he ht hn hd hK) ?_)
    intro e a1 w1 hq
    cases e with
    | normal =>
      obtain ⟨F1, L1, ρ1, g1, g2, g3, g4, g5, g6, M1, τ1, g7, g8⟩ := hq
      refine wp_mono (ihy h2 g1 g2 g7 g3 g4 g8) ?_
      intro e2 a2 w2 hq2
      cases e2 <;> first
        | exact Next2.after g5 g6 hq2 (fun j h => List.mem_append.2 (.inl h)) (fun j h => List.mem_append.2 (.inr h))
        | exact hq2
    | exit id => exact hq.mono fun j h => List.mem_append.2 (.inl h)
    | ret => exact hq.mono fun j h => List.mem_append.2 (.inl h)
    | goto l => exact hq
    | panic c => exact hq
    | outgrown => exact hq
  | cond c x y ihx ihy =>
    intro sc hl G E R N F L ρ M τ a w hs he ht hn hd hK
    simp only [low] at hl
    split at hl
    case h_2 => cases hl
    rename_i h0 h1 h2
    injection hl with hl; subst hl
    simp only [evalTC_skip, evalTC_reg, evalTC_regD, evalTC_seq, evalTC_cond, evalTC_block, evalTC_loop, evalTC_exit, evalTC_ret] at hK
    split at hK
    case h_2 => exact hK.elim
    rename_i t htb
    have hc : a.eval c = .bool t := by rw [lowX_eval h0 he, val_v (inv_bool ht.env htb)]
    refine wp_cond hc ?_
    cases t
    · simp only [brn] at hK
      refine wp_mono (ihy h2 hs he ht hn hd hK) ?_
      intro e a1 w1 hq
      cases e <;> first
        | exact hq.mono fun j h => List.mem_append.2 (.inr h)
        | exact hq
    · simp only [brn] at hK
      refine wp_mono (ihx h1 hs he ht hn hd hK) ?_
      intro e a1 w1 hq
      cases e <;> first
        | exact hq.mono fun j h => List.mem_append.2 (.inl h)
        | exact hq
  | block id x ih =>
    intro sc hl G E R N F L ρ M τ a w hs he ht hn hd hK
    simp only [low] at hl
    split at hl
    case h_2 => cases hl
    rename_i h1
    injection hl with hl; subst hl
    simp only [evalTC_skip, evalTC_reg, evalTC_regD, evalTC_seq, evalTC_cond, evalTC_block, evalTC_loop, evalTC_exit, evalTC_ret] at hK
    refine wp_block (wp_mono (ih h1 hs he ht hn hd hK) ?_)
    intro e a1 w1 hq
    cases e with
    | exit j =>
      simp only [Exit.inBlock]
      simp only [QQ] at hq
      by_cases hj : j = id
      · subst hj
        have hb : Nat.beq j j = true := by simp
        rw [hb] at hq
        rw [if_pos rfl]
        exact hq
      · have hb : Nat.beq j id = false := by
          cases h : Nat.beq j id with
          | true => exact absurd (Nat.eq_of_beq_eq_true h) hj
          | false => rfl
        rw [hb] at hq
        rw [if_neg hj]
        exact hq
    | normal => exact hq
    | ret => exact hq
    | goto l => exact hq
    | panic c => exact hq
    | outgrown => exact hq
  | loop x ih =>
    intro sc hl G E R N F L ρ M τ a w hs he ht hn hd hK
    simp only [low] at hl
    split at hl
    case h_2 => cases hl
    rename_i sx h1
    injection hl with hl; subst hl
    simp only [evalTC_skip, evalTC_reg, evalTC_regD, evalTC_seq, evalTC_cond, evalTC_block, evalTC_loop, evalTC_exit, evalTC_ret] at hK
    obtain ⟨σ, x0, Inv, ls, lv, Lf, μ, i0, i1, i2, i3, i4, i5⟩ := hK
    -- the boxes that there are, with their addresses
    let G1 : Nat → Option (Nat × TypeId) := fun k => match L.get k with | some (.box g t _) => some (g, t) | _ => none
    have hG1 : ∀ k g t cs, L.get k = some (.box g t cs) → G1 k = some (g, t) := fun k g t cs e => by simp only [G1, e]
    have hkp1 : Kp G1 L := by
      intro k g t e
      simp only [G1] at e
      split at e
      · rename_i g' t' cs h
        injection e with e
        injection e with e1 e2
        subst e1 e2
        exact ⟨cs, h⟩
      · cases e
    have hG : ∀ {L' : Loc}, Kp G1 L' → Kp G L' := fun hk k g t e => let ⟨cs, h⟩ := ht.kp k g t e; hk k g t (hG1 k g t cs h)
    have hbox : ∀ {L' : Loc}, Kp G1 L' → ∀ k g t cs, L.get k = some (.box g t cs) → ∃ cs', L'.get k = some (.box g t cs') := fun hk k g t cs h => hk k g t (hG1 k g t cs h)
    have both : ∀ {K : TK} {F' L' ρ'}, Both G1 K F' L' ρ' → Both G K F' L' ρ' := fun ⟨M', τ', h1, h2⟩ => ⟨M', τ', ⟨h1.tl, h1.env, hG h1.kp⟩, h2⟩
    have wfs : ∀ {F' : Frz} {L' : Loc} {M' : TL}, RelTL F' L' M' → (∀ k o, M'.get k = some o → o.Wf) := fun h k o e => wf_row h (fun _ _ e => e) k o e
    -- a round's end, or what is ahead of the first round, is a head
    have enter : ∀ (y : σ) (F1 : Frz) (L1 : Loc) (ρ1 : Env) (M1 : TL) (τ1 : TEnv) (a1 : Act) (w1 : World), F.le F1 → St F1 L1 w1 → EnvOk L1 ρ1 a1 → TS G1 F1 L1 ρ1 M1 τ1 → (∀ j, j ∉ asgOf x → a1.tmps.getD j undef = a.tmps.getD j undef) →
        holdsT M1 (Lf y) ls (lv y) τ1 → gives M1 (Lf y) (Lf y) → ∃ L2, St F1 L2 w1 ∧ Step F1 L1 w1 F1 L2 w1 ∧ RelTL F1 L2 (Lf y) ∧ Kp G1 L2 ∧ WfS (lv y) ∧
          ∃ ρ2, EnvOk L2 ρ2 a1 ∧ ∀ j, RelV F1 L2 (putsT ls (lv y) (headE (asgOf x) τ) j) (ρ2 j) := by
      intro y F1 L1 ρ1 M1 τ1 a1 w1 hle hs1 he1 ht1 hfr hh hg
      obtain ⟨g1, g2⟩ := gives_St hs1 ht1.tl hg
      have hkp : Kp G1 (mkL L1 (Lf y)) := by
        intro k g t e
        obtain ⟨cs, hL1⟩ := ht1.kp k g t e
        obtain ⟨cs0, hL0⟩ := hkp1 k g t e
        refine ⟨cs, ?_⟩
        rcases relK_get (ht.tl k) with ⟨c1, c2⟩ | ⟨q, p, c1, c2, hr⟩
        · rw [hL0] at c2; cases c2
        · rw [hL0] at c2
          injection c2 with c2
          subst c2
          cases q with
          | row => exact hr.elim
          | box t' cs' =>
            obtain ⟨t2, cs2, e2⟩ := keepsT_box (i3 y) c1
            rw [mkL_get, e2]
            simp only [hL1]
      refine ⟨mkL L1 (Lf y), g1, g2, gives_tl ht1.tl hg, hkp, holdsT_wf ht1 (i4 y) hh hg, head_env he ht.env hle (hbox hkp) hfr ?_⟩
      intro i j c e1 e2
      have hr := cel_rel' (ht1.env j)
      have hv : a1.tmps.getD j undef = conc L1 (ρ1 j) := he1.eq j
      rw [hv]
      have hle1 := holdsT_at hh e1 e2
      rcases hle1 with e | ⟨e, hk⟩ | ⟨e, e'⟩ | ⟨e, k', t', sz', e', q1, q2⟩ | ⟨els, e, e'⟩
      · rw [e]; simp only [Rel]
      · have hc : (τ1 j).cel = τ1 j := by
          rw [e]
          rw [e] at hr
          cases c <;> first | rfl | (simp only [hasKeysA, hasKeys, Bool.false_eq_true] at hk; done)
        rw [hc] at hr
        exact leC_rel ht1.tl (.inr (.inl ⟨e, hk⟩)) hr
      · rw [e] at hr
        exact leC_rel ht1.tl (.inr (.inr (.inl ⟨rfl, e'⟩))) hr
      · rw [e] at hr
        exact leC_rel ht1.tl (.inr (.inr (.inr (.inl ⟨rfl, k', t', sz', e', q1, q2⟩)))) hr
      · rw [e] at hr
        exact leC_rel ht1.tl (.inr (.inr (.inr (.inr ⟨els, rfl, e'⟩)))) hr
    refine wp_loop_n (fun n a1 w1 => ∃ (y : σ) (F1 : Frz) (L1 : Loc), n = μ y ∧ F.le F1 ∧ Inv y ∧ St F1 L1 w1 ∧ a1.tmps.size = A.n ∧ a1.defers = [] ∧ Step F L w F1 L1 w1 ∧ (∀ j, j ∉ asgOf x → a1.tmps.getD j undef = a.tmps.getD j undef) ∧
      RelTL F1 L1 (Lf y) ∧ Kp G1 L1 ∧ WfS (lv y) ∧ ∃ ρ1, EnvOk L1 ρ1 a1 ∧ ∀ j, RelV F1 L1 (putsT ls (lv y) (headE (asgOf x) τ) j) (ρ1 j)) ?_ ?_
    · obtain ⟨L2, k1, k2, k3, k4, k5, k6⟩ := enter x0 F L ρ M τ a w (Frz.le_refl F) hs he ⟨ht.tl, ht.env, hkp1⟩ (fun _ _ => rfl) i1 i2
      exact ⟨_, x0, F, L2, rfl, Frz.le_refl F, i0, k1, hn, hd, k2, fun _ _ => rfl, k3, k4, k5, k6⟩
    · rintro n a1 w1 ⟨y, F1, L1, rfl, hle, hinv, hs1, hn1, hd1, hst1, hfr1, htl1, hkp, hwf, ρ1, he1, henv1⟩
      refine wp_mono (ih h1 hs1 he1 (⟨htl1, henv1, hkp⟩ : TS G1 F1 L1 ρ1 (Lf y) (putsT ls (lv y) (headE (asgOf x) τ))) hn1 hd1 (i5 y hinv hwf (wfs htl1))) ?_
      intro e a2 w2 hq
      cases e with
      | normal =>
        obtain ⟨F2, L2, ρ2, g1, g2, g3, g4, g5, g6, M2, τ2, g7, y', k1, k2, k3, k4⟩ := hq
        have hfr2 : ∀ j, j ∉ asgOf x → a2.tmps.getD j undef = a.tmps.getD j undef := fun j hj => by rw [g6 j hj, hfr1 j hj]
        obtain ⟨L3, q1, q2, q3, q4, q5, q6⟩ := enter y' F2 L2 ρ2 M2 τ2 a2 w2 (Frz.le_trans hle g5.le) g1 g2 g7 hfr2 k2 k3
        exact ⟨μ y', k4, y', F2, L3, rfl, Frz.le_trans hle g5.le, k1, q1, g3, g4, (hst1.trans g5).trans q2, hfr2, q3, q4, q5, q6⟩
      | exit j => exact Next2.after hst1 hfr1 (next2_imp hq both) (fun j h => h) (fun j h => h)
      | ret => exact Next2.after hst1 hfr1 (next2_imp hq both) (fun j h => h) (fun j h => h)
      | goto l => exact hq
      | panic c => exact hq
      | outgrown => exact hq
  | rangeFunc f ps x y ihx ihy => intro sc hl; simp only [low] at hl; cases hl
  | scope x ih => intro sc hl; simp only [low] at hl; cases hl
  | goto l => intro sc hl; simp only [low] at hl; cases hl
  | refuse why => intro sc hl; simp only [low] at hl; cases hl
end
end Go.Fr.T
