/- The evaluator speaks of the model's code: regions whose order is the text's, control, functions. -/
import Derived.Test.YtgapnemcomkomaaFrSound
set_option linter.unusedVariables false
set_option linter.unusedSimpArgs false
namespace Go.Fr
open Go Go.RowKit

/-- what a lowering is told: which slices' literals are owned, what is frozen ahead of which operation, in which order a drawn region is read, how many slots there are -/
structure Ann where
  n : Nat
  own : List Nat := []
  frz : List (Nat × Nat × List Nat) := []
  ord : List (Nat × List Nat × List (List Nat)) := []
  co : List Nat := []
def Ann.owned (A : Ann) : Option Nat → Bool
  | some d => mem? A.own d
  | none => false
def Ann.isO (A : Ann) : Option Nat → Bool
  | some d => mem? A.co d
  | none => false
def frzAt : List (Nat × Nat × List Nat) → Nat → Nat → List Nat
  | [], _, _ => []
  | (r, i, ks) :: l, r', i' => match Nat.beq r r' && Nat.beq i i' with | true => ks | false => frzAt l r' i'
def ordAt : List (Nat × List Nat × List (List Nat)) → Nat → Option (List Nat × List (List Nat))
  | [], _ => none
  | (r, is) :: l, r' => match Nat.beq r r' with | true => some is | false => ordAt l r'
def ordIs (l : List (Nat × List Nat × List (List Nat))) (r : Nat) : List Nat := match ordAt l r with | some (is, _) => is | none => []
def lowGuard (ops : Array Oper) : Option (Nat × Bool) → Option (Option (Nat × Bool))
  | none => some none
  | some (j, b) => match (ops[j]?).bind (·.dst) with
    | some d => some (some (d, b))
    | none => none
def dstIn (n : Nat) : Option Nat → Bool
  | none => true
  | some d => Nat.blt d n
def lowReg (P : Program) (A : Ann) (r : Nat) (ops : Array Oper) : List Nat → Option (List SStep)
  | [] => some []
  | i :: is => match ops[i]? with
    | none => none
    | some o => match lowGuard ops o.guard, lowOp P (A.owned o.dst) o.op, dstIn A.n o.dst, lowReg P A r ops is with
      | some g, some s, true, some rest => some ((frzAt A.frz r i).map .frz ++ .op o.dst s g :: rest)
      | _, _, _, _ => none

section
variable {P : Program} {F : Frz} {L : Loc} {ρ : Env} {a : Act} {w : World} {K : Kont} {Q : Exit → Act → World → Prop}

/-- a state on the way from another one, with what holds of it -/
def Next2 (n : Nat) (F : Frz) (L : Loc) (w : World) (a : Act) (asg : List Nat) (K : Kont) (a' : Act) (w' : World) : Prop :=
  ∃ F' L' ρ', St F' L' w' ∧ EnvOk L' ρ' a' ∧ a'.tmps.size = n ∧ a'.defers = [] ∧ Step F L w F' L' w' ∧ (∀ j, j ∉ asg → a'.tmps.getD j undef = a.tmps.getD j undef) ∧ K F' L' ρ'

theorem frz_sound {k : Nat} {KK : Frz → Loc → Prop} (hs : St F L w) (he : EnvOk L ρ a) (h : FrzPt F L k KK) : ∃ F' L', St F' L' w ∧ EnvOk L' ρ a ∧ Step F L w F' L' w ∧ KK F' L' := by
  obtain ⟨v, t, sz, n, xs, hk, hK⟩ := h
  have hrow := hs.own k _ hk
  simp only [Own.ok] at hrow
  have hs1 := hs.part (Loc.part_del L k)
  have he1 : EnvOk (L.del k) ρ a := by
    have hb : ∀ j g ty cs, L.get j = some (.box g ty cs) → (L.del k).get j = some (.box g ty cs) := by
      intro j g ty cs e
      rw [Loc.get_del]
      split
      · rename_i hj; subst hj; rw [hk] at e; cases e
      · exact e
    refine ⟨fun j => ?_, fun j k' off e => ?_, he.el⟩
    · rw [he.eq j]
      cases e : ρ j with
      | v x => rfl
      | el x y => rfl
      | own k' off =>
        obtain ⟨g, ty, cs, hg⟩ := he.own j k' off e
        simp only [conc, hg, hb k' g ty cs hg]
    · obtain ⟨g, ty, cs, hg⟩ := he.own j k' off e
      exact ⟨g, ty, cs, hb k' g ty cs hg⟩
  have hno : ∀ g, v.ownBlock = some g → ¬ (L.del k).owns g := by
    rintro g hg ⟨j, p, e, hb⟩
    rw [Loc.get_del] at e
    split at e
    · cases e
    · rename_i hj
      exact hj (hs.sep j k p _ g e hk hb hg)
  obtain ⟨hx, hrow'⟩ := hrow
  rcases hrow' with ⟨rfl, rfl⟩ | ⟨g, cap, cur, rfl, hb0, hg, hnc, hcm, hcs, htake⟩
  · refine ⟨F, L.del k, hs1, he1, ⟨Frz.le_refl F, rfl, rfl, rfl, Nat.le_refl _, fun _ _ _ => rfl, fun b h => .inl h, fun b h => .inl (Loc.owns_del h)⟩, hK F (Frz.le_refl F) (.inl ⟨rfl, rfl, List.eq_nil_of_length_eq_zero (by simpa using hx)⟩)⟩
  · have hle := Frz.le_add hs hg
    refine ⟨_, L.del k, hs1.freeze hg (hno g rfl), he1, ⟨hle, rfl, rfl, rfl, Nat.le_refl _, fun _ _ _ => rfl, fun b h => ?_, fun b h => .inl (Loc.owns_del h)⟩, hK _ hle (.inr ⟨⟨g, 0, none⟩, cap, rfl, ⟨_, cur, t, (0, 0), rfl, if_pos rfl, rfl, fun i u hu => ?_⟩, hnc⟩)⟩
    · by_cases hbg : b = g
      · subst hbg; exact .inr (.inl ⟨k, _, hk, rfl⟩)
      · simp only [if_neg hbg] at h; exact .inl h
    · rw [← htake, List.getElem?_take] at hu
      split at hu
      · simpa using hu
      · cases hu

theorem frzB_sound {k g : Nat} {t : TypeId} {cs : List Value} (hs : St F L w) (he : EnvOk L ρ a) (hk : L.get k = some (.box g t cs)) :
    ∃ F', F.le F' ∧ F' g = some (.cells cs.toArray t (0, 0)) ∧ St F' (L.del k) w ∧ EnvOk (L.del k) (unown k g ρ) a ∧ Step F L w F' (L.del k) w := by
  have hg := hs.own k _ hk
  simp only [Own.ok] at hg
  have hs1 := hs.part (Loc.part_del L k)
  have hle := Frz.le_add hs hg
  have hno : ¬ (L.del k).owns g := by
    rintro ⟨j, p, e, hb⟩
    rw [Loc.get_del] at e
    split at e
    · cases e
    · rename_i hj
      exact hj (hs.sep j k p _ g e hk hb rfl)
  refine ⟨_, hle, if_pos rfl, hs1.freeze hg hno, ⟨fun j => ?_, fun j k' off e => ?_, fun j ad i e => ?_⟩, ⟨hle, rfl, rfl, rfl, Nat.le_refl _, fun _ _ _ => rfl, fun b h => ?_, fun b h => .inl (Loc.owns_del h)⟩⟩
  · rw [he.eq j]
    simp only [unown]
    cases e : ρ j with
    | v x => rfl
    | el x y => rfl
    | own k' off =>
      simp only []
      cases hb : Nat.beq k' k with
      | true =>
        have := Nat.eq_of_beq_eq_true hb
        subst this
        simp only [conc, hk]
      | false =>
        have hne : k' ≠ k := fun e => by rw [e] at hb; simp at hb
        simp only [conc]
        rw [Loc.get_del, if_neg hne]
  · simp only [unown] at e
    split at e
    · rename_i k2 off2 e2
      cases hb : Nat.beq k2 k with
      | true => rw [hb] at e; cases e
      | false =>
        rw [hb] at e
        injection e with e3 e4
        subst e3
        have hne : k2 ≠ k := fun e => by rw [e] at hb; simp at hb
        rw [Loc.get_del, if_neg hne]
        exact he.own j k2 off2 e2
    · cases e
    · cases e
  · simp only [unown] at e
    split at e
    · split at e <;> cases e
    · cases e
    · rename_i a2 i2 e2
      injection e with h1 h2
      subst h1
      exact he.el j _ _ e2
  · by_cases hbg : b = g
    · subst hbg; exact .inr (.inl ⟨k, _, hk, rfl⟩)
    · simp only [if_neg hbg] at h; exact .inl h

theorem getD_bool {s : Nat} {b : Bool} (h : a.tmps.getD s undef = .bool b) : a.tmps[s]? = some (.bool b) := by
  rw [Array.getD_eq_getD_getElem?] at h
  cases e : a.tmps[s]? with
  | none => rw [e] at h; simp [undef] at h
  | some v => rw [e] at h; simp at h; rw [h]

theorem put_same {ρ : Env} {s : Nat} {v : Value} (h : ρ s = .v v) : put (some s) (.v v) ρ = ρ := by
  funext t
  rw [put_eq]
  simp only []
  split
  · rename_i h1; subst h1; exact h.symm
  · rfl

def dstsOf (ops : Array Oper) : List Nat → List Nat
  | [] => []
  | i :: is => match (ops[i]?).bind (·.dst) with | some d => d :: dstsOf ops is | none => dstsOf ops is

theorem put_frame {d : Option Nat} {v : Value} {j : Nat} (h : d ≠ some j) : (a.put d v).tmps.getD j undef = a.tmps.getD j undef := by
  cases d with
  | none => rfl
  | some k =>
    simp only [Act.put, Array.getD_eq_getD_getElem?, Array.getElem?_setIfInBounds]
    rw [if_neg (by intro e; exact h (by rw [e]))]

theorem wp_frame {o : Oper} {asg : List Nat} {KK : Act → World → Prop} (hr : o.wp P a w KK Q) :
    o.wp P a w (fun a' w' => KK a' w' ∧ ∀ j, o.dst ≠ some j → a'.tmps.getD j undef = a.tmps.getD j undef) Q := by
  unfold Oper.wp at hr ⊢
  generalize (execOp a.eval o).run P w = r at hr ⊢
  cases r with
  | ok nx w' =>
    cases nx <;> simp only [Oper.upon] at hr ⊢ <;> first
      | exact ⟨hr, fun j h => put_frame h⟩
      | exact Calls.mono hr (fun e w'' he => by cases e <;> first | exact ⟨he, fun j h => put_frame h⟩ | exact he)
      | exact Rows.mono hr (fun v w'' he => ⟨he, fun j h => put_frame h⟩)
  | halt x w' => cases x <;> simp only [Oper.upon] at hr ⊢ <;> exact hr

/-- the operations of a region, one after the other -/
theorem evalOps_sound {A : Ann} {r : Nat} {ops : Array Oper} : ∀ (is : List Nat) {ss : List SStep} {F : Frz} {L : Loc} {ρ : Env} {a : Act} {w : World}, lowReg P A r ops is = some ss → St F L w → EnvOk L ρ a → a.tmps.size = A.n → a.defers = [] →
    evalOps P ss F L ρ K → (∀ a' w', Next2 A.n F L w a (dstsOf ops is) K a' w' → Q .normal a' w') → wpOps P ops Q is a w := by
  intro is
  induction is with
  | nil =>
    intro ss F L ρ a w hl hs he hn hdf hK hQ
    simp only [lowReg, Option.some.injEq] at hl
    subst hl
    exact hQ a w ⟨F, L, ρ, hs, he, hn, hdf, Step.refl _ _ _, fun _ _ => rfl, hK⟩
  | cons i is ih =>
    intro ss F L ρ a w hl hs he hn hdf hK hQ
    simp only [lowReg] at hl
    split at hl
    case h_1 => cases hl
    rename_i o hi
    split at hl
    case h_2 => cases hl
    rename_i g s rest hg hop hdst hrest
    injection hl with hl
    subst hl
    -- the ghosts
    have ghosts : ∀ (ks : List Nat) {F : Frz} {L : Loc} {ρ : Env}, St F L w → EnvOk L ρ a → evalOps P (ks.map SStep.frz ++ .op o.dst s g :: rest) F L ρ K →
        ∃ F' L' ρ', St F' L' w ∧ EnvOk L' ρ' a ∧ Step F L w F' L' w ∧ evalOps P (.op o.dst s g :: rest) F' L' ρ' K := by
      intro ks
      induction ks with
      | nil => intro F L ρ hs he h; exact ⟨F, L, ρ, hs, he, Step.refl _ _ _, h⟩
      | cons k ks ihk =>
        intro F L ρ hs he h
        simp only [List.map_cons, List.cons_append, evalOps] at h
        split at h
        · rename_i g' t' cs' hk
          obtain ⟨F1, hle, hg1, hs1, he1, hst1⟩ := frzB_sound hs he hk
          obtain ⟨F2, L2, ρ2, hs2, he2, hst2, h2⟩ := ihk hs1 he1 (h F1 hle hg1)
          exact ⟨F2, L2, ρ2, hs2, he2, hst1.trans hst2, h2⟩
        · obtain ⟨F1, L1, hs1, he1, hst1, h1⟩ := frz_sound hs he h
          obtain ⟨F2, L2, ρ2, hs2, he2, hst2, h2⟩ := ihk hs1 he1 h1
          exact ⟨F2, L2, ρ2, hs2, he2, hst1.trans hst2, h2⟩
    obtain ⟨F1, L1, ρ1, hs1, he1, hst1, hK⟩ := ghosts _ hs he hK
    clear ghosts
    clear he
    have he := he1
    have hd : ∀ k, o.dst = some k → k < a.tmps.size := by
      intro k hk
      rw [hk] at hdst
      rw [hn]
      have h2 : Nat.blt k A.n = true := hdst
      simpa using h2
    have hdsts : dstsOf ops (i :: is) = match o.dst with | some d => d :: dstsOf ops is | none => dstsOf ops is := by
      simp only [dstsOf, hi, Option.bind_some]
    have notin : ∀ j, j ∉ dstsOf ops (i :: is) → o.dst ≠ some j ∧ j ∉ dstsOf ops is := by
      intro j hj
      rw [hdsts] at hj
      cases ho : o.dst with
      | none => rw [ho] at hj; exact ⟨by simp, hj⟩
      | some d =>
        rw [ho] at hj
        simp only [List.mem_cons, not_or] at hj
        exact ⟨by simp; exact fun e => hj.1 e.symm, hj.2⟩
    have goOn : evalOp P s o.dst F1 L1 ρ1 (fun F' L' ρ' => evalOps P rest F' L' ρ' K) → o.wp P a w (wpOps P ops Q is) Q := by
      intro hK
      have := evalOp_sound (Q := Q) hs1 he1 hd hop hK
      refine Oper.wp_mono ?_ (wp_frame (asg := []) this)
      rintro a' w' ⟨⟨F', L', ρ', g1, g2, g3, g4, g5, g6⟩, hfr⟩
      refine ih hrest g1 g2 (by rw [g3, hn]) (by rw [g4, hdf]) g6 ?_
      rintro a'' w'' ⟨F'', L'', ρ'', k1, k2, k3, k4, k5, k6, k7⟩
      refine hQ a'' w'' ⟨F'', L'', ρ'', k1, k2, k3, k4, (hst1.trans g5).trans k5, fun j hj => ?_, k7⟩
      obtain ⟨n1, n2⟩ := notin j hj
      rw [k6 j n2, hfr j n1]
    have skip : evalOps P rest F1 L1 (put o.dst (.v undef) ρ1) K → wpOps P ops Q is (a.put o.dst undef) w := by
      intro hK
      refine ih hrest hs1 (he1.put hd (v := undef) (x := .v undef) rfl noOwn noEl (boxKeep L1)) (by rw [size_put, hn]) (by rw [defers_put, hdf]) hK ?_
      rintro a'' w'' ⟨F'', L'', ρ'', k1, k2, k3, k4, k5, k6, k7⟩
      refine hQ a'' w'' ⟨F'', L'', ρ'', k1, k2, k3, k4, hst1.trans k5, fun j hj => ?_, k7⟩
      obtain ⟨n1, n2⟩ := notin j hj
      rw [k6 j n2, put_frame n1]
    simp only [wpOps, hi]
    cases hgd : o.guard with
    | none =>
      rw [hgd] at hg
      simp only [lowGuard, Option.some.injEq] at hg
      subst hg
      simp only [evalOps] at hK
      rw [if_pos (by simp [Region.wanted, hgd])]
      exact .inl (goOn hK)
    | some p =>
      obtain ⟨j, want⟩ := p
      rw [hgd] at hg
      simp only [lowGuard] at hg
      split at hg
      case h_2 => cases hg
      rename_i d hjd
      injection hg with hg
      subst hg
      simp only [evalOps] at hK
      split at hK
      · rename_i b hb
        have htmp := he1.eq d
        rw [hb] at htmp
        have hy : yielded ops a.tmps j = some b := by
          simp only [yielded, hjd, Option.bind_some, getD_bool htmp]
        have hw : Region.wanted o (yielded ops a.tmps) = (b == want) := by
          simp only [Region.wanted, hgd, hy]
          cases b <;> cases want <;> rfl
        rw [hw]
        cases b <;> simp only [brn] at hK
        · rw [put_same hb] at hK
          cases want
          · exact .inl (goOn hK)
          · exact skip hK
        · rw [put_same hb] at hK
          cases want
          · exact skip hK
          · exact .inl (goOn hK)
      · rename_i vs hb
        have htmp := he1.eq d
        rw [hb] at htmp
        have hy : yielded ops a.tmps j = none := by
          simp only [yielded, hjd, Option.bind_some]
          rw [Array.getD_eq_getD_getElem?] at htmp
          cases e : a.tmps[d]? with
          | none => rfl
          | some v => rw [e] at htmp; simp only [Option.getD_some, conc] at htmp; rw [htmp]
        have hw : Region.wanted o (yielded ops a.tmps) = false := by
          simp only [Region.wanted, hgd, hy]; rfl
        rw [hw]
        exact skip hK
      · exact hK.elim

/- loops -/
theorem wp_loop_n {c : Code} (I : Nat → Act → World → Prop) (h₀ : ∃ n, I n a w)
    (round : ∀ n a w, I n a w → c.wp P (Exit.then (fun a' w' => ∃ m, m < n ∧ I m a' w') Q) a w) : (Code.loop c).wp P Q a w := by
  intro b k cs
  have key : ∀ n a w, I n a w → ∃ e a' w', Q e a' w' ∧ Arrives P (lone (b.at a (.code c :: .inLoop c :: k)) cs w) b k cs e a' w' := by
    intro n
    induction n using Nat.strongRecOn with
    | _ n ih =>
      intro a w hI
      obtain ⟨e, a₁, w₁, hq, harr⟩ := round n a w hI b (.inLoop c :: k) cs
      cases e with
      | normal =>
        obtain ⟨m, hlt, hI₁⟩ := hq
        obtain ⟨e₂, a₂, w₂, hq₂, harr₂⟩ := ih m hlt a₁ w₁ hI₁
        exact ⟨e₂, a₂, w₂, hq₂, .of_steps (Steps.trans harr (.one step_inLoop)) harr₂⟩
      | exit id => exact ⟨_, a₁, w₁, hq, .pass (x := .inLoop c) rfl (fun _ _ => .inl (by simp)) harr⟩
      | goto l => exact ⟨_, a₁, w₁, hq, .pass (x := .inLoop c) rfl (fun _ _ => .inl (by simp)) harr⟩
      | ret => exact ⟨_, a₁, w₁, hq, .pass (x := .inLoop c) rfl (fun _ _ => .inl (by simp)) harr⟩
      | panic ch => exact ⟨_, a₁, w₁, hq, .pass (x := .inLoop c) rfl (fun _ _ => .inl (by simp)) harr⟩
      | outgrown => exact ⟨_, a₁, w₁, hq, .pass (x := .inLoop c) rfl (fun _ _ => .inl (by simp)) harr⟩
  obtain ⟨n, hI⟩ := h₀
  obtain ⟨e, a', w', hq, harr⟩ := key n a w hI
  exact ⟨e, a', w', hq, .of_steps (.one step_loop) harr⟩

theorem keeps_get : ∀ {L L' : Loc}, L.keeps L' → ∀ {k g t cs}, L.get k = some (.box g t cs) → ∃ cs', L'.get k = some (.box g t cs')
  | [], L', _, k, g, t, cs, e => by cases e
  | (j, .box g' t' cs') :: l, L', h, k, g, t, cs, e => by
    simp only [Loc.keeps] at h
    simp only [Loc.get] at e
    split at e
    · rename_i hjk
      have := Nat.eq_of_beq_eq_true hjk
      subst this
      injection e with e
      injection e with e1 e2 e3
      subst e1 e2
      exact h.1
    · exact keeps_get h.2 e
  | (j, .row ..) :: l, L', h, k, g, t, cs, e => by
    simp only [Loc.keeps] at h
    simp only [Loc.get] at e
    split at e
    · cases e
    · exact keeps_get h e

theorem gives_get {L : Loc} : ∀ {L' : Loc}, L.gives L' → ∀ {k o}, L'.get k = some o → L.get k = some o ∨ (L.get k = none ∧ ∃ t sz, o = .row (.slice none 0 0) t sz 0 [])
  | [], _, k, o, e => by cases e
  | (j, p) :: l, h, k, o, e => by
    simp only [Loc.gives] at h
    simp only [Loc.get] at e
    split at e
    · rename_i hjk
      have := Nat.eq_of_beq_eq_true hjk
      subst this
      injection e with e
      subst e
      exact h.1
    · exact gives_get h.2 e

theorem St.gives {L' : Loc} (hs : St F L w) (h : L.gives L') : St F L' w := by
  refine ⟨hs.frz, fun k o e => ?_, fun k o g e hb => ?_, fun k k' o o' g e e' hb hb' => ?_⟩
  · rcases gives_get h e with h1 | ⟨_, t, sz, rfl⟩
    · exact hs.own k o h1
    · exact World.ownsRow_nil w 0 t sz
  · rcases gives_get h e with h1 | ⟨_, t, sz, rfl⟩
    · exact hs.off k o g h1 hb
    · cases hb
  · rcases gives_get h e with h1 | ⟨_, t, sz, rfl⟩ <;> rcases gives_get h e' with h1' | ⟨_, t', sz', rfl⟩
    · exact hs.sep k k' o o' g h1 h1' hb hb'
    · cases hb'
    · cases hb
    · cases hb
theorem gives_step {L' : Loc} (h : L.gives L') : Step F L w F L' w :=
  ⟨Frz.le_refl F, rfl, rfl, rfl, Nat.le_refl _, fun _ _ _ => rfl, fun b h => .inl h, fun b ⟨k, o, e, hb⟩ => by
    rcases gives_get h e with h1 | ⟨_, t, sz, rfl⟩
    · exact .inl ⟨k, o, h1, hb⟩
    · cases hb⟩

theorem mem?_eq : ∀ {l : List Nat} {k : Nat}, mem? l k = true ↔ k ∈ l
  | [], k => by simp [mem?]
  | j :: l, k => by
    simp only [mem?]
    split
    · rename_i h; have := Nat.eq_of_beq_eq_true h; subst this; simp
    · rename_i h
      have := beq_f h
      rw [mem?_eq]
      simp only [List.mem_cons]
      constructor
      · exact .inr
      · rintro (h | h)
        · exact absurd h.symm this
        · exact h

/-- the slots at a loop's head -/
theorem puts_get_env : ∀ (ls : List Nat) (vs : List Value) (ρ : Env) (j : Nat), (puts ls (vs.map .v) ρ j = ρ j) ∨ ∃ v, puts ls (vs.map .v) ρ j = .v v
  | [], vs, ρ, j => .inl rfl
  | k :: ls, [], ρ, j => .inl rfl
  | k :: ls, v :: vs, ρ, j => by
    simp only [List.map_cons, puts, put_eq]
    split
    · exact .inr ⟨v, rfl⟩
    · exact puts_get_env ls vs ρ j

theorem holds_puts {L : Loc} : ∀ (ls : List Nat) (vs : List Value) (ρ ρ0 : Env) {a : Act}, (∀ t, a.tmps.getD t undef = conc L (ρ t)) → holds ls (vs.map .v) ρ → ∀ j, (∃ v, puts ls (vs.map .v) ρ0 j = .v v ∧ a.tmps.getD j undef = v) ∨ puts ls (vs.map .v) ρ0 j = ρ0 j
  | [], vs, ρ, ρ0, a, he, h, j => .inr rfl
  | k :: ls, [], ρ, ρ0, a, he, h, j => .inr rfl
  | k :: ls, v :: vs, ρ, ρ0, a, he, h, j => by
    simp only [List.map_cons, holds] at h
    simp only [List.map_cons, puts, put_eq]
    split
    · rename_i hj
      subst hj
      exact .inl ⟨v, rfl, by rw [he, h.1]; rfl⟩
    · exact holds_puts ls vs ρ ρ0 he h.2 j
end
end Go.Fr
