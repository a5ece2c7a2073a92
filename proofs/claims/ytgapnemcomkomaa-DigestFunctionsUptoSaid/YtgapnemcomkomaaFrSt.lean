/- The laws of the abstract state: own blocks, frozen blocks, and the steps between states. -/
import Derived.Test.YtgapnemcomkomaaFrDefs
set_option linter.unusedVariables false
set_option linter.unusedSimpArgs false
namespace Go.Fr
open Go Go.RowKit

theorem beq_t {a b : Nat} : (Nat.beq a b = true) = (a = b) := by simp
theorem beq_f {a b : Nat} (h : Nat.beq a b = false) : a ≠ b := by intro e; subst e; simp at h

theorem Loc.get_set (L : Loc) (k : Nat) (o : Own) (j : Nat) : (L.set k o).get j = if j = k then some o else L.get j := by
  induction L with
  | nil =>
    simp only [Loc.set, Loc.get]
    cases h : Nat.beq k j with
    | true => have := Nat.eq_of_beq_eq_true h; simp [this]
    | false => have := beq_f h; simp; omega
  | cons p l ih =>
    obtain ⟨i, q⟩ := p
    simp only [Loc.set]
    cases h : Nat.beq i k with
    | true =>
      have e := Nat.eq_of_beq_eq_true h
      subst e
      simp only [Loc.get]
      cases h2 : Nat.beq i j with
      | true => have := Nat.eq_of_beq_eq_true h2; simp [this]
      | false => have := beq_f h2; simp; omega
    | false =>
      have hne := beq_f h
      simp only []
      cases h3 : Nat.ble i k with
      | true =>
        simp only [Loc.get]
        cases h2 : Nat.beq i j with
        | true => have := Nat.eq_of_beq_eq_true h2; simp; omega
        | false => simpa using ih
      | false =>
        simp only [Loc.get]
        cases h2 : Nat.beq k j with
        | true => have := Nat.eq_of_beq_eq_true h2; simp [this]
        | false =>
          have := beq_f h2
          simp only []
          rw [if_neg (by omega)]

theorem Loc.get_del (L : Loc) (k j : Nat) : (L.del k).get j = if j = k then none else L.get j := by
  induction L with
  | nil => simp [Loc.del, Loc.get]
  | cons p l ih =>
    obtain ⟨i, q⟩ := p
    simp only [Loc.del]
    cases h : Nat.beq i k with
    | true =>
      have e := Nat.eq_of_beq_eq_true h
      subst e
      simp only [Loc.get, ih]
      by_cases hj : j = i
      · simp [hj]
      · have : Nat.beq i j = false := by cases h2 : Nat.beq i j with | true => exact absurd (Nat.eq_of_beq_eq_true h2).symm hj | false => rfl
        simp [hj, this]
    | false =>
      have hne := beq_f h
      simp only [Loc.get]
      cases h2 : Nat.beq i j with
      | true => have := Nat.eq_of_beq_eq_true h2; simp; omega
      | false => simpa using ih

/-- a part of an own list: nothing else is claimed -/
def Loc.part (L L' : Loc) : Prop := ∀ k o, L'.get k = some o → L.get k = some o

theorem St.part {F : Frz} {L L' : Loc} {w : World} (h : St F L w) (hp : L.part L') : St F L' w :=
  ⟨h.frz, fun k o e => h.own k o (hp k o e), fun k o g e => h.off k o g (hp k o e), fun k k' o o' g e e' => h.sep k k' o o' g (hp k o e) (hp k' o' e')⟩

theorem Own.ok_lt {w : World} {o : Own} (h : o.ok w) {g : Nat} (hg : o.blk = some g) : g < w.heap.size := by
  cases o with
  | box g' t cs =>
    simp only [Own.blk, Option.some.injEq] at hg
    subst hg
    exact (Array.getElem?_eq_some_iff.1 h).1
  | row v t sz n xs => exact (World.ownsRow.lt h g hg).2

theorem Own.ok_same {w w' : World} {o : Own} (h : o.ok w) (hs : ∀ g, o.blk = some g → w'.heap[g]? = w.heap[g]?) : o.ok w' := by
  cases o with
  | box g t cs => exact (hs g rfl).trans h
  | row v t sz n xs =>
    obtain ⟨h1, h2⟩ := h
    refine ⟨h1, ?_⟩
    rcases h2 with h2 | ⟨g, cap, cur, rfl, hb, hg, r⟩
    · exact .inl h2
    · exact .inr ⟨g, cap, cur, rfl, hb, (hs g rfl).trans hg, r⟩

theorem St.frz_lt {F : Frz} {L : Loc} {w : World} (h : St F L w) {b : Nat} (hb : F b ≠ none) : b < w.heap.size := by
  cases e : F b with
  | none => exact absurd e hb
  | some o => exact (Array.getElem?_eq_some_iff.1 (h.frz b o e)).1

theorem St.own_lt {F : Frz} {L : Loc} {w : World} (h : St F L w) {b : Nat} (hb : L.owns b) : b < w.heap.size := by
  obtain ⟨k, o, e, hg⟩ := hb
  exact Own.ok_lt (h.own k o e) hg

/-- the world goes on, and nothing that is claimed of it turns -/
theorem St.keep {F : Frz} {L : Loc} {w w' : World} (h : St F L w) (hs : ∀ b, b < w.heap.size → w'.heap[b]? = w.heap[b]?) : St F L w' := by
  refine ⟨fun b o e => ?_, fun k o e => ?_, h.off, h.sep⟩
  · have := h.frz b o e
    rw [hs b (Array.getElem?_eq_some_iff.1 this).1]
    exact this
  · exact Own.ok_same (h.own k o e) fun g hg => hs g (Own.ok_lt (h.own k o e) hg)

theorem St.drew {F : Frz} {L : Loc} {w : World} (h : St F L w) : St F L w.drew := h.keep fun _ _ => rfl

/-- a new own entry in a block that nothing is claimed of, under a new key -/
theorem St.put {F : Frz} {L : Loc} {w : World} (h : St F L w) {k : Nat} {o : Own} (hk : L.get k = none) (ho : o.ok w)
    (hf : ∀ g, o.blk = some g → F g = none ∧ ¬ L.owns g) : St F (L.set k o) w := by
  have hget : ∀ j p, (L.set k o).get j = some p → (j = k ∧ p = o) ∨ (j ≠ k ∧ L.get j = some p) := by
    intro j p e
    rw [Loc.get_set] at e
    split at e
    · rename_i hj; exact .inl ⟨hj, by injection e with e; exact e.symm⟩
    · rename_i hj; exact .inr ⟨hj, e⟩
  refine ⟨h.frz, fun j p e => ?_, fun j p g e hg => ?_, fun j j' p p' g e e' hg hg' => ?_⟩
  · rcases hget j p e with ⟨_, rfl⟩ | ⟨_, e⟩
    · exact ho
    · exact h.own j p e
  · rcases hget j p e with ⟨_, rfl⟩ | ⟨_, e⟩
    · exact (hf g hg).1
    · exact h.off j p g e hg
  · rcases hget j p e with ⟨hj, hp⟩ | ⟨_, e1⟩ <;> rcases hget j' p' e' with ⟨hj', hp'⟩ | ⟨_, e2⟩
    · exact hj.trans hj'.symm
    · subst hp; exact absurd ⟨j', p', e2, hg'⟩ (hf g hg).2
    · subst hp'; exact absurd ⟨j, p, e1, hg⟩ (hf g hg').2
    · exact h.sep j j' p p' g e1 e2 hg hg'

/-- an own entry turns, in its own block or in a new one -/
theorem St.turn {F : Frz} {L : Loc} {w w' : World} (h : St F L w) {k : Nat} {o o' : Own} (hk : L.get k = some o) (ho : o'.ok w')
    (hs : ∀ b, b < w.heap.size → o.blk ≠ some b → w'.heap[b]? = w.heap[b]?) (hb : ∀ g, o'.blk = some g → o.blk = some g ∨ w.heap.size ≤ g) : St F (L.set k o') w' := by
  have hget : ∀ j p, (L.set k o').get j = some p → (j = k ∧ p = o') ∨ (j ≠ k ∧ L.get j = some p) := by
    intro j p e
    rw [Loc.get_set] at e
    split at e
    · rename_i hj; exact .inl ⟨hj, by injection e with e; exact e.symm⟩
    · rename_i hj; exact .inr ⟨hj, e⟩
  refine ⟨fun b p e => ?_, fun j p e => ?_, fun j p g e hg => ?_, fun j j' p p' g e e' hg hg' => ?_⟩
  · have := h.frz b p e
    rw [hs b (Array.getElem?_eq_some_iff.1 this).1 (fun hb => by have := h.off k o b hk hb; rw [this] at e; cases e)]
    exact this
  · rcases hget j p e with ⟨_, rfl⟩ | ⟨hj, e⟩
    · exact ho
    · exact Own.ok_same (h.own j p e) fun g hg => hs g (Own.ok_lt (h.own j p e) hg) fun hog => hj (h.sep j k p o g e hk hg hog)
  · rcases hget j p e with ⟨_, rfl⟩ | ⟨_, e⟩
    · rcases hb g hg with hog | hn
      · exact h.off k o g hk hog
      · cases hF : F g with
        | none => rfl
        | some _ => have := h.frz_lt (b := g) (by rw [hF]; simp); omega
    · exact h.off j p g e hg
  · rcases hget j p e with ⟨hj, hp⟩ | ⟨hj, e1⟩ <;> rcases hget j' p' e' with ⟨hj', hp'⟩ | ⟨hj', e2⟩
    · exact hj.trans hj'.symm
    · subst hp
      rcases hb g hg with hog | hn
      · exact absurd (h.sep j' k p' o g e2 hk hg' hog) hj'
      · have := Own.ok_lt (h.own j' p' e2) hg'; omega
    · subst hp'
      rcases hb g hg' with hog | hn
      · exact absurd (h.sep j k p o g e1 hk hg hog) hj
      · have := Own.ok_lt (h.own j p e1) hg; omega
    · exact h.sep j j' p p' g e1 e2 hg hg'

/-- frozen memory grows by a block that is there and that nobody owns -/
theorem St.freeze {F : Frz} {L : Loc} {w : World} (h : St F L w) {g : Nat} {o : Obj} (hg : w.heap[g]? = some o) (hn : ¬ L.owns g) :
    St (fun b => if b = g then some o else F b) L w := by
  refine ⟨fun b p e => ?_, h.own, fun k p b e hb => ?_, h.sep⟩
  · split at e
    · rename_i hbg; subst hbg; injection e with e; subst e; exact hg
    · exact h.frz b p e
  · split
    · rename_i hbg; subst hbg; exact absurd ⟨k, p, e, hb⟩ hn
    · exact h.off k p b e hb
theorem Frz.le_add {F : Frz} {w : World} {L : Loc} (h : St F L w) {g : Nat} {o : Obj} (hg : w.heap[g]? = some o) : F.le (fun b => if b = g then some o else F b) := by
  intro b p e
  simp only []
  split
  · rename_i hbg; subst hbg; rw [← h.frz b p e, hg]
  · exact e

theorem Step.refl (F : Frz) (L : Loc) (w : World) : Step F L w F L w :=
  ⟨Frz.le_refl F, rfl, rfl, rfl, Nat.le_refl _, fun _ _ _ => rfl, fun _ h => .inl h, fun _ h => .inl h⟩
theorem Step.trans {F F' F'' : Frz} {L L' L'' : Loc} {w w' w'' : World} (h : Step F L w F' L' w') (k : Step F' L' w' F'' L'' w'') : Step F L w F'' L'' w'' := by
  refine ⟨Frz.le_trans h.le k.le, k.os.trans h.os, k.tape.trans h.tape, k.output.trans h.output, Nat.le_trans h.size k.size, fun b hb hn => ?_, fun b hb => ?_, fun b hb => ?_⟩
  · rw [k.same b (Nat.lt_of_lt_of_le hb h.size) (fun ho => by rcases h.own b ho with ho | ho; exact hn ho; omega)]
    exact h.same b hb hn
  · rcases k.frz b hb with h1 | h1 | h1
    · exact h.frz b h1
    · exact .inr (h.own b h1)
    · exact .inr (.inr (Nat.le_trans h.size h1))
  · rcases k.own b hb with h1 | h1
    · exact h.own b h1
    · exact .inr (Nat.le_trans h.size h1)

/-- a step that writes at own blocks alone, with no claim new but on new blocks -/
theorem Step.mk' {F F' : Frz} {L L' : Loc} {w w' : World} (le : F.le F') (hw : w.grownBy w' none) (frz : ∀ b, F' b ≠ none → F b ≠ none ∨ L.owns b ∨ w.heap.size ≤ b)
    (own : ∀ b, L'.owns b → L.owns b ∨ w.heap.size ≤ b) : Step F L w F' L' w' :=
  ⟨le, hw.os, hw.tape, hw.output, hw.size, fun b hb _ => hw.block b hb (by simp), frz, own⟩

theorem Loc.owns_set {L : Loc} {k : Nat} {o : Own} {b : Nat} (h : (L.set k o).owns b) : o.blk = some b ∨ L.owns b := by
  obtain ⟨j, p, e, hb⟩ := h
  rw [Loc.get_set] at e
  split at e
  · injection e with e; subst e; exact .inl hb
  · exact .inr ⟨j, p, e, hb⟩
theorem Loc.owns_del {L : Loc} {k b : Nat} (h : (L.del k).owns b) : L.owns b := by
  obtain ⟨j, p, e, hb⟩ := h
  rw [Loc.get_del] at e
  split at e
  · cases e
  · exact ⟨j, p, e, hb⟩
theorem Loc.part_del (L : Loc) (k : Nat) : L.part (L.del k) := by
  intro j o e
  rw [Loc.get_del] at e
  split at e
  · cases e
  · exact e
theorem Loc.part_owns {L L' : Loc} (h : L.part L') {b : Nat} (hb : L'.owns b) : L.owns b := by
  obtain ⟨k, o, e, hg⟩ := hb
  exact ⟨k, o, h k o e, hg⟩

theorem FCells.mono {F G : Frz} (h : F.le G) {a : Option Addr} {j : Nat} {cs : List Value} (c : FCells F a j cs) : FCells G a j cs := by
  obtain ⟨ad, arr, t, fr, e, hF, hs, hc⟩ := c
  exact ⟨ad, arr, t, fr, e, h _ _ hF, hs, hc⟩
theorem add_none {b o n : Nat} : (⟨b, o, none⟩ : Addr).add n = ⟨b, o + n, none⟩ := by
  unfold Addr.add; split <;> simp_all
/-- what frozen memory holds can be read -/
theorem FCells.cell {F : Frz} {L : Loc} {w : World} (h : St F L w) {a : Option Addr} {j : Nat} {cs : List Value} (c : FCells F a j cs) :
    ∃ ad, a = some ad ∧ ad.spot = none ∧ ∀ i v, cs[i]? = some v → w.cell? (ad.add (j + i)) = some v := by
  obtain ⟨ad, arr, t, fr, e, hF, hs, hc⟩ := c
  refine ⟨ad, e, hs, fun i v hv => ?_⟩
  obtain ⟨b, o, sp⟩ := ad
  simp only at hs
  subst hs
  rw [add_none]
  have := h.frz b _ hF
  simp only [World.cell?, this]
  simpa [Nat.add_assoc] using hc i v hv
end Go.Fr
