/- Regions that draw their order: two operations that do not look at one another may change places. -/
import Derived.Test.YtgapnemcomkomaaFrDraw0
set_option linter.unusedVariables false
set_option linter.unusedSimpArgs false
namespace Go.Fr
open Go Go.RowKit

theorem set_comm : ∀ (L : Loc) {k k' : Nat} (o o' : Own), k ≠ k' → (L.set k o).set k' o' = (L.set k' o').set k o := by
  intro L k k' o o' h
  have hb : Nat.beq k k' = false := by cases e : Nat.beq k k' with | true => exact absurd (Nat.eq_of_beq_eq_true e) h | false => rfl
  have hb' : Nat.beq k' k = false := by cases e : Nat.beq k' k with | true => exact absurd (Nat.eq_of_beq_eq_true e).symm h | false => rfl
  have ble_or : ∀ {i j : Nat}, Nat.beq i j = false → (Nat.ble i j = true ∧ Nat.ble j i = false) ∨ (Nat.ble i j = false ∧ Nat.ble j i = true) := by
    intro i j hij
    have hne := beq_f hij
    rcases Nat.lt_or_gt_of_ne hne with hlt | hgt
    · refine .inl ⟨Nat.ble_eq_true_of_le (by omega), ?_⟩
      cases e : Nat.ble j i with | true => have := Nat.le_of_ble_eq_true e; omega | false => rfl
    · refine .inr ⟨?_, Nat.ble_eq_true_of_le (by omega)⟩
      cases e : Nat.ble i j with | true => have := Nat.le_of_ble_eq_true e; omega | false => rfl
  induction L with
  | nil =>
    simp only [Loc.set, hb, hb']
    rcases ble_or hb with ⟨h1, h2⟩ | ⟨h1, h2⟩ <;> simp only [h1, h2, Loc.set]
  | cons p l ih =>
    obtain ⟨j, q⟩ := p
    cases e1 : Nat.beq j k with
    | true =>
      have := Nat.eq_of_beq_eq_true e1
      subst this
      have hjj : Nat.beq j j = true := by simp
      simp only [Loc.set, hjj, hb, hb']
      rcases ble_or hb with ⟨h1, h2⟩ | ⟨h1, h2⟩
      · simp only [h1, Loc.set, hjj]
      · simp only [h1, h2, Loc.set, hjj, hb']
    | false =>
      cases e2 : Nat.beq j k' with
      | true =>
        have := Nat.eq_of_beq_eq_true e2
        subst this
        have hjj : Nat.beq j j = true := by simp
        simp only [Loc.set, hjj, hb, hb']
        rcases ble_or hb' with ⟨h1, h2⟩ | ⟨h1, h2⟩
        · simp only [h1, Loc.set, hjj]
        · simp only [h1, h2, Loc.set, hjj, hb]
      | false =>
        simp only [Loc.set, e1, e2]
        rcases ble_or e1 with ⟨a1, a2⟩ | ⟨a1, a2⟩ <;> rcases ble_or e2 with ⟨b1, b2⟩ | ⟨b1, b2⟩
        · simp only [a1, b1, Loc.set, e1, e2, ih]
        · simp only [a1, b1, Loc.set, e1, e2, hb, hb']
          have h1 : Nat.ble k' k = true := by
            have x1 := Nat.le_of_ble_eq_true a1
            have x2 := Nat.le_of_ble_eq_true b2
            exact Nat.ble_eq_true_of_le (by omega)
          simp only [h1]
        · simp only [a1, b1, Loc.set, e1, e2, hb, hb']
          have h1 : Nat.ble k k' = true := by
            have x1 := Nat.le_of_ble_eq_true b1
            have x2 := Nat.le_of_ble_eq_true a2
            exact Nat.ble_eq_true_of_le (by omega)
          simp only [h1]
        · rcases ble_or hb with ⟨c1, c2⟩ | ⟨c1, c2⟩
          · simp only [a1, b1, Loc.set, e1, e2, hb, hb', c1, c2]
          · simp only [a1, b1, Loc.set, e1, e2, hb, hb', c1, c2]

theorem put_comm {d d' : Option Nat} {v u : SV} {ρ : Env} (h : ∀ k, d = some k → d' ≠ some k) : put d v (put d' u ρ) = put d' u (put d v ρ) := by
  funext t
  simp only [put_eq]
  cases d with
  | none => rfl
  | some k =>
    cases d' with
    | none => rfl
    | some k' =>
      have := h k rfl
      simp only []
      split <;> split
      · rename_i h1 h2; subst h1; subst h2; exact absurd rfl this
      · rfl
      · rfl
      · rfl

/-- slots that an operation looks at -/
def slotsX : List X → List Nat
  | [] => []
  | .t n :: l => n :: slotsX l
  | _ :: l => slotsX l
theorem slotsX_mem : ∀ {l : List X} {n : Nat}, X.t n ∈ l → n ∈ slotsX l
  | [], n, h => by cases h
  | .t m :: l, n, h => by
    simp only [slotsX, List.mem_cons]
    rcases List.mem_cons.1 h with h | h
    · injection h with h; exact .inl h
    · exact .inr (slotsX_mem h)
  | .c v :: l, n, h => by
    rcases List.mem_cons.1 h with h | h
    · cases h
    · exact slotsX_mem (l := l) h
  | .fn f :: l, n, h => by
    rcases List.mem_cons.1 h with h | h
    · cases h
    · exact slotsX_mem (l := l) h
theorem ev_put {l : List X} {d : Option Nat} {v : SV} {ρ : Env} (h : ∀ k, d = some k → k ∉ slotsX l) : ∀ x ∈ l, ev (put d v ρ) x = ev ρ x := by
  intro x hx
  cases x with
  | t n =>
    simp only [ev, put_eq]
    cases d with
    | none => rfl
    | some k =>
      simp only []
      rw [if_neg]
      intro e
      subst e
      exact h n rfl (slotsX_mem hx)
  | c v => rfl
  | fn f => rfl

/-- own pointers in the slots name boxes that are there -/
def Vd (L : Loc) (ρ : Env) : Prop := ∀ t k off, ρ t = .own k off → ∃ g ty cs, L.get k = some (.box g ty cs)
theorem Vd.ev {L : Loc} {ρ : Env} (h : Vd L ρ) {x : X} {k off : Nat} (e : Fr.ev ρ x = .own k off) : ∃ g ty cs, L.get k = some (.box g ty cs) := by
  cases x with
  | t n => exact h n k off e
  | c v => cases e
  | fn f => cases e
/-- boxes stay as they are -/
def Keeps (L L' : Loc) : Prop := ∀ k g ty cs, L.get k = some (.box g ty cs) → L'.get k = some (.box g ty cs)
theorem Keeps.refl (L : Loc) : Keeps L L := fun _ _ _ _ h => h
theorem Keeps.trans {L L' L'' : Loc} (h : Keeps L L') (h' : Keeps L' L'') : Keeps L L'' := fun k g ty cs e => h' k g ty cs (h k g ty cs e)
theorem get_set_ne {L : Loc} {k j : Nat} {o : Own} (h : j ≠ k) : (L.set k o).get j = L.get j := by rw [Loc.get_set, if_neg h]
theorem Keeps.new {L : Loc} {k : Nat} {o : Own} (h : L.get k = none) : Keeps L (L.set k o) := fun j g ty cs e => by
  rw [get_set_ne (fun ej => by rw [ej, h] at e; cases e)]; exact e
theorem Keeps.row {L : Loc} {k : Nat} {v : Value} {t : TypeId} {sz n : Nat} {xs : List Value} {o : Own} (h : L.get k = some (.row v t sz n xs)) : Keeps L (L.set k o) := fun j g ty cs e => by
  rw [get_set_ne (fun ej => by rw [ej, h] at e; cases e)]; exact e

section
variable {P : Program} {F : Frz} {L : Loc} {ρ : Env} {K : Kont}

theorem CallsA.up {f : Nat} {args : Array Value} {F F1 : Frz} {R : Frz → List Own → Value → Prop} (h : CallsA P f args F [] R) (hle : F.le F1) : CallsA P f args F1 [] R := by
  refine ⟨h.ent, h.mono, fun w hs => ?_⟩
  have hs0 : St F (inp []) w := ⟨fun b o e => hs.frz b o (hle b o e), hs.own, fun k o g e => (by cases e), hs.sep⟩
  refine (h.run w hs0).mono ?_
  rintro e w' ⟨v, F', Lo, rfl, hs', hst, hR⟩
  have hno : ∀ b, ¬ (inp []).owns b := by rintro b ⟨k, o, e, _⟩; cases e
  have hF1 : ∀ b o, F1 b = some o → w'.heap[b]? = some o := fun b o e => by
    have h1 := hs.frz b o e
    rw [hst.same b (Array.getElem?_eq_some_iff.1 h1).1 (hno b)]
    exact h1
  have hle' : F'.le (fun b => match F' b with | some o => some o | none => F1 b) := fun b o e => by simp only [e]
  refine ⟨v, fun b => match F' b with | some o => some o | none => F1 b, Lo, rfl, ⟨fun b o e => ?_, hs'.own, fun k o g e hb => ?_, hs'.sep⟩, ⟨fun b o e => ?_, hst.os, hst.tape, hst.output, hst.size, hst.same, fun b hb => ?_, hst.own⟩, h.mono _ _ _ _ hle' hR⟩
  · split at e
    · rename_i o' ho'
      injection e with e
      subst e
      exact hs'.frz b _ ho'
    · exact hF1 b o e
  · have h1 := hs'.off k o g e hb
    simp only [h1]
    cases h2 : F1 g with
    | none => rfl
    | some o2 =>
      rcases hst.own g ⟨k, o, e, hb⟩ with h3 | h3
      · exact absurd h3 (hno g)
      · have := (Array.getElem?_eq_some_iff.1 (hs.frz g o2 h2)).1; omega
  · cases h1 : F' b with
    | none => exact e
    | some o' =>
      have h2 := hs'.frz b o' h1
      rw [hF1 b o e] at h2
      exact h2.symm
  · cases h1 : F' b with
    | none => rw [h1] at hb; exact .inl hb
    | some o' =>
      rcases hst.frz b (by rw [h1]; simp) with h3 | h3 | h3
      · refine .inl (fun h4 => ?_)
        cases h5 : F b with
        | none => exact h3 h5
        | some o5 => have := hle b o5 h5; rw [h4] at this; cases this
      · exact .inr (.inl h3)
      · exact .inr (.inr h3)

theorem Real.down {F F' : Frz} {L L' : Loc} (h : Real F' L') (hle : F.le F') (hp : L'.part L) : Real F L := by
  obtain ⟨w, hs⟩ := h
  have hs := hs.part hp
  refine ⟨w, ⟨fun b o e => hs.frz b o (hle b o e), hs.own, fun k o g e hb => ?_, hs.sep⟩⟩
  cases hF : F g with
  | none => rfl
  | some o' => have h1 := hle g o' hF; rw [hs.off k o g e hb] at h1; cases h1
theorem part_set {L : Loc} {k : Nat} {o : Own} (h : L.get k = none) : (L.set k o).part L := fun j p e => by
  rw [get_set_ne (fun ej => by rw [ej, h] at e; cases e)]; exact e
theorem part_set_set {L L1 : Loc} {k : Nat} {o : Own} (h : L1.part L) (hk : L.get k = none) : (L1.set k o).part (L.set k o) := fun j p e => by
  rw [Loc.get_set] at e ⊢
  split
  · rename_i hj; rw [if_pos hj] at e; exact e
  · rename_i hj; rw [if_neg hj] at e; exact h j p e

/-- what a call leaves of the own list -/
def Left (d : Option Nat) (L L' : Loc) : Prop := L' = L ∨ ∃ k o, d = some k ∧ L.get k = none ∧ L' = L.set k o
theorem Left.keeps {d : Option Nat} {L L' : Loc} (h : Left d L L') : Keeps L L' := by
  rcases h with rfl | ⟨k, o, _, hk, rfl⟩
  · exact Keeps.refl _
  · exact Keeps.new hk

theorem CallDPt.imp {f : Nat} {args : List Value} {F : Frz} {L : Loc} {d : Option Nat} {K K' : Frz → Loc → Value → Prop} (h : CallDPt P f args F L d K) (hk : ∀ F' L' v, F.le F' → Left d L L' → Real F' L' → K F' L' v → K' F' L' v) : CallDPt P f args F L d K' := by
  cases h with
  | frz R h1 h2 => exact .frz R h1 fun v F' Lo hle hR => ⟨(h2 v F' Lo hle hR).1, fun hr => hk F' L v hle (.inl rfl) hr ((h2 v F' Lo hle hR).2 hr)⟩
  | own R k h1 hd hkn h2 =>
    refine .own R k h1 hd hkn fun v F' Lo hle hR => ?_
    obtain ⟨o, h3, h4⟩ := h2 v F' Lo hle hR
    exact ⟨o, h3, fun hr => hk F' _ v hle (.inr ⟨k, o, hd, hkn, rfl⟩) hr (h4 hr)⟩
/-- the same call, later -/
theorem CallDPt.up {f : Nat} {args : List Value} {F F1 : Frz} {L L1 : Loc} {d : Option Nat} {K : Frz → Loc → Value → Prop} (h : CallDPt P f args F L d K) (hle : F.le F1) (hp : L1.part L) (hd1 : ∀ k, d = some k → L.get k = none → L1.get k = none) :
    CallDPt P f args F1 L1 d (fun F' L' v => F1.le F' ∧ Real F' L' ∧ ((L' = L1 ∧ K F' L v) ∨ ∃ k o, d = some k ∧ L.get k = none ∧ L' = L1.set k o ∧ K F' (L.set k o) v)) := by
  cases h with
  | frz R h1 h2 =>
    refine .frz R (h1.up hle) fun v F' Lo hle' hR => ?_
    obtain ⟨h3, h4⟩ := h2 v F' Lo (Frz.le_trans hle hle') hR
    exact ⟨h3, fun hr => ⟨hle', hr, .inl ⟨rfl, h4 (hr.down (Frz.le_refl _) hp)⟩⟩⟩
  | own R k h1 hd hkn h2 =>
    refine .own R k (h1.up hle) hd (hd1 k hd hkn) fun v F' Lo hle' hR => ?_
    obtain ⟨o, h3, h4⟩ := h2 v F' Lo (Frz.le_trans hle hle') hR
    exact ⟨o, h3, fun hr => ⟨hle', hr, .inr ⟨k, o, hd, hkn, rfl, h4 (hr.down (Frz.le_refl _) (part_set_set hp hkn))⟩⟩⟩
theorem CallDPt.some {f : Nat} {args : List Value} {F : Frz} {L : Loc} {d : Option Nat} {K : Frz → Loc → Value → Prop} (h : CallDPt P f args F L d K) (hr : Real F L) : ∃ F' L' v, F.le F' ∧ Left d L L' ∧ Real F' L' ∧ K F' L' v := by
  obtain ⟨w, hs⟩ := hr
  have hs0 : St F (inp []) w := ⟨hs.frz, fun k o e => (by cases e), fun k o g e => (by cases e), fun k k' o o' g e => (by cases e)⟩
  cases h with
  | frz R h1 h2 =>
    obtain ⟨e, w', fr, ⟨v, F', Lo, _, hs', hst, hR⟩, _⟩ := h1.run w hs0 []
    obtain ⟨rfl, h3⟩ := h2 v F' Lo hst.le hR
    have hreal : Real F' L := ⟨w', (call_back (ks := []) (ko := []) hs rfl List.nodup_nil List.nodup_nil (fun _ h => (by cases h)) hs' hst rfl).1⟩
    exact ⟨F', L, v, hst.le, .inl rfl, hreal, h3 hreal⟩
  | own R k h1 hd hkn h2 =>
    obtain ⟨e, w', fr, ⟨v, F', Lo, _, hs', hst, hR⟩, _⟩ := h1.run w hs0 []
    obtain ⟨o, rfl, h3⟩ := h2 v F' Lo hst.le hR
    have hreal : Real F' (L.set k o) := ⟨w', (call_back (ks := []) (ko := [k]) hs rfl List.nodup_nil (by simp) (fun j hj => .inr (by simp at hj; rw [hj]; exact hkn)) hs' hst rfl).1⟩
    exact ⟨F', _, v, hst.le, .inr ⟨k, o, hd, hkn, rfl⟩, hreal, h3 hreal⟩

theorem AppDPt.imp {F F' : Frz} {L : Loc} {d : Option Nat} {e sz b : Nat} {s x : Value} {K K' : Loc → Value → Prop} (h : AppDPt F L d e sz b s x K) (hle : F.le F')
    (hk : ∀ kd n xs n' xs' v, (L.get kd = some (.row s e sz n xs) ∨ (d = some kd ∧ L.get kd = none)) → Real F' (L.set kd (.row v e sz n' xs')) → (Real F (L.set kd (.row v e sz n' xs')) → K (L.set kd (.row v e sz n' xs')) v) → K' (L.set kd (.row v e sz n' xs')) v) : AppDPt F' L d e sz b s x K' := by
  obtain ⟨kd, n, xs, m, news, h1, ⟨ad, c, h2, h3, h4⟩, h5, h6, h7, h8⟩ := h
  refine ⟨kd, n, xs, m, news, h1, ⟨ad, c, h2, h3, ?_⟩, h5, h6, h7, fun v hv hr => hk kd n xs _ _ v ?_ hr (h8 v hv)⟩
  · rcases h4 with h4 | h4
    · exact .inl (h4.mono hle)
    · exact .inr h4
  · rcases h1 with h1 | ⟨h1, h1', _⟩
    · exact .inl h1
    · exact .inr ⟨h1, h1'⟩

theorem part_set2 {L L1 : Loc} {k : Nat} {o : Own} (h : L1.part L) : (L1.set k o).part (L.set k o) := fun j p e => by
  rw [Loc.get_set] at e ⊢
  split
  · rename_i hj; rw [if_pos hj] at e; exact e
  · rename_i hj; rw [if_neg hj] at e; exact h j p e

theorem evalOp_appD {e sz b : Nat} {zs : List Value} {s x : X} {d : Option Nat} : evalOp P (.appD e sz b zs s x) d F L ρ K = (match ev ρ s, ev ρ x with
    | .v sv, .v xv => AppDPt F L d e sz b sv xv fun L1 v => K F L1 (put d (.v v) ρ)
    | _, _ => False) := rfl
theorem evalOp_storeD {n : Nat} {a x : X} {d : Option Nat} : evalOp P (.storeD n a x) d F L ρ K = (match len? (vcells (val L ρ x)) n, ones? (vcells (val L ρ x)), ev ρ a with
    | true, true, .own k off => match L.get k with
      | Option.some (.box g t cs) => match len? ((cs.drop off).take n) n with
        | true => K F (L.set k (.box g t (splice cs off (vcells (val L ρ x))))) (put d (.v undef) ρ)
        | false => False
      | _ => False
    | _, _, _ => False) := rfl
theorem Real.store {F : Frz} {L : Loc} {k g : Nat} {t : TypeId} {cs cs' : List Value} (hr : Real F L) (hk : L.get k = Option.some (.box g t cs)) : Real F (L.set k (.box g t cs')) := by
  obtain ⟨w, hs⟩ := hr
  have hgrow := setRow_grown w g cs'.toArray
  refine ⟨w.setRow g cs'.toArray, hs.turn hk ?_ (fun b hb1 hne => hgrow.block b hb1 (fun e => hne (by rw [e]; rfl))) (fun g' hg' => .inl hg')⟩
  show _ = _
  exact setRow_heap w g cs.toArray _ t _ (hs.own k _ hk)
/-- an append has an outcome -/
theorem AppDPt.some {F : Frz} {L : Loc} {d : Option Nat} {e sz b : Nat} {s x : Value} {K : Loc → Value → Prop} (h : AppDPt F L d e sz b s x K) (hr : Real F L) :
    ∃ kd v n' xs', ((∃ n xs, L.get kd = some (.row s e sz n xs)) ∨ (d = some kd ∧ L.get kd = none)) ∧ Real F (L.set kd (.row v e sz n' xs')) ∧ K (L.set kd (.row v e sz n' xs')) v := by
  obtain ⟨kd, n, xs, m, news, h1, ⟨ad, c, h2, h3, h4⟩, h5, h6, h7, h8⟩ := h
  obtain ⟨w, hs⟩ := hr
  have hlen : xs.length = n * sz := by
    rcases h1 with h1 | ⟨_, _, rfl, rfl, _⟩
    · exact (hs.own kd _ h1).1
    · simp
  have hrow := ownsRow_lit' w (xs ++ news) e (n + m) sz h6 (by rw [List.length_append, hlen, h3, Nat.add_mul])
  have hs' : St F (L.del kd) w := hs.part (fun j p e => by rw [Loc.get_del] at e; split at e; cases e; exact e)
  have hk' : (L.del kd).get kd = none := by rw [Loc.get_del, if_pos rfl]
  have hst := (alloc_own hs' hk' (cs := (xs ++ news).toArray) (t := e) (e := .row (.slice (Option.some ⟨w.heap.size, 0, none⟩) (n + m) (n + m)) e sz (n + m) (xs ++ news)) rfl hrow).1
  have hreal : Real F (L.set kd (.row (.slice (Option.some ⟨w.heap.size, 0, none⟩) (n + m) (n + m)) e sz (n + m) (xs ++ news))) :=
    ⟨_, hst.part (fun j p e => by
      rw [Loc.get_set] at e ⊢
      split
      · rename_i hj; rw [if_pos hj] at e; exact e
      · rename_i hj; rw [if_neg hj] at e; rw [Loc.get_del, if_neg hj]; exact e)⟩
  refine ⟨kd, _, n + m, xs ++ news, ?_, hreal, h8 _ ⟨_, _, rfl, fun e => (by cases e)⟩ hreal⟩
  rcases h1 with h1 | ⟨h1, h1', _⟩
  · exact .inl ⟨n, xs, h1⟩
  · exact .inr ⟨h1, h1'⟩

/-- what an operation of a drawn region may be -/
def okD0 (o : SOp) : Bool := simpleD o || callD? o || allocD? o || appD? o
def okD (o : SOp) : Bool := okD0 o || storeD? o

theorem alike_env {o : SOp} {d : Option Nat} {v : SV} (h : ∀ k, d = some k → k ∉ slotsX (xsOf o)) : Alike o L L ρ (put d v ρ) :=
  fun x hx => ⟨ev_put h x hx, fun _ _ _ => rfl⟩

/-- a value put into a slot that an operation does not look at may be put there before -/
theorem evalOp_env {o : SOp} (ho : okD o = true) {d d' : Option Nat} {u : SV} (h : ∀ k, d' = some k → k ∉ slotsX (xsOf o)) (hd : ∀ k, d = some k → d' ≠ some k)
    (hK : evalOp P o d F L ρ (fun F1 L1 ρ1 => K F1 L1 (put d' u ρ1))) : evalOp P o d F L (put d' u ρ) K := by
  by_cases hs : simpleD o = true
  · rw [evalOp_simple hs] at hK ⊢
    have := outV_up hs (Frz.le_refl F) (alike_env (L := L) (ρ := ρ) (v := u) h) hK
    refine (outV_one hs).mono _ _ (fun v hv => ?_) this
    rw [put_comm hd]
    exact hv
  · have hv : ∀ x ∈ xsOf o, val L (put d' u ρ) x = val L ρ x := fun x hx => by simp only [val, ev_put h x hx]
    cases o <;> first | (exfalso; revert hs ho; simp [okD, okD0, simpleD, callD?, allocD?, appD?, storeD?]; done) | skip
    case boxD t x =>
      have e := hv x (by simp [xsOf])
      simp only [evalOp, e] at hK ⊢
      split at hK
      · rename_i k
        split at hK
        · intro g hr
          have := hK g hr
          rw [put_comm hd]
          exact this
        · exact hK
      · exact hK
    case allocD t zs =>
      simp only [evalOp] at hK ⊢
      split at hK
      · rename_i k
        split at hK
        · intro g hr
          have := hK g hr
          rw [put_comm hd]
          exact this
        · exact hK
      · exact hK
    case mkFD e n sz xs =>
      have e1 := parts_alike (sz := sz) (xs := xs) hv
      have e2 := cellsOf_alike (xs := xs) hv
      simp only [evalOp, e1, e2] at hK ⊢
      split at hK
      · intro g F' hle hg hr
        rw [put_comm hd]
        exact hK g F' hle hg hr
      · exact hK
    case callD f args =>
      have e1 := evals_alike (xs := args) hv
      simp only [evalOp, e1] at hK ⊢
      refine hK.imp fun F' L' v _ _ _ h => ?_
      rw [put_comm hd]
      exact h
    case callVD f args =>
      have e0 := ev_put (v := u) (ρ := ρ) h f (by simp [xsOf])
      have e1 := evals_alike (xs := args) (L := L) (L' := L) (ρ := ρ) (ρ' := put d' u ρ) (fun x hx => hv x (by simp [xsOf, hx]))
      simp only [evalOp, e0, e1] at hK ⊢
      split at hK
      · refine hK.imp fun F' L' v _ _ _ h => ?_
        rw [put_comm hd]
        exact h
      · exact hK
    case appD e sz b zs s x =>
      have e0 := ev_put (v := u) (ρ := ρ) h s (by simp [xsOf])
      have e1 := ev_put (v := u) (ρ := ρ) h x (by simp [xsOf])
      simp only [evalOp, e0, e1] at hK ⊢
      split at hK
      · refine hK.imp (Frz.le_refl F) fun kd n xs n' xs' v _ hr h => ?_
        rw [put_comm hd]
        exact h hr
      · exact hK
    case storeD n a x =>
      have e0 := ev_put (v := u) (ρ := ρ) h a (by simp [xsOf])
      have e1 := hv x (by simp [xsOf])
      simp only [evalOp, e0, e1] at hK ⊢
      split at hK
      · split at hK
        · split at hK
          · rw [put_comm hd]; exact hK
          · exact hK.elim
        · exact hK.elim
      · exact hK.elim

def clsOk (x y : SOp) : Bool := (simpleD x && okD0 y) || (callD? x && allocD? y) || (appD? x && allocD? y) || (allocD? x && allocD? y) || (pureD x && storeD? y) || (storeD? x && pureD y)

/-- what a new block comes to -/
inductive Made : SOp → Option Nat → Frz → Loc → Env → Frz → Loc → SV → Prop
  | box {t : TypeId} {x : X} {k : Nat} {F : Frz} {L : Loc} {ρ : Env} (g : Nat) : Made (.boxD t x) (some k) F L ρ F (L.set k (.box g t (vcells (val L ρ x)))) (.own k 0)
  | alloc {t : TypeId} {zs : List Value} {k : Nat} {F : Frz} {L : Loc} {ρ : Env} (g : Nat) : Made (.allocD t zs) (some k) F L ρ F (L.set k (.box g t zs)) (.own k 0)
  | mkF {e : TypeId} {n sz : Nat} {xs : List X} {d : Option Nat} {F : Frz} {L : Loc} {ρ : Env} (g : Nat) (F' : Frz) (hle : F.le F') (hg : F' g = some (.cells (cellsOf L ρ xs).toArray e (0, 0))) :
      Made (.mkFD e n sz xs) d F L ρ F' L (.v (.slice (some ⟨g, 0, none⟩) n n))
def canMake : SOp → Option Nat → Loc → Env → Bool
  | .boxD _ _, some k, L, _ => (L.get k).isNone
  | .allocD _ _, some k, L, _ => (L.get k).isNone
  | .mkFD _ _ sz xs, _, L, ρ => parts? L ρ sz xs
  | _, _, _, _ => false

theorem evalOp_alloc {o : SOp} (h : allocD? o = true) {d : Option Nat} : evalOp P o d F L ρ K ↔ canMake o d L ρ = true ∧ ∀ F' L' v, Made o d F L ρ F' L' v → Real F' L' → K F' L' (put d v ρ) := by
  cases o <;> first | (exfalso; revert h; simp [allocD?]; done) | skip
  case boxD t x =>
    simp only [evalOp]
    cases d with
    | none => simp [canMake]
    | some k =>
      simp only [canMake]
      cases hk : L.get k with
      | none =>
        simp only [Option.isNone_none, true_and]
        constructor
        · rintro h F' L' v hm hr
          cases hm with
          | box g => exact h g hr
        · intro h g hr
          exact h _ _ _ (.box g) hr
      | some p => simp
  case allocD t zs =>
    simp only [evalOp]
    cases d with
    | none => simp [canMake]
    | some k =>
      simp only [canMake]
      cases hk : L.get k with
      | none =>
        simp only [Option.isNone_none, true_and]
        constructor
        · rintro h F' L' v hm hr
          cases hm with
          | alloc g => exact h g hr
        · intro h g hr
          exact h _ _ _ (.alloc g) hr
      | some p => simp
  case mkFD e n sz xs =>
    simp only [evalOp, canMake]
    cases hp : parts? L ρ sz xs with
    | false => simp
    | true =>
      simp only [true_and]
      constructor
      · rintro h F' L' v hm hr
        cases hm with
        | mkF g F' hle hg => exact h g _ hle hg hr
      · intro h g F' hle hg hr
        exact h _ _ _ (.mkF g F' hle hg) hr

/-- there is something that it comes to -/
theorem made_some {o : SOp} {d : Option Nat} (hr : Real F L) (hc : canMake o d L ρ = true) : ∃ F' L' v, Made o d F L ρ F' L' v ∧ F.le F' ∧ Real F' L' := by
  obtain ⟨w, hs⟩ := hr
  have frzn : ∀ (e : TypeId) (cs : List Value), ∃ F', F.le F' ∧ F' w.heap.size = some (.cells cs.toArray e (0, 0)) ∧ Real F' L := by
    intro e cs
    have hnew := heap_new w (.cells cs.toArray e)
    obtain ⟨hf, hno⟩ := new_free hs
    exact ⟨_, Frz.le_add (hs.alloc (.cells cs.toArray e)) hnew, if_pos rfl, ⟨_, (hs.alloc (.cells cs.toArray e)).freeze hnew hno⟩⟩
  cases o <;> cases d <;> simp only [canMake] at hc <;> try (cases hc; done)
  · rename_i t x k
    rw [Option.isNone_iff_eq_none] at hc
    refine ⟨_, _, _, .box w.heap.size, Frz.le_refl F, ⟨_, (alloc_own hs hc (cs := (vcells (val L ρ x)).toArray) (t := t) (e := .box w.heap.size t (vcells (val L ρ x))) rfl ?_).1⟩⟩
    show _ = _
    rw [heap_new]
  · rename_i t zs k
    rw [Option.isNone_iff_eq_none] at hc
    refine ⟨_, _, _, .alloc w.heap.size, Frz.le_refl F, ⟨_, (alloc_own hs hc (cs := zs.toArray) (t := t) (e := .box w.heap.size t zs) rfl ?_).1⟩⟩
    show _ = _
    rw [heap_new]
  · rename_i e n sz xs
    obtain ⟨F', h1, h2, h3⟩ := frzn e (cellsOf L ρ xs)
    exact ⟨F', L, _, .mkF w.heap.size F' h1 h2, h1, h3⟩
  · rename_i e n sz xs k
    obtain ⟨F', h1, h2, h3⟩ := frzn e (cellsOf L ρ xs)
    exact ⟨F', L, _, .mkF w.heap.size F' h1 h2, h1, h3⟩

theorem Made.le {o : SOp} {d : Option Nat} {F' : Frz} {L' : Loc} {v : SV} (h : Made o d F L ρ F' L' v) : F.le F' := by
  cases h with
  | box g => exact Frz.le_refl _
  | alloc g => exact Frz.le_refl _
  | mkF g F' hle hg => exact hle
theorem Made.part {o : SOp} {d : Option Nat} {F' : Frz} {L' : Loc} {v : SV} (hc : canMake o d L ρ = true) (h : Made o d F L ρ F' L' v) : L'.part L := by
  intro j p e
  cases h with
  | box g =>
    simp only [canMake, Option.isNone_iff_eq_none] at hc
    rw [get_set_ne (fun h => by rw [h] at e; rw [hc] at e; cases e)]; exact e
  | alloc g =>
    simp only [canMake, Option.isNone_iff_eq_none] at hc
    rw [get_set_ne (fun h => by rw [h] at e; rw [hc] at e; cases e)]; exact e
  | mkF g F' hle hg => exact e
/-- a new block leaves what was there -/
theorem Made.get {o : SOp} {d : Option Nat} {F' : Frz} {L' : Loc} {v : SV} (hc : canMake o d L ρ = true) (h : Made o d F L ρ F' L' v) : Keeps L L' := by
  cases h with
  | box g =>
    simp only [canMake, Option.isNone_iff_eq_none] at hc
    exact Keeps.new hc
  | alloc g =>
    simp only [canMake, Option.isNone_iff_eq_none] at hc
    exact Keeps.new hc
  | mkF g F' hle hg => exact Keeps.refl _
theorem Made.frame {o : SOp} {d : Option Nat} {F' : Frz} {L' : Loc} {v : SV} (h : Made o d F L ρ F' L' v) : ∀ j, d ≠ some j → L'.get j = L.get j := by
  intro j hj
  cases h with
  | box g => exact get_set_ne (fun e => hj (by rw [e]))
  | alloc g => exact get_set_ne (fun e => hj (by rw [e]))
  | mkF g F' hle hg => rfl

/-- whether it can be made hangs on what it looks at, and on its key -/
theorem canMake_like {o : SOp} {d : Option Nat} {L L' : Loc} {ρ ρ' : Env} (hv : ∀ x ∈ xsOf o, val L' ρ' x = val L ρ x) (hk : ∀ k, d = some k → (L'.get k = none → L.get k = none)) (h : canMake o d L' ρ' = true) : canMake o d L ρ = true := by
  cases o <;> cases d <;> simp only [canMake] at h ⊢ <;> try (cases h; done)
  · rename_i t x k
    rw [Option.isNone_iff_eq_none] at h ⊢
    exact hk k rfl h
  · rename_i t zs k
    rw [Option.isNone_iff_eq_none] at h ⊢
    exact hk k rfl h
  · rename_i e n sz xs
    rw [← parts_alike (xs := xs) hv]; exact h
  · rename_i e n sz xs k
    rw [← parts_alike (xs := xs) hv]; exact h
theorem Made.like {o : SOp} {d : Option Nat} {ρ ρ' : Env} {F' : Frz} {L' : Loc} {v : SV} (hv : ∀ x ∈ xsOf o, val L ρ' x = val L ρ x) (h : Made o d F L ρ' F' L' v) : Made o d F L ρ F' L' v := by
  cases h with
  | box g => rw [hv _ (by simp [xsOf])]; exact .box g
  | alloc g => exact .alloc g
  | mkF g F' hle hg =>
    rename_i xs
    rw [cellsOf_alike (xs := xs) hv] at hg
    exact .mkF g F' hle hg

theorem val_up {L L' : Loc} {ρ : Env} (hvd : Vd L ρ) (hL : Keeps L L') (x : X) : val L' ρ x = val L ρ x := by
  simp only [val]
  cases e : ev ρ x with
  | v u => rfl
  | el a j => rfl
  | own k off =>
    obtain ⟨g, ty, cs, h⟩ := hvd.ev e
    simp only [conc, hL k g ty cs h, h]
theorem val_put {l : List X} {d : Option Nat} {v : SV} (h : ∀ k, d = some k → k ∉ slotsX l) : ∀ x ∈ l, val L (put d v ρ) x = val L ρ x := fun x hx => by simp only [val, ev_put h x hx]
theorem evalsV {L L' : Loc} {ρ ρ' : Env} {xs : List X} (h : ∀ x ∈ xs, val L' ρ' x = val L ρ x) : evals L' ρ' xs = evals L ρ xs := evals_alike h

/-- two new blocks, in either order -/
theorem made_swap {x y : SOp} {dx dy : Option Nat} {F1 F2 : Frz} {L1 L2 : Loc} {v1 v2 : SV} (hcx : canMake x dx L ρ = true) (hcy : canMake y dy L ρ = true) (hxy : ∀ k, dx = some k → k ∉ slotsX (xsOf y)) (hyx : ∀ k, dy = some k → k ∉ slotsX (xsOf x))
    (hdd : ∀ k, dx = some k → dy ≠ some k) (hvd : Vd L ρ) (h1 : Made y dy F L ρ F1 L1 v1) (h2 : Made x dx F1 L1 (put dy v1 ρ) F2 L2 v2) :
    ∃ Fa La, Made x dx F L ρ Fa La v2 ∧ Made y dy Fa La (put dx v2 ρ) F2 L2 v1 := by
  have ux : ∀ z ∈ xsOf x, val L1 (put dy v1 ρ) z = val L ρ z := fun z hz => by
    rw [val_put hyx z hz, val_up hvd (h1.get hcy)]
  cases h2 with
  | box g2 =>
    rw [ux _ (by simp [xsOf])]
    rename_i t z k
    have fresh : ∀ {o : Own}, Keeps L (L.set k o) := by
      simp only [canMake, Option.isNone_iff_eq_none] at hcx
      exact Keeps.new hcx
    cases h1 with
    | box g1 =>
      rename_i t' z' k'
      refine ⟨F, _, .box g2, ?_⟩
      rw [set_comm L _ _ (fun e => hdd k rfl (by rw [e]))]
      have e : val (L.set k (.box g2 t (vcells (val L ρ z)))) (put (some k) (.own k 0) ρ) z' = val L ρ z' := by
        rw [val_put hxy z' (by simp [xsOf]), val_up hvd (fresh)]
      rw [← e]
      exact .box g1
    | alloc g1 =>
      rename_i t' zs' k'
      refine ⟨F, _, .box g2, ?_⟩
      rw [set_comm L _ _ (fun e => hdd k rfl (by rw [e]))]
      exact .alloc g1
    | mkF g1 F' hle hg =>
      rename_i e' n' sz' xs'
      refine ⟨F, _, .box g2, .mkF g1 _ hle ?_⟩
      rw [cellsOf_alike (L := L) (ρ := ρ) (xs := xs') (fun u hu => by rw [val_put hxy u (by simpa [xsOf] using hu), val_up hvd fresh])]
      exact hg
  | alloc g2 =>
    rename_i t zs k
    have fresh : ∀ {o : Own}, Keeps L (L.set k o) := by
      simp only [canMake, Option.isNone_iff_eq_none] at hcx
      exact Keeps.new hcx
    cases h1 with
    | box g1 =>
      rename_i t' z' k'
      refine ⟨F, _, .alloc g2, ?_⟩
      rw [set_comm L _ _ (fun e => hdd k rfl (by rw [e]))]
      have e : val (L.set k (.box g2 t zs)) (put (some k) (.own k 0) ρ) z' = val L ρ z' := by
        rw [val_put hxy z' (by simp [xsOf]), val_up hvd (fresh)]
      rw [← e]
      exact .box g1
    | alloc g1 =>
      rename_i t' zs' k'
      refine ⟨F, _, .alloc g2, ?_⟩
      rw [set_comm L _ _ (fun e => hdd k rfl (by rw [e]))]
      exact .alloc g1
    | mkF g1 F' hle hg =>
      rename_i e' n' sz' xs'
      refine ⟨F, _, .alloc g2, .mkF g1 _ hle ?_⟩
      rw [cellsOf_alike (L := L) (ρ := ρ) (xs := xs') (fun u hu => by rw [val_put hxy u (by simpa [xsOf] using hu), val_up hvd fresh])]
      exact hg
  | mkF g2 F' hle hg =>
    rename_i e n sz xs
    have ux' := cellsOf_alike (xs := xs) ux
    rw [ux'] at hg
    cases h1 with
    | box g1 =>
      rename_i t' z' k'
      refine ⟨F2, L, .mkF g2 _ hle hg, ?_⟩
      have e := val_put (L := L) (ρ := ρ) (v := .v (.slice (some ⟨g2, 0, none⟩) n n)) hxy z' (by simp [xsOf])
      rw [← e]
      exact .box g1
    | alloc g1 => exact ⟨F2, L, .mkF g2 _ hle hg, .alloc g1⟩
    | mkF g1 F1' hle1 hg1 =>
      rename_i e' n' sz' xs'
      refine ⟨F2, L, .mkF g2 _ (Frz.le_trans hle1 hle) hg, .mkF g1 _ (Frz.le_refl _) ?_⟩
      rw [cellsOf_alike (L := L) (ρ := ρ) (xs := xs') (fun u hu => by rw [val_put hxy u (by simpa [xsOf] using hu)])]
      exact hle _ _ hg1

/-- two operations change places -/
theorem swapOp {x y : SOp} {dx dy : Option Nat} (hr : Real F L) (hc : clsOk x y = true) (hxy : ∀ k, dx = some k → k ∉ slotsX (xsOf y)) (hyx : ∀ k, dy = some k → k ∉ slotsX (xsOf x)) (hdd : ∀ k, dx = some k → dy ≠ some k)
    (hvd : Vd L ρ) (hK : evalOp P x dx F L ρ (fun F1 L1 ρ1 => evalOp P y dy F1 L1 ρ1 K)) : evalOp P y dy F L ρ (fun F1 L1 ρ1 => evalOp P x dx F1 L1 ρ1 K) := by
  have hdd' : ∀ k, dy = some k → dx ≠ some k := fun k e e' => hdd k e' e
  simp only [clsOk, Bool.or_eq_true, Bool.and_eq_true] at hc
  rcases hc with ((((⟨hx, hy⟩ | ⟨hx, hy⟩) | ⟨hx, hy⟩) | ⟨hx, hy⟩) | ⟨hx, hy⟩) | ⟨hx, hy⟩
  · rw [evalOp_simple hx] at hK
    obtain ⟨v, hT, hK2⟩ := (outV_one hx).ex _ hK
    clear hK
    have later : ∀ {F' : Frz} {L' : Loc} {u : SV}, F.le F' → Keeps L L' → K F' L' (put dy u (put dx v ρ)) → evalOp P x dx F' L' (put dy u ρ) K := by
      intro F' L' u hF hL hk
      rw [evalOp_simple hx]
      have hal : Alike x L L' ρ (put dy u ρ) := fun z hz => ⟨ev_put hyx z hz, fun k off e => by
        obtain ⟨g, ty, cs, h⟩ := hvd.ev e
        rw [hL k g ty cs h, h]⟩
      refine (outV_one hx).mono _ _ (fun v' hv' => ?_) (outV_up hx hF hal hT)
      subst hv'
      rw [put_comm hdd]
      exact hk
    have hv := val_put (L := L) (ρ := ρ) (v := v) hxy
    by_cases hys : simpleD y = true
    · rw [evalOp_simple hys] at hK2 ⊢
      have hal : Alike y L L (put dx v ρ) ρ := fun z hz => ⟨(ev_put hxy z hz).symm, fun _ _ _ => rfl⟩
      exact (outV_one hys).mono _ _ (fun u hu => later (Frz.le_refl F) (Keeps.refl _) hu) (outV_up hys (Frz.le_refl F) hal hK2)
    · by_cases hya : allocD? y = true
      · rw [evalOp_alloc hya] at hK2 ⊢
        obtain ⟨h1, h2⟩ := hK2
        have hcm : canMake y dy L ρ = true := canMake_like (L' := L) (ρ' := put dx v ρ) hv (fun k _ e => e) h1
        refine ⟨hcm, fun F' L' u hm hr' => later hm.le (hm.get hcm) (h2 F' L' u ?_ hr')⟩
        exact hm.like fun z hz => (hv z hz).symm
      · cases y <;> first | (exfalso; revert hys hya hy; simp [okD0, simpleD, callD?, allocD?, appD?]; done) | skip
        case callD f args =>
          have e1 := evals_alike (xs := args) hv
          simp only [evalOp, e1] at hK2 ⊢
          exact hK2.imp fun F' L' u hle hl _ h => later hle hl.keeps h
        case callVD f args =>
          have e0 := ev_put (v := v) (ρ := ρ) hxy f (by simp [xsOf])
          have e1 := evals_alike (xs := args) (L := L) (L' := L) (ρ := ρ) (ρ' := put dx v ρ) (fun z hz => hv z (by simp [xsOf, hz]))
          simp only [evalOp, e0, e1] at hK2 ⊢
          split at hK2
          · exact hK2.imp fun F' L' u hle hl _ h => later hle hl.keeps h
          · exact hK2.elim
        case appD e sz b zs s z =>
          have e0 := ev_put (v := v) (ρ := ρ) hxy s (by simp [xsOf])
          have e1 := ev_put (v := v) (ρ := ρ) hxy z (by simp [xsOf])
          simp only [evalOp, e0, e1] at hK2 ⊢
          split at hK2
          · refine hK2.imp (Frz.le_refl F) fun kd n xs n' xs' u hkd hr' h => later (Frz.le_refl F) ?_ (h hr')
            rcases hkd with h | ⟨_, h⟩
            · exact Keeps.row h
            · exact Keeps.new h
          · exact hK2.elim
  · have call_case : ∀ {f : Nat} {args : List Value}, CallDPt P f args F L dx (fun F' L' v => evalOp P y dy F' L' (put dx (.v v) ρ) K) →
        canMake y dy L ρ = true ∧ ∀ F' L' u, Made y dy F L ρ F' L' u → CallDPt P f args F' L' dx (fun F2 L2 v => K F2 L2 (put dx (.v v) (put dy u ρ))) := by
      intro f args hC
      have up : ∀ {L1 : Loc}, Left dx L L1 → ∀ {u : SV}, ∀ z ∈ xsOf y, val L1 (put dx u ρ) z = val L ρ z := by
        intro L1 hl u z hz
        rw [val_put hxy z hz, val_up hvd hl.keeps]
      have hcm : canMake y dy L ρ = true := by
        obtain ⟨F', L', v, hle, hl, _, h⟩ := hC.some hr
        rw [evalOp_alloc hy] at h
        refine canMake_like (L' := L') (ρ' := put dx (.v v) ρ) (up hl) (fun k hk e => ?_) h.1
        rcases hl with rfl | ⟨j, o, hj, hn, rfl⟩
        · exact e
        · rw [get_set_ne (fun ej => hdd j hj (by rw [← ej]; exact hk))] at e; exact e
      refine ⟨hcm, fun F' L' u hm => (hC.up hm.le (hm.part hcm) (fun k hk hn => by rw [hm.frame k (hdd k hk)]; exact hn)).imp fun F2 L2 v hle hlf hr2 h => ?_⟩
      clear hlf
      obtain ⟨h1, hr3, h2⟩ := h
      clear hr3
      rw [put_comm hdd]
      rcases h2 with ⟨rfl, h2⟩ | ⟨k, o, hk, hn, rfl, h2⟩
      · rw [evalOp_alloc hy] at h2
        refine h2.2 F2 L2 u ?_ hr2
        have up2 := up (L1 := L) (.inl rfl) (u := .v v)
        clear up h2
        cases hm with
        | box g => rw [← up2 _ (by simp [xsOf])]; exact .box g
        | alloc g => exact .alloc g
        | mkF g F' hle2 hg =>
          rename_i xs
          refine .mkF g _ (Frz.le_refl _) ?_
          rw [cellsOf_alike (L := L) (ρ := ρ) (xs := xs) (fun z hz => up2 z (by simpa [xsOf] using hz))]
          exact h1 _ _ hg
      · rw [evalOp_alloc hy] at h2
        refine h2.2 F2 _ u ?_ hr2
        have up2 := up (L1 := L.set k o) (.inr ⟨k, o, hk, hn, rfl⟩) (u := .v v)
        clear up h2
        cases hm with
        | box g =>
          rw [set_comm L _ _ (fun e => hdd k hk (by rw [e])), ← up2 _ (by simp [xsOf])]; exact .box g
        | alloc g =>
          rw [set_comm L _ _ (fun e => hdd k hk (by rw [e]))]; exact .alloc g
        | mkF g F' hle2 hg =>
          rename_i xs
          refine .mkF g _ (Frz.le_refl _) ?_
          rw [cellsOf_alike (L := L) (ρ := ρ) (xs := xs) (fun z hz => up2 z (by simpa [xsOf] using hz))]
          exact h1 _ _ hg
    cases x <;> first | (exfalso; revert hx; simp [callD?]; done) | skip
    case callD f args =>
      simp only [evalOp] at hK
      obtain ⟨h1, h2⟩ := call_case hK
      rw [evalOp_alloc hy]
      refine ⟨h1, fun F' L' u hm _ => ?_⟩
      have e1 : evals L' (put dy u ρ) args = evals L ρ args := evals_alike fun z hz => by rw [val_put hyx z (by simpa [xsOf] using hz), val_up hvd (hm.get h1)]
      simp only [evalOp, e1]
      exact h2 F' L' u hm
    case callVD f args =>
      simp only [evalOp] at hK
      split at hK
      case h_2 => exact hK.elim
      rename_i fid fi ca hf
      obtain ⟨h1, h2⟩ := call_case hK
      rw [evalOp_alloc hy]
      refine ⟨h1, fun F' L' u hm _ => ?_⟩
      have e0 := ev_put (v := u) (ρ := ρ) hyx f (by simp [xsOf])
      have e1 : evals L' (put dy u ρ) args = evals L ρ args := evals_alike fun z hz => by rw [val_put hyx z (by simp [xsOf, hz]), val_up hvd (hm.get h1)]
      simp only [evalOp, e0, e1, hf]
      exact h2 F' L' u hm
  · cases x <;> first | (exfalso; revert hx; simp [appD?]; done) | skip
    case appD e sz b zs s z =>
      rw [evalOp_appD] at hK
      split at hK
      case h_2 => exact hK.elim
      rename_i sv xv hsv hxv
      have hcm : canMake y dy L ρ = true := by
        obtain ⟨kd, v, n', xs', h1, _, h⟩ := hK.some hr
        rw [evalOp_alloc hy] at h
        have hkp : Keeps L (L.set kd (.row v e sz n' xs')) := by
          rcases h1 with ⟨n, xs, h1⟩ | ⟨_, h1⟩
          · exact Keeps.row h1
          · exact Keeps.new h1
        refine canMake_like (L' := _) (ρ' := put dx (.v v) ρ) (fun u hu => by rw [val_put hxy u hu, val_up hvd hkp]) (fun k hk e => ?_) h.1
        rw [Loc.get_set] at e
        split at e
        · cases e
        · exact e
      rw [evalOp_alloc hy]
      refine ⟨hcm, fun F' L' u hm hrm => ?_⟩
      clear hrm
      have e0 := ev_put (v := u) (ρ := ρ) hyx s (by simp [xsOf])
      have e1 := ev_put (v := u) (ρ := ρ) hyx z (by simp [xsOf])
      simp only [evalOp, e0, e1, hsv, hxv]
      obtain ⟨kd, n, xs, m, news, h1, ⟨ad, c, h2, h3, h4⟩, h5, h6, h7, h8⟩ := hK
      have hkp : ∀ {o : Own}, Keeps L (L.set kd o) := by
        rcases h1 with h1 | ⟨_, h1, _⟩
        · exact Keeps.row h1
        · exact Keeps.new h1
      have hne : ∀ k, dy = some k → L.get k = none → kd ≠ k := by
        rintro k hk hn rfl
        rcases h1 with h1 | ⟨h1, _⟩
        · rw [hn] at h1; cases h1
        · exact hdd kd h1 hk
      refine ⟨kd, n, xs, m, news, ?_, ⟨ad, c, h2, h3, ?_⟩, h5, h6, h7, fun v hv hr2 => ?_⟩
      · rcases h1 with h1 | ⟨h0, h1, h1'⟩
        · exact .inl (hm.part hcm kd _ h1)
        · exact .inr ⟨h0, by rw [hm.frame kd (hdd kd h0)]; exact h1, h1'⟩
      · rcases h4 with h4 | h4
        · exact .inl (h4.mono hm.le)
        · exact .inr h4
      · have h9 := h8 v hv (hr2.down hm.le (part_set2 (hm.part hcm)))
        rw [evalOp_alloc hy] at h9
        rw [put_comm hdd]
        refine h9.2 F' _ u ?_ hr2
        have up2 : ∀ z ∈ xsOf y, val (L.set kd (.row v e sz (n + m) (xs ++ news))) (put dx (.v v) ρ) z = val L ρ z := fun z hz => by
          rw [val_put hxy z hz, val_up hvd hkp]
        clear h8 h9 hsv hxv e0 e1
        cases hm with
        | box g =>
          rename_i t x k
          simp only [canMake, Option.isNone_iff_eq_none] at hcm
          rw [set_comm L _ _ (fun e => hne k rfl hcm e.symm), ← up2 _ (by simp [xsOf])]
          exact .box g
        | alloc g =>
          rename_i t zs k
          simp only [canMake, Option.isNone_iff_eq_none] at hcm
          rw [set_comm L _ _ (fun e => hne k rfl hcm e.symm)]
          exact .alloc g
        | mkF g F' hle2 hg =>
          rename_i xs2
          refine .mkF g _ hle2 ?_
          rw [cellsOf_alike (L := L) (ρ := ρ) (xs := xs2) (fun z hz => up2 z (by simpa [xsOf] using hz))]
          exact hg
  · rw [evalOp_alloc hx] at hK
    obtain ⟨hcx, hK⟩ := hK
    have hcy : canMake y dy L ρ = true := by
      obtain ⟨F', L', v, hm, hle, hr'⟩ := made_some hr hcx
      have h := hK F' L' v hm hr'
      rw [evalOp_alloc hy] at h
      refine canMake_like (L' := L') (ρ' := put dx v ρ) (fun z hz => by rw [val_put hxy z hz, val_up hvd (hm.get hcx)]) (fun k hk e => ?_) h.1
      rw [hm.frame k (fun e' => hdd k e' hk)] at e
      exact e
    rw [evalOp_alloc hy]
    refine ⟨hcy, fun F1 L1 v1 hm1 hr1 => ?_⟩
    rw [evalOp_alloc hx]
    refine ⟨canMake_like (L' := L) (ρ' := ρ) (fun z hz => by rw [val_put hyx z hz, val_up hvd (hm1.get hcy)]) (fun k hk e => by rw [hm1.frame k (hdd k hk)]; exact e) hcx, fun F2 L2 v2 hm2 hr2 => ?_⟩
    obtain ⟨Fa, La, ha, hb⟩ := made_swap hcx hcy hxy hyx hdd hvd hm1 hm2
    have hcya : canMake y dy La (put dx v2 ρ) = true :=
      canMake_like (L' := L) (ρ' := ρ) (fun z hz => by rw [val_put hxy z hz, val_up hvd (ha.get hcx)]) (fun k hk e => by rw [ha.frame k (fun e' => hdd k e' hk)]; exact e) hcy
    have hra : Real Fa La := hr2.down hb.le (hb.part hcya)
    have h := hK Fa La v2 ha hra
    rw [evalOp_alloc hy] at h
    rw [put_comm hdd]
    exact h.2 F2 L2 v1 hb hr2
  · have hx' := pure_simple hx
    rw [evalOp_simple hx'] at hK
    obtain ⟨v, hT, hK2⟩ := (outV_one hx').ex _ hK
    clear hK
    have hK := hK2
    clear hK2
    cases y <;> first | (exfalso; revert hy; simp [storeD?]; done) | skip
    case storeD n a z =>
      have e0 := ev_put (v := v) (ρ := ρ) hxy a (by simp [xsOf])
      have e1 := val_put (L := L) (v := v) (ρ := ρ) hxy z (by simp [xsOf])
      rw [evalOp_storeD, e0, e1] at hK
      rw [evalOp_storeD]
      split at hK
      · split at hK
        · split at hK
          · have h3 := (outV_one hx').mono _ (fun u => K F _ (put dx u (put dy (.v undef) ρ))) (fun u hu => by subst hu; rw [put_comm hdd]; exact hK)
              (outV_up hx' (Frz.le_refl F) (alike_env (L := L) (ρ := ρ) (v := .v undef) hyx) hT)
            rw [evalOp_simple hx']
            exact outV_pure hx h3
          · exact hK.elim
        · exact hK.elim
      · exact hK.elim
  · have hy' := pure_simple hy
    cases x <;> first | (exfalso; revert hx; simp [storeD?]; done) | skip
    case storeD n a z =>
      rw [evalOp_storeD] at hK
      split at hK
      case h_2 => exact hK.elim
      rename_i e1 e2 e3
      split at hK
      case h_2 => exact hK.elim
      rename_i e4
      split at hK
      case h_2 => exact hK.elim
      rename_i e5
      rw [evalOp_simple hy'] at hK
      obtain ⟨v, hT, hK⟩ := (outV_one hy').ex _ hK
      have hT := outV_pure hy (F' := F) (L' := L) hT
      have hal : Alike y L L (put dx (.v undef) ρ) ρ := fun u hu => ⟨(ev_put hxy u hu).symm, fun _ _ _ => rfl⟩
      have hT := outV_up hy' (Frz.le_refl F) hal hT
      rw [evalOp_simple hy']
      refine (outV_one hy').mono _ _ (fun u hu => ?_) hT
      subst hu
      have e0' := ev_put (v := u) (ρ := ρ) hyx a (by simp [xsOf])
      have e1' := val_put (L := L) (v := u) (ρ := ρ) hyx z (by simp [xsOf])
      simp only [evalOp, e0', e1', e1, e2, e3, e4, e5]
      rw [put_comm hdd]
      exact hK
end
end Go.Fr
