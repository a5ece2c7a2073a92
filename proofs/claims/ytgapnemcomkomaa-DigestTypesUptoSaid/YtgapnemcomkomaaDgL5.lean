/- Digest: the statement on types: the code of types is a code without beginnings in common. -/
import Derived.Test.YtgapnemcomkomaaDgU2
set_option linter.unusedVariables false
set_option linter.unusedSimpArgs false
namespace Go.Fr.Try
open Go Go.RowKit Go.Proofs Go.Fr Go.Fr.T Go.Fr.Api

theorem u8_of {a b : Nat} (ha : a < 256) (hb : b < 256) (h : UInt8.ofNat a = UInt8.ofNat b) : a = b := by
  have := congrArg UInt8.toNat h
  simp only [UInt8.toNat_ofNat'] at this
  omega
theorem encN_inj : ∀ (m n : Nat) (r s : List UInt8), encN m ++ r = encN n ++ s → m = n ∧ r = s := by
  intro m
  induction m using Nat.strongRecOn with
  | _ m ih =>
    intro n r s h
    rw [encN.eq_1 m, encN.eq_1 n] at h
    split at h <;> split at h
    · simp only [List.cons_append, List.nil_append, List.cons.injEq] at h
      exact ⟨u8_of (by omega) (by omega) h.1, h.2⟩
    · simp only [List.cons_append, List.nil_append, List.cons.injEq] at h
      have := u8_of (by omega) (by omega) h.1
      omega
    · simp only [List.cons_append, List.nil_append, List.cons.injEq] at h
      have := u8_of (by omega) (by omega) h.1
      omega
    · simp only [List.cons_append, List.cons.injEq] at h
      have h1 := u8_of (by omega) (by omega) h.1
      obtain ⟨h2, h3⟩ := ih (m / 128) (by omega) (n / 128) r s h.2
      exact ⟨by omega, h3⟩
theorem zig_inj {a b : Int} (h : zig a = zig b) : a = b := by
  unfold zig at h
  split at h <;> split at h <;> omega
theorem encI_inj {a b : Int} {r s : List UInt8} (h : encI a ++ r = encI b ++ s) : a = b ∧ r = s := by
  obtain ⟨h1, h2⟩ := encN_inj _ _ r s h
  exact ⟨zig_inj h1, h2⟩
theorem flat_inj {α : Type} {e : α → List UInt8} : ∀ (l m : List α) (r s : List UInt8), (∀ x ∈ l, ∀ y r s, e x ++ r = e y ++ s → x = y ∧ r = s) → l.length = m.length → l.flatMap e ++ r = m.flatMap e ++ s → l = m ∧ r = s
  | [], [], r, s, _, _, h => by simpa using h
  | x :: l, y :: m, r, s, he, hl, h => by
    simp only [List.flatMap_cons, List.append_assoc] at h
    obtain ⟨rfl, h1⟩ := he x (by simp) y _ _ h
    obtain ⟨rfl, h2⟩ := flat_inj l m r s (fun z hz => he z (by simp [hz])) (by simpa using hl) h1
    exact ⟨rfl, h2⟩
  | [], y :: m, r, s, _, hl, _ => by simp at hl
  | x :: l, [], r, s, _, hl, _ => by simp at hl
theorem encL_inj {α : Type} {e : α → List UInt8} {l m : List α} {r s : List UInt8} (he : ∀ x ∈ l, ∀ y r s, e x ++ r = e y ++ s → x = y ∧ r = s) (h : encL e l ++ r = encL e m ++ s) : l = m ∧ r = s := by
  simp only [encL, List.append_assoc] at h
  obtain ⟨h1, h2⟩ := encI_inj h
  exact flat_inj l m r s he (by omega) h2
theorem encTy_inj : ∀ (a b : Ty) (r s : List UInt8), encTy none a ++ r = encTy none b ++ s → a = b ∧ r = s
  | .mk k i l, .mk k' i' l', r, s, h => by
    have ih : ∀ x ∈ l, ∀ y r s, encTy none x ++ r = encTy none y ++ s → x = y ∧ r = s := fun x hx y r s h => encTy_inj x y r s h
    rw [encTy_eq, encTy_eq] at h
    simp only [Ty.kind, Ty.id, Ty.args, encName, encIs, List.flatMap_cons, List.flatMap_nil, List.append_nil, List.append_assoc, Option.getD_none] at h
    obtain ⟨e1, h⟩ := encI_inj h
    obtain ⟨e2, h⟩ := encI_inj h
    obtain ⟨e3, h⟩ := encL_inj ih h
    rw [e1, e2, e3]
    exact ⟨rfl, h⟩
termination_by a => SizeOf.sizeOf a
decreasing_by
  have := List.sizeOf_lt_of_mem hx
  simp only [Ty.mk.sizeOf_spec]
  omega
theorem begins_same (a b : Ty) : beginsB (encTy none a) (encTy none b) = tyEq a b := by
  rw [Bool.eq_iff_iff, tyEq_iff]
  simp only [beginsB, Bool.and_eq_true, decide_eq_true_eq]
  constructor
  · rintro ⟨h1, h2⟩
    have h3 := List.take_append_drop (encTy none b).length (encTy none a)
    rw [h2] at h3
    have := encTy_inj b a _ [] (by rw [h3]; simp)
    exact this.1.symm
  · rintro rfl
    simp
theorem encTy_pos (a : Ty) : 0 < (encTy none a).length := by
  rw [encTy_eq]
  simp only [encIs, List.flatMap_cons, List.flatMap_nil, List.append_nil, List.length_append]
  have := encN_len (zig a.kind)
  unfold encI
  omega
theorem tyEq_comm (a b : Ty) : tyEq b a = tyEq a b := by
  rw [Bool.eq_iff_iff, tyEq_iff, tyEq_iff]
  exact ⟨Eq.symm, Eq.symm⟩
set_option maxRecDepth 10000 in
theorem t5 (a b : Ty) (ha : a.g.bulk ≤ 1048576) (hb : b.g.bulk ≤ 1048576) : CallsT P 5 [.agg (tyC a), .agg (tyC b)] [] (Ret [] (.bool true)) := by
  have h20a := t20 a
  have h20b := t20 b
  have h25 := t25 a b
  have h10 := t10 [a, b]
  have e1 := begins_same a b
  have e2 := begins_same b a
  have e3 := encTy_pos a
  have ba := encTy_le (po := none) trivial a
  have bb := encTy_le (po := none) trivial b
  have h24 := t24 (encTy none a) (encTy none b)
  have h24' := t24 (encTy none b) (encTy none a)
  rw [e1] at h24
  rw [e2, tyEq_comm] at h24'
  simp only [List.map_cons, List.map_nil] at h10
  rw [tyC_eq, tyC_eq] at *
  generalize encTy none a = x at *
  generalize encTy none b = y at *
  generalize smallL [a, b] = sm at *
  generalize tyEq a b = q at *
  refine callsT_facts Try.func5 facts5 rfl fun hw _ => ?_
  have hxl : x.length ≤ 2 ^ 46 := by have := ba hw.1; omega
  have hyl : y.length ≤ 2 ^ 46 := by have := bb hw.2.1; omega
  refine callP t9 rfl fun _ => ?_
  refine callP h10 rfl fun _ => ?_
  refine brn_split (fun hs => ?_) (fun hs => ?_)
  · exact retP rfl rfl
  refine callP (h20a hxl) rfl fun _ => ?_
  refine callP (h20b hyl) rfl fun _ => ?_
  refine callPD h24 rfl fun _ => ?_
  refine callPD h25 rfl fun _ => ?_
  refine brn_p (fun _ => ?_) (fun h => (h rfl).elim)
  refine callPD h24' rfl fun _ => ?_
  refine callPD h25 rfl fun _ => ?_
  refine brn_p (fun _ => ?_) (fun h => (h rfl).elim)
  have e : decide ((((bcells x).length : Nat) : Int) > 0) = true := decide_eq_true (by rw [bcells_len]; omega)
  exact retP rfl (congrArg C.bool e)
end Go.Fr.Try
