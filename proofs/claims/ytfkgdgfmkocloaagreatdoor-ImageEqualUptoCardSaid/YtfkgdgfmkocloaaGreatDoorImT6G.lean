/- Part of the proofs of the statements of this seat. -/
import Derived.Test.YtfkgdgfmkocloaaGreatDoorImW5G
import Derived.Test.YtfkgdgfmkocloaaGreatDoorImW2G
set_option linter.unusedVariables false
set_option linter.unusedSimpArgs false
namespace Go.Fr.Tryz
open Go Go.RowKit Go.Proofs Go.Fr Go.Fr.T Go.Fr.Api

structure RT {α : Type} (d : Dec α) (e : α → Enc) : Prop where
  wr : ∀ x r, (e x).2 = true → d ((e x).1 ++ r) = some (x, r)
  rd : ∀ l x r, d l = some (x, r) → (e x).2 = true ∧ l = (e x).1 ++ r
theorem andE_t {a b : Enc} : (andE a b).2 = true ↔ a.2 = true ∧ b.2 = true := by simp [andE]
theorem andE_1 {a b : Enc} (h : a.2 = true) : (andE a b).1 = a.1 ++ b.1 := by rw [andE_ok h]; rfl
theorem andD_inv {α β : Type} {f : Dec α} {k : α → Dec β} {l r : List UInt8} {y : β} (h : andD f k l = some (y, r)) : ∃ x r1, f l = some (x, r1) ∧ k x r1 = some (y, r) := by
  unfold andD at h
  split at h
  · cases h
  · rename_i x r1 e
    exact ⟨x, r1, e, h⟩
theorem unz_zz (n : Int) : unz (zz n) = n := by
  unfold unz zz
  split
  · split <;> omega
  · split <;> omega
theorem zz_unz (z : Nat) : zz (unz z) = z := by
  unfold unz zz
  split
  · split <;> omega
  · split <;> omega
theorem u8_of {n : Nat} (h : n < 256) : (UInt8.ofNat n).toNat = n := by
  rw [UInt8.toNat_ofNat']; exact Nat.mod_eq_of_lt h
theorem numGo_wr : ∀ (f k z w : Nat) (r : List UInt8), 0 < f → w < 128 ^ f → (0 < w ∨ k = 0) → -bound ≤ unz (z + w * 128 ^ k) → unz (z + w * 128 ^ k) ≤ bound → numGo f k z (vint w ++ r) = some (unz (z + w * 128 ^ k), r)
  | 0, k, z, w, r, hf0, h, h0, h1, h2 => absurd hf0 (by omega)
  | f + 1, k, z, w, r, hf0, h, h0, h1, h2 => by
    rw [vint]
    split
    · rename_i hw
      simp only [List.cons_append, List.nil_append, numGo]
      rw [u8_of (by omega), if_pos hw, if_pos h0, if_pos ⟨h1, h2⟩]
    · rename_i hw
      have hm : w % 128 < 128 := Nat.mod_lt _ (by omega)
      simp only [List.cons_append, numGo]
      rw [u8_of (by omega), if_neg (by omega)]
      have e : z + (128 + w % 128 - 128) * 128 ^ k + w / 128 * 128 ^ (k + 1) = z + w * 128 ^ k := by
        rw [Nat.add_sub_cancel_left, Nat.pow_succ, Nat.add_assoc, Nat.mul_comm (128 ^ k) 128, ← Nat.mul_assoc, ← Nat.add_mul]
        congr 2
        omega
      have hf : w / 128 < 128 ^ f := by
        rw [Nat.pow_succ] at h
        exact Nat.div_lt_of_lt_mul (by rw [Nat.mul_comm]; exact h)
      have := numGo_wr f (k + 1) (z + (128 + w % 128 - 128) * 128 ^ k) (w / 128) r (by
        rcases Nat.eq_zero_or_pos f with e0 | e0
        · subst e0; simp at h; omega
        · exact e0) hf (.inl (by omega)) (by rw [e]; exact h1) (by rw [e]; exact h2)
      rw [e] at this
      exact this
theorem numGo_rd : ∀ (f k z : Nat) (l : List UInt8) (n : Int) (r : List UInt8), numGo f k z l = some (n, r) → ∃ w, l = vint w ++ r ∧ n = unz (z + w * 128 ^ k) ∧ -bound ≤ n ∧ n ≤ bound ∧ (0 < w ∨ k = 0)
  | 0, k, z, l, n, r, h => by cases h
  | f + 1, k, z, [], n, r, h => by cases h
  | f + 1, k, z, c :: l, n, r, h => by
    simp only [numGo] at h
    split at h
    · rename_i hc
      split at h
      · rename_i h0
        split at h
        · rename_i hb
          injection h with h
          injection h with h1 h2
          subst h1 h2
          refine ⟨c.toNat, ?_, rfl, hb.1, hb.2, h0⟩
          rw [vint, dif_pos hc]
          simp
        · cases h
      · cases h
    · rename_i hc
      obtain ⟨w, rfl, h2, h3, h4, h5⟩ := numGo_rd f (k + 1) _ l n r h
      have hlt := c.toNat_lt
      have hw : 0 < w := by rcases h5 with h5 | h5 <;> omega
      refine ⟨c.toNat - 128 + 128 * w, ?_, ?_, h3, h4, .inl (by omega)⟩
      · have e1 : (c.toNat - 128 + 128 * w) % 128 = c.toNat - 128 := by omega
        have e2 : (c.toNat - 128 + 128 * w) / 128 = w := by omega
        have e3 : vint (c.toNat - 128 + 128 * w) = c :: vint w := by
          rw [vint.eq_1 (c.toNat - 128 + 128 * w), dif_neg (by omega), e1, e2, show 128 + (c.toNat - 128) = c.toNat by omega]
          simp
        rw [e3]
        rfl
      · rw [h2]
        congr 1
        rw [Nat.pow_succ, Nat.add_mul, Nat.add_assoc, Nat.mul_comm (128 ^ k) 128, ← Nat.mul_assoc, Nat.mul_comm w 128]
theorem num_rt : RT numD numE := by
  refine ⟨fun n r h => ?_, fun l n r h => ?_⟩
  · unfold numE at h ⊢
    split at h
    case isFalse => cases h
    rename_i hb
    rw [if_pos hb]
    have h0 : zz n < 128 ^ 6 := by unfold zz; split <;> omega
    have := numGo_wr 6 0 0 (zz n) r (by omega) h0 (.inr rfl) (by simp only [Nat.zero_add, Nat.pow_zero, Nat.mul_one, unz_zz]; exact hb.1) (by simp only [Nat.zero_add, Nat.pow_zero, Nat.mul_one, unz_zz]; exact hb.2)
    simp only [Nat.zero_add, Nat.pow_zero, Nat.mul_one, unz_zz] at this
    exact this
  · obtain ⟨w, rfl, h2, h3, h4, h5⟩ := numGo_rd 6 0 0 l n r h
    simp only [Nat.zero_add, Nat.pow_zero, Nat.mul_one] at h2
    subst h2
    unfold numE
    rw [if_pos ⟨h3, h4⟩, zz_unz]
    exact ⟨rfl, rfl⟩
end Go.Fr.Tryz

set_option linter.unusedVariables false
set_option linter.unusedSimpArgs false
namespace Go.Fr.Tryz
open Go Go.RowKit Go.Proofs Go.Fr Go.Fr.T Go.Fr.Api

theorem one_rt {n : Int} {r : List UInt8} (h : (numsE [n]).2 = true) : numD ((numsE [n]).1 ++ r) = some (n, r) := by
  have h1 : (numE n).2 = true := (andE_t.1 h).1
  have e : (numsE [n]).1 = (numE n).1 := by
    show (andE (numE n) okE).1 = _
    rw [andE_1 h1]; simp [okE]
  rw [e]
  exact num_rt.wr n r h1
theorem one_e {n : Int} (h : (numE n).2 = true) : (numsE [n]).2 = true ∧ (numsE [n]).1 = (numE n).1 := by
  refine ⟨andE_t.2 ⟨h, rfl⟩, ?_⟩
  show (andE (numE n) okE).1 = _
  rw [andE_1 h]; simp [okE]
theorem one_rd {l : List UInt8} {n : Int} {r : List UInt8} (h : numD l = some (n, r)) : (numsE [n]).2 = true ∧ l = (numsE [n]).1 ++ r := by
  obtain ⟨h1, h2⟩ := num_rt.rd l n r h
  obtain ⟨h3, h4⟩ := one_e h1
  exact ⟨h3, by rw [h4]; exact h2⟩
theorem bit_rt : RT bitD (fun b => numE (bitI b)) := by
  refine ⟨fun b r h => ?_, fun l b r h => ?_⟩
  · have := num_rt.wr (bitI b) r h
    simp only [bitD, this]
    cases b <;> rfl
  · simp only [bitD] at h
    split at h
    · rename_i n r1 e
      split at h
      · rename_i hn
        injection h with h
        injection h with h1 h2
        subst h2
        obtain ⟨q1, q2⟩ := num_rt.rd l n r1 e
        have : bitI b = n := by
          subst h1
          rcases hn with rfl | rfl <;> rfl
        rw [this]
        exact ⟨q1, q2⟩
      · cases h
    · cases h
theorem name_rt : RT nameD nameE := by
  refine ⟨fun s r h => ?_, fun l s r h => ?_⟩
  · have h1 := andE_t.1 h
    have h2 := (andE_t.1 h1.2).1
    have hs : s.size ≤ 200 := of_decide_eq_true h1.1
    have e : (nameE s).1 = (numsE [(s.size : Int)]).1 ++ s.data.toList := by
      rw [nameE, andE_1 h1.1, andE_1 h2]; rfl
    rw [e, List.append_assoc]
    have hsz : s.data.toList.length = s.size := by simp
    simp only [nameD, one_rt h2]
    rw [if_pos (by omega), takeD_pos (by omega) (by rw [List.length_append, hsz]; omega)]
    have e1 : (s.data.toList ++ r).take (s.size : Int).toNat = s.data.toList := by
      rw [show (s.size : Int).toNat = s.data.toList.length by rw [hsz]; rfl]; simp
    have e2 : (s.data.toList ++ r).drop (s.size : Int).toNat = r := by
      rw [show (s.size : Int).toNat = s.data.toList.length by rw [hsz]; rfl]; simp
    rw [e1, e2]
  · simp only [nameD] at h
    split at h
    case h_2 => cases h
    rename_i n r1 e
    split at h
    case isFalse => cases h
    rename_i hn
    split at h
    case h_2 => cases h
    rename_i b r2 e2
    injection h with h
    injection h with h1 h2
    subst h1 h2
    obtain ⟨q1, q2⟩ := one_rd e
    unfold takeD at e2
    split at e2
    case isFalse => cases e2
    rename_i hb
    injection e2 with e2
    injection e2 with h1 h2
    have hlen : b.length = n.toNat := by rw [← h1, List.length_take]; omega
    have hsz : (ByteArray.mk b.toArray).size = n.toNat := by rw [← hlen]; simp [ByteArray.size]
    have hsn : ((ByteArray.mk b.toArray).size : Int) = n := by rw [hsz]; omega
    have c1 : (chkE (decide ((ByteArray.mk b.toArray).size ≤ 200))).2 = true := decide_eq_true (by omega)
    unfold nameE
    rw [hsn]
    refine ⟨andE_t.2 ⟨c1, andE_t.2 ⟨q1, rfl⟩⟩, ?_⟩
    rw [andE_1 c1, andE_1 q1, q2, ← h1, ← h2]
    simp [chkE]
theorem rep_wr {α : Type} {d : Dec α} {e : α → Enc} (h : RT d e) : ∀ (l : List α) (r : List UInt8), (eachE e l).2 = true → repD d l.length ((eachE e l).1 ++ r) = some (l, r)
  | [], r, _ => rfl
  | x :: l, r, hk => by
    have h1 := andE_t.1 hk
    have e1 : (eachE e (x :: l)).1 = (e x).1 ++ (eachE e l).1 := andE_1 h1.1
    rw [e1, List.append_assoc]
    simp only [List.length_cons, repD, h.wr x _ h1.1, rep_wr h l r h1.2]
theorem rep_rd {α : Type} {d : Dec α} {e : α → Enc} (h : RT d e) : ∀ (n : Nat) (l : List UInt8) (xs : List α) (r : List UInt8), repD d n l = some (xs, r) → (eachE e xs).2 = true ∧ l = (eachE e xs).1 ++ r ∧ xs.length = n
  | 0, l, xs, r, hk => by
    injection hk with hk
    injection hk with h1 h2
    subst h1 h2
    exact ⟨rfl, rfl, rfl⟩
  | n + 1, l, xs, r, hk => by
    simp only [repD] at hk
    split at hk
    case h_2 => cases hk
    rename_i x r1 e1
    split at hk
    case h_2 => cases hk
    rename_i ys r2 e2
    injection hk with hk
    injection hk with h1 h2
    subst h1 h2
    obtain ⟨q1, q2⟩ := h.rd l x r1 e1
    obtain ⟨p1, p2, p3⟩ := rep_rd h n r1 ys r2 e2
    refine ⟨andE_t.2 ⟨q1, p1⟩, ?_, by simp [p3]⟩
    show l = (andE (e x) (eachE e ys)).1 ++ r2
    rw [andE_1 q1, q2, p2]
    simp
theorem list_rt {α : Type} {d : Dec α} {e : α → Enc} (h : RT d e) : RT (listD d) (listE e) := by
  refine ⟨fun l r hk => ?_, fun bs l r hk => ?_⟩
  · have h1 := andE_t.1 hk
    have h2 := andE_t.1 h1.2
    have hl : l.length ≤ 400 := of_decide_eq_true h1.1
    have e1 : (listE e l).1 = (numsE [(l.length : Int)]).1 ++ (eachE e l).1 := by rw [listE, andE_1 h1.1, andE_1 h2.1]; rfl
    rw [e1, List.append_assoc]
    simp only [listD, one_rt h2.1]
    rw [if_pos (by omega)]
    exact rep_wr h l r h2.2
  · simp only [listD] at hk
    split at hk
    case h_2 => cases hk
    rename_i n r1 e1
    split at hk
    case isFalse => cases hk
    rename_i hn
    obtain ⟨q1, q2⟩ := one_rd e1
    obtain ⟨p1, p2, p3⟩ := rep_rd h _ _ _ _ hk
    have hln : (l.length : Int) = n := by omega
    have c1 : (chkE (decide (l.length ≤ 400))).2 = true := decide_eq_true (by omega)
    unfold listE
    rw [hln]
    refine ⟨andE_t.2 ⟨c1, andE_t.2 ⟨q1, p1⟩⟩, ?_⟩
    rw [andE_1 c1, andE_1 q1, q2, p2]
    simp [chkE]
theorem int_rt : RT numD (fun n => numsE [n]) := ⟨fun n r h => one_rt h, fun l n r h => one_rd h⟩
theorem ints_rt : RT (listD numD) intsE := list_rt int_rt
theorem pre_ok {a : Enc} : andE a okE = a := by
  obtain ⟨p, x⟩ := a
  cases x <;> simp [andE, okE]
theorem typ_rt : ∀ d : Nat, RT (typD d) (typE d)
  | 0 => ⟨fun x r h => (by cases h), fun l x r h => (by cases h)⟩
  | d + 1 => by
    have ih := list_rt (typ_rt d)
    refine ⟨fun x r h => ?_, fun l x r h => ?_⟩
    · have h1 := andE_t.1 h
      have h2 := andE_t.1 h1.1
      have h3 := (andE_t.1 h2.2).1
      have e1 : (typE (d + 1) x).1 = (numE x.kind).1 ++ ((numE x.id).1 ++ (listE (typE d) x.args).1) := by
        show (andE (andE (numE x.kind) (andE (numE x.id) okE)) _).1 = _
        rw [pre_ok, andE_assoc, andE_1 h2.1, andE_1 h3]
      rw [e1]
      simp only [List.append_assoc]
      cases x
      exact (andD_some (num_rt.wr _ _ h2.1)).trans <| (andD_some (num_rt.wr _ _ h3)).trans <| (andD_some (ih.wr _ _ h1.2)).trans rfl
    · obtain ⟨k, r1, e1, h⟩ := andD_inv h
      obtain ⟨i, r2, e2, h⟩ := andD_inv h
      obtain ⟨a, r3, e3, h⟩ := andD_inv h
      injection h with h
      injection h with h1 h2
      subst h1 h2
      obtain ⟨p1, rfl⟩ := num_rt.rd _ _ _ e1
      obtain ⟨p2, rfl⟩ := num_rt.rd _ _ _ e2
      obtain ⟨p3, rfl⟩ := ih.rd _ _ _ e3
      have : typE (d + 1) (.mk k i a) = andE (numE k) (andE (numE i) (listE (typE d) a)) := by
        show andE (andE (numE k) (andE (numE i) okE)) _ = _
        rw [pre_ok, andE_assoc]; rfl
      rw [this]
      refine ⟨andE_t.2 ⟨p1, andE_t.2 ⟨p2, p3⟩⟩, ?_⟩
      rw [andE_1 p1, andE_1 p2]
      simp
theorem full_rt : RT fullD fullE := typ_rt 8
theorem types_rt : RT (listD fullD) typesE := list_rt full_rt
theorem var_rt : RT varD varE := by
  have hf : ∀ x, varE x = andE (nameE x.name) (typesE x.fields) := fun x => by
    simp only [varE, eachE, andE_assoc, pre_ok]
  refine ⟨fun x r h => ?_, fun l x r h => ?_⟩
  · rw [hf] at h ⊢
    have p0 := (andE_t.1 h).1
    have q0 := (andE_t.1 h).2
    rw [andE_1 p0]
    simp only [List.append_assoc]
    exact (andD_some (name_rt.wr _ _ p0)).trans <| (andD_some (types_rt.wr _ _ q0)).trans <| rfl
  · obtain ⟨s, r0, e0, h⟩ := andD_inv h
    obtain ⟨f, r1, e1, h⟩ := andD_inv h
    injection h with h
    injection h with h1 h2
    subst h1 h2
    obtain ⟨p0, rfl⟩ := name_rt.rd _ _ _ e0
    obtain ⟨p1, rfl⟩ := types_rt.rd _ _ _ e1
    rw [hf]
    refine ⟨andE_t.2 ⟨p0, p1⟩, ?_⟩
    rw [andE_1 p0]
    simp
theorem vars_rt : RT (listD varD) (listE varE) := list_rt var_rt
theorem data_rt : RT dataD dataE := by
  have hf : ∀ x, dataE x = andE (nameE x.name) (andE (numE x.module) (andE (numE x.params) (andE (numE x.drop) (listE varE x.variants)))) := fun x => by
    simp only [dataE, eachE, andE_assoc, pre_ok]
  refine ⟨fun x r h => ?_, fun l x r h => ?_⟩
  · rw [hf] at h ⊢
    have p0 := (andE_t.1 h).1
    have q0 := (andE_t.1 h).2
    have p1 := (andE_t.1 q0).1
    have q1 := (andE_t.1 q0).2
    have p2 := (andE_t.1 q1).1
    have q2 := (andE_t.1 q1).2
    have p3 := (andE_t.1 q2).1
    have q3 := (andE_t.1 q2).2
    rw [andE_1 p0, andE_1 p1, andE_1 p2, andE_1 p3]
    simp only [List.append_assoc]
    exact (andD_some (name_rt.wr _ _ p0)).trans <| (andD_some (num_rt.wr _ _ p1)).trans <| (andD_some (num_rt.wr _ _ p2)).trans <| (andD_some (num_rt.wr _ _ p3)).trans <| (andD_some (vars_rt.wr _ _ q3)).trans <| rfl
  · obtain ⟨s, r0, e0, h⟩ := andD_inv h
    obtain ⟨m, r1, e1, h⟩ := andD_inv h
    obtain ⟨p, r2, e2, h⟩ := andD_inv h
    obtain ⟨d, r3, e3, h⟩ := andD_inv h
    obtain ⟨v, r4, e4, h⟩ := andD_inv h
    injection h with h
    injection h with h1 h2
    subst h1 h2
    obtain ⟨p0, rfl⟩ := name_rt.rd _ _ _ e0
    obtain ⟨p1, rfl⟩ := num_rt.rd _ _ _ e1
    obtain ⟨p2, rfl⟩ := num_rt.rd _ _ _ e2
    obtain ⟨p3, rfl⟩ := num_rt.rd _ _ _ e3
    obtain ⟨p4, rfl⟩ := vars_rt.rd _ _ _ e4
    rw [hf]
    refine ⟨andE_t.2 ⟨p0, andE_t.2 ⟨p1, andE_t.2 ⟨p2, andE_t.2 ⟨p3, p4⟩⟩⟩⟩, ?_⟩
    rw [andE_1 p0, andE_1 p1, andE_1 p2, andE_1 p3]
    simp
theorem ins_rt : RT insD insE := by
  have hf : ∀ x, insE x = andE (numE x.op) (andE (numE x.dst) (andE (numE x.a) (andE (numE x.b) (andE (numE x.n) (andE (intsE x.args) (typesE x.types)))))) := fun x => by
    simp only [insE, eachE, andE_assoc, pre_ok]
  refine ⟨fun x r h => ?_, fun l x r h => ?_⟩
  · rw [hf] at h ⊢
    have p0 := (andE_t.1 h).1
    have q0 := (andE_t.1 h).2
    have p1 := (andE_t.1 q0).1
    have q1 := (andE_t.1 q0).2
    have p2 := (andE_t.1 q1).1
    have q2 := (andE_t.1 q1).2
    have p3 := (andE_t.1 q2).1
    have q3 := (andE_t.1 q2).2
    have p4 := (andE_t.1 q3).1
    have q4 := (andE_t.1 q3).2
    have p5 := (andE_t.1 q4).1
    have q5 := (andE_t.1 q4).2
    rw [andE_1 p0, andE_1 p1, andE_1 p2, andE_1 p3, andE_1 p4, andE_1 p5]
    simp only [List.append_assoc]
    exact (andD_some (num_rt.wr _ _ p0)).trans <| (andD_some (num_rt.wr _ _ p1)).trans <| (andD_some (num_rt.wr _ _ p2)).trans <| (andD_some (num_rt.wr _ _ p3)).trans <| (andD_some (num_rt.wr _ _ p4)).trans <| (andD_some (ints_rt.wr _ _ p5)).trans <| (andD_some (types_rt.wr _ _ q5)).trans <| rfl
  · obtain ⟨o, r0, e0, h⟩ := andD_inv h
    obtain ⟨d, r1, e1, h⟩ := andD_inv h
    obtain ⟨a, r2, e2, h⟩ := andD_inv h
    obtain ⟨b, r3, e3, h⟩ := andD_inv h
    obtain ⟨n, r4, e4, h⟩ := andD_inv h
    obtain ⟨x, r5, e5, h⟩ := andD_inv h
    obtain ⟨t, r6, e6, h⟩ := andD_inv h
    injection h with h
    injection h with h1 h2
    subst h1 h2
    obtain ⟨p0, rfl⟩ := num_rt.rd _ _ _ e0
    obtain ⟨p1, rfl⟩ := num_rt.rd _ _ _ e1
    obtain ⟨p2, rfl⟩ := num_rt.rd _ _ _ e2
    obtain ⟨p3, rfl⟩ := num_rt.rd _ _ _ e3
    obtain ⟨p4, rfl⟩ := num_rt.rd _ _ _ e4
    obtain ⟨p5, rfl⟩ := ints_rt.rd _ _ _ e5
    obtain ⟨p6, rfl⟩ := types_rt.rd _ _ _ e6
    rw [hf]
    refine ⟨andE_t.2 ⟨p0, andE_t.2 ⟨p1, andE_t.2 ⟨p2, andE_t.2 ⟨p3, andE_t.2 ⟨p4, andE_t.2 ⟨p5, p6⟩⟩⟩⟩⟩⟩, ?_⟩
    rw [andE_1 p0, andE_1 p1, andE_1 p2, andE_1 p3, andE_1 p4, andE_1 p5]
    simp
theorem inss_rt : RT (listD insD) (listE insE) := list_rt ins_rt
theorem block_rt : RT blockD blockE := by
  have hf : ∀ x, blockE x = andE (listE insE x.code) (andE (numE x.fin.kind) (andE (numE x.fin.a) (intsE x.fin.targets))) := fun x => by
    simp only [blockE, eachE, andE_assoc, pre_ok]
  refine ⟨fun x r h => ?_, fun l x r h => ?_⟩
  · rw [hf] at h ⊢
    have p0 := (andE_t.1 h).1
    have q0 := (andE_t.1 h).2
    have p1 := (andE_t.1 q0).1
    have q1 := (andE_t.1 q0).2
    have p2 := (andE_t.1 q1).1
    have q2 := (andE_t.1 q1).2
    rw [andE_1 p0, andE_1 p1, andE_1 p2]
    simp only [List.append_assoc]
    exact (andD_some (inss_rt.wr _ _ p0)).trans <| (andD_some (num_rt.wr _ _ p1)).trans <| (andD_some (num_rt.wr _ _ p2)).trans <| (andD_some (ints_rt.wr _ _ q2)).trans <| rfl
  · obtain ⟨c, r0, e0, h⟩ := andD_inv h
    obtain ⟨k, r1, e1, h⟩ := andD_inv h
    obtain ⟨a, r2, e2, h⟩ := andD_inv h
    obtain ⟨t, r3, e3, h⟩ := andD_inv h
    injection h with h
    injection h with h1 h2
    subst h1 h2
    obtain ⟨p0, rfl⟩ := inss_rt.rd _ _ _ e0
    obtain ⟨p1, rfl⟩ := num_rt.rd _ _ _ e1
    obtain ⟨p2, rfl⟩ := num_rt.rd _ _ _ e2
    obtain ⟨p3, rfl⟩ := ints_rt.rd _ _ _ e3
    rw [hf]
    refine ⟨andE_t.2 ⟨p0, andE_t.2 ⟨p1, andE_t.2 ⟨p2, p3⟩⟩⟩, ?_⟩
    rw [andE_1 p0, andE_1 p1, andE_1 p2]
    simp
theorem lent_rt : RT lentD lentE := by
  have hf : ∀ x, lentE x = andE (numE x.slot) (andE (numE (bitI x.excl)) (numE (bitI x.re))) := fun x => by
    simp only [lentE, eachE, andE_assoc, pre_ok]
  refine ⟨fun x r h => ?_, fun l x r h => ?_⟩
  · rw [hf] at h ⊢
    have p0 := (andE_t.1 h).1
    have q0 := (andE_t.1 h).2
    have p1 := (andE_t.1 q0).1
    have q1 := (andE_t.1 q0).2
    rw [andE_1 p0, andE_1 p1]
    simp only [List.append_assoc]
    exact (andD_some (num_rt.wr _ _ p0)).trans <| (andD_some (bit_rt.wr _ _ p1)).trans <| (andD_some (bit_rt.wr _ _ q1)).trans <| rfl
  · obtain ⟨s, r0, e0, h⟩ := andD_inv h
    obtain ⟨e, r1, e1, h⟩ := andD_inv h
    obtain ⟨q, r2, e2, h⟩ := andD_inv h
    injection h with h
    injection h with h1 h2
    subst h1 h2
    obtain ⟨p0, rfl⟩ := num_rt.rd _ _ _ e0
    obtain ⟨p1, rfl⟩ := bit_rt.rd _ _ _ e1
    obtain ⟨p2, rfl⟩ := bit_rt.rd _ _ _ e2
    rw [hf]
    refine ⟨andE_t.2 ⟨p0, andE_t.2 ⟨p1, p2⟩⟩, ?_⟩
    rw [andE_1 p0, andE_1 p1]
    simp
theorem lents_rt : RT (listD lentD) (listE lentE) := list_rt lent_rt
theorem slot_rt : RT slotD slotE := by
  have hf : ∀ x, slotE x = andE (numE x.state) (andE (fullE x.type) (andE (numE x.var) (andE (numE x.flag) (listE lentE x.lent)))) := fun x => by
    simp only [slotE, eachE, andE_assoc, pre_ok]
  refine ⟨fun x r h => ?_, fun l x r h => ?_⟩
  · rw [hf] at h ⊢
    have p0 := (andE_t.1 h).1
    have q0 := (andE_t.1 h).2
    have p1 := (andE_t.1 q0).1
    have q1 := (andE_t.1 q0).2
    have p2 := (andE_t.1 q1).1
    have q2 := (andE_t.1 q1).2
    have p3 := (andE_t.1 q2).1
    have q3 := (andE_t.1 q2).2
    rw [andE_1 p0, andE_1 p1, andE_1 p2, andE_1 p3]
    simp only [List.append_assoc]
    exact (andD_some (num_rt.wr _ _ p0)).trans <| (andD_some (full_rt.wr _ _ p1)).trans <| (andD_some (num_rt.wr _ _ p2)).trans <| (andD_some (num_rt.wr _ _ p3)).trans <| (andD_some (lents_rt.wr _ _ q3)).trans <| rfl
  · obtain ⟨s, r0, e0, h⟩ := andD_inv h
    obtain ⟨t, r1, e1, h⟩ := andD_inv h
    obtain ⟨v, r2, e2, h⟩ := andD_inv h
    obtain ⟨f, r3, e3, h⟩ := andD_inv h
    obtain ⟨q, r4, e4, h⟩ := andD_inv h
    injection h with h
    injection h with h1 h2
    subst h1 h2
    obtain ⟨p0, rfl⟩ := num_rt.rd _ _ _ e0
    obtain ⟨p1, rfl⟩ := full_rt.rd _ _ _ e1
    obtain ⟨p2, rfl⟩ := num_rt.rd _ _ _ e2
    obtain ⟨p3, rfl⟩ := num_rt.rd _ _ _ e3
    obtain ⟨p4, rfl⟩ := lents_rt.rd _ _ _ e4
    rw [hf]
    refine ⟨andE_t.2 ⟨p0, andE_t.2 ⟨p1, andE_t.2 ⟨p2, andE_t.2 ⟨p3, p4⟩⟩⟩⟩, ?_⟩
    rw [andE_1 p0, andE_1 p1, andE_1 p2, andE_1 p3]
    simp
theorem slots_rt : RT slotsD slotsE := list_rt slot_rt
theorem blocks_rt : RT (listD blockD) (listE blockE) := list_rt block_rt
theorem entry_rt : RT (listD slotsD) (listE slotsE) := list_rt slots_rt
theorem rout_rt : RT routD routE := by
  have hf : ∀ x, routE x = andE (nameE x.name) (andE (typesE x.params) (andE (fullE x.result) (andE (intsE x.ties) (andE (numE x.slots) (andE (listE blockE x.blocks) (listE slotsE x.entry)))))) := fun x => by
    simp only [routE, eachE, andE_assoc, pre_ok]
  refine ⟨fun x r h => ?_, fun l x r h => ?_⟩
  · rw [hf] at h ⊢
    have p0 := (andE_t.1 h).1
    have q0 := (andE_t.1 h).2
    have p1 := (andE_t.1 q0).1
    have q1 := (andE_t.1 q0).2
    have p2 := (andE_t.1 q1).1
    have q2 := (andE_t.1 q1).2
    have p3 := (andE_t.1 q2).1
    have q3 := (andE_t.1 q2).2
    have p4 := (andE_t.1 q3).1
    have q4 := (andE_t.1 q3).2
    have p5 := (andE_t.1 q4).1
    have q5 := (andE_t.1 q4).2
    rw [andE_1 p0, andE_1 p1, andE_1 p2, andE_1 p3, andE_1 p4, andE_1 p5]
    simp only [List.append_assoc]
    exact (andD_some (name_rt.wr _ _ p0)).trans <| (andD_some (types_rt.wr _ _ p1)).trans <| (andD_some (full_rt.wr _ _ p2)).trans <| (andD_some (ints_rt.wr _ _ p3)).trans <| (andD_some (num_rt.wr _ _ p4)).trans <| (andD_some (blocks_rt.wr _ _ p5)).trans <| (andD_some (entry_rt.wr _ _ q5)).trans <| rfl
  · obtain ⟨s, r0, e0, h⟩ := andD_inv h
    obtain ⟨p, r1, e1, h⟩ := andD_inv h
    obtain ⟨q, r2, e2, h⟩ := andD_inv h
    obtain ⟨t, r3, e3, h⟩ := andD_inv h
    obtain ⟨n, r4, e4, h⟩ := andD_inv h
    obtain ⟨b, r5, e5, h⟩ := andD_inv h
    obtain ⟨y, r6, e6, h⟩ := andD_inv h
    injection h with h
    injection h with h1 h2
    subst h1 h2
    obtain ⟨p0, rfl⟩ := name_rt.rd _ _ _ e0
    obtain ⟨p1, rfl⟩ := types_rt.rd _ _ _ e1
    obtain ⟨p2, rfl⟩ := full_rt.rd _ _ _ e2
    obtain ⟨p3, rfl⟩ := ints_rt.rd _ _ _ e3
    obtain ⟨p4, rfl⟩ := num_rt.rd _ _ _ e4
    obtain ⟨p5, rfl⟩ := blocks_rt.rd _ _ _ e5
    obtain ⟨p6, rfl⟩ := entry_rt.rd _ _ _ e6
    rw [hf]
    refine ⟨andE_t.2 ⟨p0, andE_t.2 ⟨p1, andE_t.2 ⟨p2, andE_t.2 ⟨p3, andE_t.2 ⟨p4, andE_t.2 ⟨p5, p6⟩⟩⟩⟩⟩⟩, ?_⟩
    rw [andE_1 p0, andE_1 p1, andE_1 p2, andE_1 p3, andE_1 p4, andE_1 p5]
    simp
theorem datas_rt : RT (listD dataD) (listE dataE) := list_rt data_rt
theorem routs_rt : RT (listD routD) (listE routE) := list_rt rout_rt
theorem img_rt : RT imgD imgE := by
  have hf : ∀ x, imgE x = andE (listE dataE x.datas) (andE (listE routE x.routs) (numE x.main)) := fun x => by
    simp only [imgE, eachE, andE_assoc, pre_ok]
  refine ⟨fun x r h => ?_, fun l x r h => ?_⟩
  · rw [hf] at h ⊢
    have p0 := (andE_t.1 h).1
    have q0 := (andE_t.1 h).2
    have p1 := (andE_t.1 q0).1
    have q1 := (andE_t.1 q0).2
    rw [andE_1 p0, andE_1 p1]
    simp only [List.append_assoc]
    exact (andD_some (datas_rt.wr _ _ p0)).trans <| (andD_some (routs_rt.wr _ _ p1)).trans <| (andD_some (num_rt.wr _ _ q1)).trans <| rfl
  · obtain ⟨d, r0, e0, h⟩ := andD_inv h
    obtain ⟨q, r1, e1, h⟩ := andD_inv h
    obtain ⟨m, r2, e2, h⟩ := andD_inv h
    injection h with h
    injection h with h1 h2
    subst h1 h2
    obtain ⟨p0, rfl⟩ := datas_rt.rd _ _ _ e0
    obtain ⟨p1, rfl⟩ := routs_rt.rd _ _ _ e1
    obtain ⟨p2, rfl⟩ := num_rt.rd _ _ _ e2
    rw [hf]
    refine ⟨andE_t.2 ⟨p0, andE_t.2 ⟨p1, p2⟩⟩, ?_⟩
    rw [andE_1 p0, andE_1 p1]
    simp
end Go.Fr.Tryz

set_option linter.unusedVariables false
set_option linter.unusedSimpArgs false
namespace Go.Fr.Tryz
open Go Go.RowKit Go.Proofs Go.Fr Go.Fr.T Go.Fr.Api

set_option maxRecDepth 10000 in
theorem t28 (g : Nat) (hc : ∀ bs, RdOk 29 [adr g 0] (pin g 61) bs (dataD bs) (fun x => .agg (dataC x))) (bs : List UInt8) : RdOk 28 [adr g 0, .fn 29 [adr g 0] []] (pin g 61) bs (listD dataD bs) (fun l => .sl (l.map dataC)) := by
  refine callsTX_facts Tryz.func28 facts28 rfl fun hw ho => ?_
  refine rdN (t32 g bs) rfl rfl (fun h => ⟨rfl, by simp only [listD, h]⟩) fun n r e _ => ?_
  refine brn_p (fun h0 => ?_) (fun h0 => ?_)
  · refine chk (t33 (decide (n ≤ 400))) rfl (fun h => ⟨rfl, ?_⟩) fun h => ?_
    · have h := of_decide_eq_false h
      simp only [listD, e]
      rw [if_neg (fun q => h q.2)]
    have h := of_decide_eq_true h
    have hl : listD dataD bs = repO [] (repD dataD n.toNat r) := by
      simp only [listD, e]
      rw [if_pos ⟨h0, h⟩, repO_nil]
    refine loopN n.toNat 17 [6] (([], r) : List (Api.Data) × List UInt8) (fun _ => [.rw 23]) (fun s => RdR 23 44 5 dataC g s) (fun k s => s.1.length = k ∧ repO s.1 (repD dataD (n.toNat - k) s.2) = listD dataD bs) ⟨rfl, hl.symm⟩ (same_keys rfl) ⟨nil_rw rfl rfl, trivial⟩
      ⟨.inr ⟨rfl, 44, 5, rfl⟩, .inl ⟨_, rfl, .inl ⟨rfl, rfl⟩⟩, trivial⟩ (fun _ => rfl) (fun _ => rfl) ?_
    rintro k ⟨a, l⟩ hk ⟨hak, hinv⟩ _ _ _
    refine brn_p (fun hlt => ?_) (fun hge => ?_)
    · have hlt : k < n.toNat := by omega
      have h6 : n.toNat - k = (n.toNat - (k + 1)) + 1 := by omega
      refine rdN (hc l) rfl rfl (fun h => ⟨rfl, ?_⟩) fun x r2 e2 _ => ?_
      · rw [← hinv, h6, repO_none h]
      refine app1r k rfl (by simpa using hak) (by omega) (by omega) ?_
      refine Fit.in64 (by omega) (by omega) ?_
      refine ⟨(k + 1, (a ++ [x], r2)), ⟨by omega, by simp [hak], ?_⟩, ⟨nextI, ⟨same_keys rfl, trivial⟩⟩, ⟨.inl ⟨_, rfl, .inl ⟨?_, rfl⟩⟩, .inl ⟨_, rfl, .inl ⟨rfl, rfl⟩⟩, trivial⟩, nextM hlt⟩
      · rw [← hinv, h6, repO_step e2]
      · exact congrArg (TO.row 44 5) (List.map_append (f := dataC) (l₁ := a) (l₂ := [x])).symm
    · have : n.toNat - k = 0 := by omega
      rw [this] at hinv
      refine retRF [23] [1000] ⟨_, _, rfl, rfl, rfl, ?_⟩
      exact ⟨a, l, by rw [← hinv]; simp [repD, repO], rfl, rfl⟩
  · refine chk (t33 false) rfl (fun h => ⟨rfl, ?_⟩) fun h => by cases h
    simp only [listD, e]
    rw [if_neg (fun q => h0 q.1)]

set_option maxRecDepth 10000 in
theorem t30 (g : Nat) (hc : ∀ bs, RdOk 31 [adr g 0] (pin g 61) bs (routD bs) (fun x => .agg (routC x))) (bs : List UInt8) : RdOk 30 [adr g 0, .fn 31 [adr g 0] []] (pin g 61) bs (listD routD bs) (fun l => .sl (l.map routC)) := by
  refine callsTX_facts Tryz.func30 facts30 rfl fun hw ho => ?_
  refine rdN (t32 g bs) rfl rfl (fun h => ⟨rfl, by simp only [listD, h]⟩) fun n r e _ => ?_
  refine brn_p (fun h0 => ?_) (fun h0 => ?_)
  · refine chk (t33 (decide (n ≤ 400))) rfl (fun h => ⟨rfl, ?_⟩) fun h => ?_
    · have h := of_decide_eq_false h
      simp only [listD, e]
      rw [if_neg (fun q => h q.2)]
    have h := of_decide_eq_true h
    have hl : listD routD bs = repO [] (repD routD n.toNat r) := by
      simp only [listD, e]
      rw [if_pos ⟨h0, h⟩, repO_nil]
    refine loopN n.toNat 17 [6] (([], r) : List (Rout) × List UInt8) (fun _ => [.rw 23]) (fun s => RdR 23 56 9 routC g s) (fun k s => s.1.length = k ∧ repO s.1 (repD routD (n.toNat - k) s.2) = listD routD bs) ⟨rfl, hl.symm⟩ (same_keys rfl) ⟨nil_rw rfl rfl, trivial⟩
      ⟨.inr ⟨rfl, 56, 9, rfl⟩, .inl ⟨_, rfl, .inl ⟨rfl, rfl⟩⟩, trivial⟩ (fun _ => rfl) (fun _ => rfl) ?_
    rintro k ⟨a, l⟩ hk ⟨hak, hinv⟩ _ _ _
    refine brn_p (fun hlt => ?_) (fun hge => ?_)
    · have hlt : k < n.toNat := by omega
      have h6 : n.toNat - k = (n.toNat - (k + 1)) + 1 := by omega
      refine rdN (hc l) rfl rfl (fun h => ⟨rfl, ?_⟩) fun x r2 e2 _ => ?_
      · rw [← hinv, h6, repO_none h]
      refine app1r k rfl (by simpa using hak) (by omega) (by omega) ?_
      refine Fit.in64 (by omega) (by omega) ?_
      refine ⟨(k + 1, (a ++ [x], r2)), ⟨by omega, by simp [hak], ?_⟩, ⟨nextI, ⟨same_keys rfl, trivial⟩⟩, ⟨.inl ⟨_, rfl, .inl ⟨?_, rfl⟩⟩, .inl ⟨_, rfl, .inl ⟨rfl, rfl⟩⟩, trivial⟩, nextM hlt⟩
      · rw [← hinv, h6, repO_step e2]
      · exact congrArg (TO.row 56 9) (List.map_append (f := routC) (l₁ := a) (l₂ := [x])).symm
    · have : n.toNat - k = 0 := by omega
      rw [this] at hinv
      refine retRF [23] [1000] ⟨_, _, rfl, rfl, rfl, ?_⟩
      exact ⟨a, l, by rw [← hinv]; simp [repD, repO], rfl, rfl⟩
  · refine chk (t33 false) rfl (fun h => ⟨rfl, ?_⟩) fun h => by cases h
    simp only [listD, e]
    rw [if_neg (fun q => h0 q.1)]

set_option maxRecDepth 10000 in
theorem t63 (g : Nat) (hc : ∀ bs, RdOk 64 [.pt [adr g 0] 0] (pin g 61) bs (varD bs) (fun x => .agg (variantC x))) (bs : List UInt8) : RdOk 63 [adr g 0, .fn 64 [] [.pt [adr g 0] 0]] (pin g 61) bs (listD varD bs) (fun l => .sl (l.map variantC)) := by
  refine callsTX_facts Tryz.func63 facts63 rfl fun hw ho => ?_
  refine rdN (t32 g bs) rfl rfl (fun h => ⟨rfl, by simp only [listD, h]⟩) fun n r e _ => ?_
  refine brn_p (fun h0 => ?_) (fun h0 => ?_)
  · refine chk (t33 (decide (n ≤ 400))) rfl (fun h => ⟨rfl, ?_⟩) fun h => ?_
    · have h := of_decide_eq_false h
      simp only [listD, e]
      rw [if_neg (fun q => h q.2)]
    have h := of_decide_eq_true h
    have hl : listD varD bs = repO [] (repD varD n.toNat r) := by
      simp only [listD, e]
      rw [if_pos ⟨h0, h⟩, repO_nil]
    refine loopN n.toNat 17 [6] (([], r) : List (Variant) × List UInt8) (fun _ => [.rw 23]) (fun s => RdR 23 48 2 variantC g s) (fun k s => s.1.length = k ∧ repO s.1 (repD varD (n.toNat - k) s.2) = listD varD bs) ⟨rfl, hl.symm⟩ (same_keys rfl) ⟨nil_rw rfl rfl, trivial⟩
      ⟨.inr ⟨rfl, 48, 2, rfl⟩, .inl ⟨_, rfl, .inl ⟨rfl, rfl⟩⟩, trivial⟩ (fun _ => rfl) (fun _ => rfl) ?_
    rintro k ⟨a, l⟩ hk ⟨hak, hinv⟩ _ _ _
    refine brn_p (fun hlt => ?_) (fun hge => ?_)
    · have hlt : k < n.toNat := by omega
      have h6 : n.toNat - k = (n.toNat - (k + 1)) + 1 := by omega
      refine rdN (hc l) rfl rfl (fun h => ⟨rfl, ?_⟩) fun x r2 e2 _ => ?_
      · rw [← hinv, h6, repO_none h]
      refine app1r k rfl (by simpa using hak) (by omega) (by omega) ?_
      refine Fit.in64 (by omega) (by omega) ?_
      refine ⟨(k + 1, (a ++ [x], r2)), ⟨by omega, by simp [hak], ?_⟩, ⟨nextI, ⟨same_keys rfl, trivial⟩⟩, ⟨.inl ⟨_, rfl, .inl ⟨?_, rfl⟩⟩, .inl ⟨_, rfl, .inl ⟨rfl, rfl⟩⟩, trivial⟩, nextM hlt⟩
      · rw [← hinv, h6, repO_step e2]
      · exact congrArg (TO.row 48 2) (List.map_append (f := variantC) (l₁ := a) (l₂ := [x])).symm
    · have : n.toNat - k = 0 := by omega
      rw [this] at hinv
      refine retRF [23] [1000] ⟨_, _, rfl, rfl, rfl, ?_⟩
      exact ⟨a, l, by rw [← hinv]; simp [repD, repO], rfl, rfl⟩
  · refine chk (t33 false) rfl (fun h => ⟨rfl, ?_⟩) fun h => by cases h
    simp only [listD, e]
    rw [if_neg (fun q => h0 q.1)]

set_option maxRecDepth 10000 in
theorem t65 (g : Nat) (hc : ∀ bs, RdOk 66 [adr g 0] (pin g 61) bs (fullD bs) tyA) (bs : List UInt8) : RdOk 65 [adr g 0, .fn 66 [adr g 0] []] (pin g 61) bs (listD fullD bs) (fun l => .sl (l.map tyC)) := by
  refine callsTX_facts Tryz.func65 facts65 rfl fun hw ho => ?_
  refine rdN (t32 g bs) rfl rfl (fun h => ⟨rfl, by simp only [listD, h]⟩) fun n r e _ => ?_
  refine brn_p (fun h0 => ?_) (fun h0 => ?_)
  · refine chk (t33 (decide (n ≤ 400))) rfl (fun h => ⟨rfl, ?_⟩) fun h => ?_
    · have h := of_decide_eq_false h
      simp only [listD, e]
      rw [if_neg (fun q => h q.2)]
    have h := of_decide_eq_true h
    have hl : listD fullD bs = repO [] (repD fullD n.toNat r) := by
      simp only [listD, e]
      rw [if_pos ⟨h0, h⟩, repO_nil]
    refine loopN n.toNat 17 [6] (([], r) : List (Ty) × List UInt8) (fun _ => [.rw 23]) (fun s => RdR 23 51 3 (fun t => [IC t.kind, IC t.id, .sl (t.args.map tyC)]) g s) (fun k s => s.1.length = k ∧ repO s.1 (repD fullD (n.toNat - k) s.2) = listD fullD bs) ⟨rfl, hl.symm⟩ (same_keys rfl) ⟨nil_rw rfl rfl, trivial⟩
      ⟨.inr ⟨rfl, 51, 3, rfl⟩, .inl ⟨_, rfl, .inl ⟨rfl, rfl⟩⟩, trivial⟩ (fun _ => rfl) (fun _ => rfl) ?_
    rintro k ⟨a, l⟩ hk ⟨hak, hinv⟩ _ _ _
    refine brn_p (fun hlt => ?_) (fun hge => ?_)
    · have hlt : k < n.toNat := by omega
      have h6 : n.toNat - k = (n.toNat - (k + 1)) + 1 := by omega
      refine rdN (hc l) rfl rfl (fun h => ⟨rfl, ?_⟩) fun x r2 e2 _ => ?_
      · rw [← hinv, h6, repO_none h]
      refine app1r k rfl (by simpa using hak) (by omega) (by omega) ?_
      refine Fit.in64 (by omega) (by omega) ?_
      refine ⟨(k + 1, (a ++ [x], r2)), ⟨by omega, by simp [hak], ?_⟩, ⟨nextI, ⟨same_keys rfl, trivial⟩⟩, ⟨.inl ⟨_, rfl, .inl ⟨?_, rfl⟩⟩, .inl ⟨_, rfl, .inl ⟨rfl, rfl⟩⟩, trivial⟩, nextM hlt⟩
      · rw [← hinv, h6, repO_step e2]
      · exact congrArg (TO.row 51 3) (List.map_append (f := (fun t => [IC t.kind, IC t.id, .sl (t.args.map tyC)])) (l₁ := a) (l₂ := [x])).symm
    · have : n.toNat - k = 0 := by omega
      rw [this] at hinv
      refine retRF [23] [1000] ⟨_, _, rfl, rfl, rfl, ?_⟩
      exact ⟨a, l, by rw [← hinv]; simp [repD, repO], rfl, congrArg C.sl (List.map_congr_left fun t _ => (tyC_eq t).symm)⟩
  · refine chk (t33 false) rfl (fun h => ⟨rfl, ?_⟩) fun h => by cases h
    simp only [listD, e]
    rw [if_neg (fun q => h0 q.1)]

set_option maxRecDepth 10000 in
theorem t65d (g : Nat) (m : Int) {D : Dec Ty} (hc : ∀ bs, RdOk 149 [.pt [adr g 0] 0, .pt [IC m] 0] (pin g 61) bs (D bs) tyA) (bs : List UInt8) : RdOk 65 [adr g 0, .fn 149 [] [.pt [adr g 0] 0, .pt [IC m] 0]] (pin g 61) bs (listD D bs) (fun l => .sl (l.map tyC)) := by
  refine callsTX_facts Tryz.func65 facts65 rfl fun hw ho => ?_
  refine rdN (t32 g bs) rfl rfl (fun h => ⟨rfl, by simp only [listD, h]⟩) fun n r e _ => ?_
  refine brn_p (fun h0 => ?_) (fun h0 => ?_)
  · refine chk (t33 (decide (n ≤ 400))) rfl (fun h => ⟨rfl, ?_⟩) fun h => ?_
    · have h := of_decide_eq_false h
      simp only [listD, e]
      rw [if_neg (fun q => h q.2)]
    have h := of_decide_eq_true h
    have hl : listD D bs = repO [] (repD D n.toNat r) := by
      simp only [listD, e]
      rw [if_pos ⟨h0, h⟩, repO_nil]
    refine loopN n.toNat 17 [6] (([], r) : List (Ty) × List UInt8) (fun _ => [.rw 23]) (fun s => RdR 23 51 3 (fun t => [IC t.kind, IC t.id, .sl (t.args.map tyC)]) g s) (fun k s => s.1.length = k ∧ repO s.1 (repD D (n.toNat - k) s.2) = listD D bs) ⟨rfl, hl.symm⟩ (same_keys rfl) ⟨nil_rw rfl rfl, trivial⟩
      ⟨.inr ⟨rfl, 51, 3, rfl⟩, .inl ⟨_, rfl, .inl ⟨rfl, rfl⟩⟩, trivial⟩ (fun _ => rfl) (fun _ => rfl) ?_
    rintro k ⟨a, l⟩ hk ⟨hak, hinv⟩ _ _ _
    refine brn_p (fun hlt => ?_) (fun hge => ?_)
    · have hlt : k < n.toNat := by omega
      have h6 : n.toNat - k = (n.toNat - (k + 1)) + 1 := by omega
      refine rdN (hc l) rfl rfl (fun h => ⟨rfl, ?_⟩) fun x r2 e2 _ => ?_
      · rw [← hinv, h6, repO_none h]
      refine app1r k rfl (by simpa using hak) (by omega) (by omega) ?_
      refine Fit.in64 (by omega) (by omega) ?_
      refine ⟨(k + 1, (a ++ [x], r2)), ⟨by omega, by simp [hak], ?_⟩, ⟨nextI, ⟨same_keys rfl, trivial⟩⟩, ⟨.inl ⟨_, rfl, .inl ⟨?_, rfl⟩⟩, .inl ⟨_, rfl, .inl ⟨rfl, rfl⟩⟩, trivial⟩, nextM hlt⟩
      · rw [← hinv, h6, repO_step e2]
      · exact congrArg (TO.row 51 3) (List.map_append (f := (fun t => [IC t.kind, IC t.id, .sl (t.args.map tyC)])) (l₁ := a) (l₂ := [x])).symm
    · have : n.toNat - k = 0 := by omega
      rw [this] at hinv
      refine retRF [23] [1000] ⟨_, _, rfl, rfl, rfl, ?_⟩
      exact ⟨a, l, by rw [← hinv]; simp [repD, repO], rfl, congrArg C.sl (List.map_congr_left fun t _ => (tyC_eq t).symm)⟩
  · refine chk (t33 false) rfl (fun h => ⟨rfl, ?_⟩) fun h => by cases h
    simp only [listD, e]
    rw [if_neg (fun q => h0 q.1)]

set_option maxRecDepth 10000 in
theorem t68 (g : Nat) (hc : ∀ bs, RdOk 69 [adr g 0] (pin g 61) bs (blockD bs) (fun x => .agg (blockC x))) (bs : List UInt8) : RdOk 68 [adr g 0, .fn 69 [adr g 0] []] (pin g 61) bs (listD blockD bs) (fun l => .sl (l.map blockC)) := by
  refine callsTX_facts Tryz.func68 facts68 rfl fun hw ho => ?_
  refine rdN (t32 g bs) rfl rfl (fun h => ⟨rfl, by simp only [listD, h]⟩) fun n r e _ => ?_
  refine brn_p (fun h0 => ?_) (fun h0 => ?_)
  · refine chk (t33 (decide (n ≤ 400))) rfl (fun h => ⟨rfl, ?_⟩) fun h => ?_
    · have h := of_decide_eq_false h
      simp only [listD, e]
      rw [if_neg (fun q => h q.2)]
    have h := of_decide_eq_true h
    have hl : listD blockD bs = repO [] (repD blockD n.toNat r) := by
      simp only [listD, e]
      rw [if_pos ⟨h0, h⟩, repO_nil]
    refine loopN n.toNat 17 [6] (([], r) : List (Block) × List UInt8) (fun _ => [.rw 23]) (fun s => RdR 23 105 4 blockC g s) (fun k s => s.1.length = k ∧ repO s.1 (repD blockD (n.toNat - k) s.2) = listD blockD bs) ⟨rfl, hl.symm⟩ (same_keys rfl) ⟨nil_rw rfl rfl, trivial⟩
      ⟨.inr ⟨rfl, 105, 4, rfl⟩, .inl ⟨_, rfl, .inl ⟨rfl, rfl⟩⟩, trivial⟩ (fun _ => rfl) (fun _ => rfl) ?_
    rintro k ⟨a, l⟩ hk ⟨hak, hinv⟩ _ _ _
    refine brn_p (fun hlt => ?_) (fun hge => ?_)
    · have hlt : k < n.toNat := by omega
      have h6 : n.toNat - k = (n.toNat - (k + 1)) + 1 := by omega
      refine rdN (hc l) rfl rfl (fun h => ⟨rfl, ?_⟩) fun x r2 e2 _ => ?_
      · rw [← hinv, h6, repO_none h]
      refine app1r k rfl (by simpa using hak) (by omega) (by omega) ?_
      refine Fit.in64 (by omega) (by omega) ?_
      refine ⟨(k + 1, (a ++ [x], r2)), ⟨by omega, by simp [hak], ?_⟩, ⟨nextI, ⟨same_keys rfl, trivial⟩⟩, ⟨.inl ⟨_, rfl, .inl ⟨?_, rfl⟩⟩, .inl ⟨_, rfl, .inl ⟨rfl, rfl⟩⟩, trivial⟩, nextM hlt⟩
      · rw [← hinv, h6, repO_step e2]
      · exact congrArg (TO.row 105 4) (List.map_append (f := blockC) (l₁ := a) (l₂ := [x])).symm
    · have : n.toNat - k = 0 := by omega
      rw [this] at hinv
      refine retRF [23] [1000] ⟨_, _, rfl, rfl, rfl, ?_⟩
      exact ⟨a, l, by rw [← hinv]; simp [repD, repO], rfl, rfl⟩
  · refine chk (t33 false) rfl (fun h => ⟨rfl, ?_⟩) fun h => by cases h
    simp only [listD, e]
    rw [if_neg (fun q => h0 q.1)]

set_option maxRecDepth 10000 in
theorem t70 (g : Nat) (hc : ∀ bs, RdOk 71 [adr g 0] (pin g 61) bs (slotsD bs) (fun l => .sl (l.map slotC))) (bs : List UInt8) : RdOk 70 [adr g 0, .fn 71 [adr g 0] []] (pin g 61) bs (listD slotsD bs) (fun l => .sl (l.map slotsC)) := by
  refine callsTX_facts Tryz.func70 facts70 rfl fun hw ho => ?_
  refine rdN (t32 g bs) rfl rfl (fun h => ⟨rfl, by simp only [listD, h]⟩) fun n r e _ => ?_
  refine brn_p (fun h0 => ?_) (fun h0 => ?_)
  · refine chk (t33 (decide (n ≤ 400))) rfl (fun h => ⟨rfl, ?_⟩) fun h => ?_
    · have h := of_decide_eq_false h
      simp only [listD, e]
      rw [if_neg (fun q => h q.2)]
    have h := of_decide_eq_true h
    have hl : listD slotsD bs = repO [] (repD slotsD n.toNat r) := by
      simp only [listD, e]
      rw [if_pos ⟨h0, h⟩, repO_nil]
    refine loopN n.toNat 17 [6] (([], r) : List (List Slot) × List UInt8) (fun _ => [.rw 23]) (fun s => RdR 23 109 1 slotsC g s) (fun k s => s.1.length = k ∧ repO s.1 (repD slotsD (n.toNat - k) s.2) = listD slotsD bs) ⟨rfl, hl.symm⟩ (same_keys rfl) ⟨nil_rw rfl rfl, trivial⟩
      ⟨.inr ⟨rfl, 109, 1, rfl⟩, .inl ⟨_, rfl, .inl ⟨rfl, rfl⟩⟩, trivial⟩ (fun _ => rfl) (fun _ => rfl) ?_
    rintro k ⟨a, l⟩ hk ⟨hak, hinv⟩ _ _ _
    refine brn_p (fun hlt => ?_) (fun hge => ?_)
    · have hlt : k < n.toNat := by omega
      have h6 : n.toNat - k = (n.toNat - (k + 1)) + 1 := by omega
      refine rdN (hc l) rfl rfl (fun h => ⟨rfl, ?_⟩) fun x r2 e2 _ => ?_
      · rw [← hinv, h6, repO_none h]
      refine app1r k rfl (by simpa using hak) (by omega) (by omega) ?_
      refine Fit.in64 (by omega) (by omega) ?_
      refine ⟨(k + 1, (a ++ [x], r2)), ⟨by omega, by simp [hak], ?_⟩, ⟨nextI, ⟨same_keys rfl, trivial⟩⟩, ⟨.inl ⟨_, rfl, .inl ⟨?_, rfl⟩⟩, .inl ⟨_, rfl, .inl ⟨rfl, rfl⟩⟩, trivial⟩, nextM hlt⟩
      · rw [← hinv, h6, repO_step e2]
      · exact congrArg (TO.row 109 1) (List.map_append (f := slotsC) (l₁ := a) (l₂ := [x])).symm
    · have : n.toNat - k = 0 := by omega
      rw [this] at hinv
      refine retRF [23] [1000] ⟨_, _, rfl, rfl, rfl, ?_⟩
      exact ⟨a, l, by rw [← hinv]; simp [repD, repO], rfl, rfl⟩
  · refine chk (t33 false) rfl (fun h => ⟨rfl, ?_⟩) fun h => by cases h
    simp only [listD, e]
    rw [if_neg (fun q => h0 q.1)]

set_option maxRecDepth 10000 in
theorem t115 (g : Nat) (hc : ∀ bs, RdOk 116 [.pt [adr g 0] 0] (pin g 61) bs (insD bs) (fun x => .agg (insC x))) (bs : List UInt8) : RdOk 115 [adr g 0, .fn 116 [] [.pt [adr g 0] 0]] (pin g 61) bs (listD insD bs) (fun l => .sl (l.map insC)) := by
  refine callsTX_facts Tryz.func115 facts115 rfl fun hw ho => ?_
  refine rdN (t32 g bs) rfl rfl (fun h => ⟨rfl, by simp only [listD, h]⟩) fun n r e _ => ?_
  refine brn_p (fun h0 => ?_) (fun h0 => ?_)
  · refine chk (t33 (decide (n ≤ 400))) rfl (fun h => ⟨rfl, ?_⟩) fun h => ?_
    · have h := of_decide_eq_false h
      simp only [listD, e]
      rw [if_neg (fun q => h q.2)]
    have h := of_decide_eq_true h
    have hl : listD insD bs = repO [] (repD insD n.toNat r) := by
      simp only [listD, e]
      rw [if_pos ⟨h0, h⟩, repO_nil]
    refine loopN n.toNat 17 [6] (([], r) : List (Ins) × List UInt8) (fun _ => [.rw 23]) (fun s => RdR 23 100 7 insC g s) (fun k s => s.1.length = k ∧ repO s.1 (repD insD (n.toNat - k) s.2) = listD insD bs) ⟨rfl, hl.symm⟩ (same_keys rfl) ⟨nil_rw rfl rfl, trivial⟩
      ⟨.inr ⟨rfl, 100, 7, rfl⟩, .inl ⟨_, rfl, .inl ⟨rfl, rfl⟩⟩, trivial⟩ (fun _ => rfl) (fun _ => rfl) ?_
    rintro k ⟨a, l⟩ hk ⟨hak, hinv⟩ _ _ _
    refine brn_p (fun hlt => ?_) (fun hge => ?_)
    · have hlt : k < n.toNat := by omega
      have h6 : n.toNat - k = (n.toNat - (k + 1)) + 1 := by omega
      refine rdN (hc l) rfl rfl (fun h => ⟨rfl, ?_⟩) fun x r2 e2 _ => ?_
      · rw [← hinv, h6, repO_none h]
      refine app1r k rfl (by simpa using hak) (by omega) (by omega) ?_
      refine Fit.in64 (by omega) (by omega) ?_
      refine ⟨(k + 1, (a ++ [x], r2)), ⟨by omega, by simp [hak], ?_⟩, ⟨nextI, ⟨same_keys rfl, trivial⟩⟩, ⟨.inl ⟨_, rfl, .inl ⟨?_, rfl⟩⟩, .inl ⟨_, rfl, .inl ⟨rfl, rfl⟩⟩, trivial⟩, nextM hlt⟩
      · rw [← hinv, h6, repO_step e2]
      · exact congrArg (TO.row 100 7) (List.map_append (f := insC) (l₁ := a) (l₂ := [x])).symm
    · have : n.toNat - k = 0 := by omega
      rw [this] at hinv
      refine retRF [23] [1000] ⟨_, _, rfl, rfl, rfl, ?_⟩
      exact ⟨a, l, by rw [← hinv]; simp [repD, repO], rfl, rfl⟩
  · refine chk (t33 false) rfl (fun h => ⟨rfl, ?_⟩) fun h => by cases h
    simp only [listD, e]
    rw [if_neg (fun q => h0 q.1)]

set_option maxRecDepth 10000 in
theorem t117 (g : Nat) (hc : ∀ bs, RdOk 118 [.pt [adr g 0] 0] (pin g 61) bs (slotD bs) (fun x => .agg (slotC x))) (bs : List UInt8) : RdOk 117 [adr g 0, .fn 118 [] [.pt [adr g 0] 0]] (pin g 61) bs (listD slotD bs) (fun l => .sl (l.map slotC)) := by
  refine callsTX_facts Tryz.func117 facts117 rfl fun hw ho => ?_
  refine rdN (t32 g bs) rfl rfl (fun h => ⟨rfl, by simp only [listD, h]⟩) fun n r e _ => ?_
  refine brn_p (fun h0 => ?_) (fun h0 => ?_)
  · refine chk (t33 (decide (n ≤ 400))) rfl (fun h => ⟨rfl, ?_⟩) fun h => ?_
    · have h := of_decide_eq_false h
      simp only [listD, e]
      rw [if_neg (fun q => h q.2)]
    have h := of_decide_eq_true h
    have hl : listD slotD bs = repO [] (repD slotD n.toNat r) := by
      simp only [listD, e]
      rw [if_pos ⟨h0, h⟩, repO_nil]
    refine loopN n.toNat 17 [6] (([], r) : List (Slot) × List UInt8) (fun _ => [.rw 23]) (fun s => RdR 23 108 7 slotC g s) (fun k s => s.1.length = k ∧ repO s.1 (repD slotD (n.toNat - k) s.2) = listD slotD bs) ⟨rfl, hl.symm⟩ (same_keys rfl) ⟨nil_rw rfl rfl, trivial⟩
      ⟨.inr ⟨rfl, 108, 7, rfl⟩, .inl ⟨_, rfl, .inl ⟨rfl, rfl⟩⟩, trivial⟩ (fun _ => rfl) (fun _ => rfl) ?_
    rintro k ⟨a, l⟩ hk ⟨hak, hinv⟩ _ _ _
    refine brn_p (fun hlt => ?_) (fun hge => ?_)
    · have hlt : k < n.toNat := by omega
      have h6 : n.toNat - k = (n.toNat - (k + 1)) + 1 := by omega
      refine rdN (hc l) rfl rfl (fun h => ⟨rfl, ?_⟩) fun x r2 e2 _ => ?_
      · rw [← hinv, h6, repO_none h]
      refine app1r k rfl (by simpa using hak) (by omega) (by omega) ?_
      refine Fit.in64 (by omega) (by omega) ?_
      refine ⟨(k + 1, (a ++ [x], r2)), ⟨by omega, by simp [hak], ?_⟩, ⟨nextI, ⟨same_keys rfl, trivial⟩⟩, ⟨.inl ⟨_, rfl, .inl ⟨?_, rfl⟩⟩, .inl ⟨_, rfl, .inl ⟨rfl, rfl⟩⟩, trivial⟩, nextM hlt⟩
      · rw [← hinv, h6, repO_step e2]
      · exact congrArg (TO.row 108 7) (List.map_append (f := slotC) (l₁ := a) (l₂ := [x])).symm
    · have : n.toNat - k = 0 := by omega
      rw [this] at hinv
      refine retRF [23] [1000] ⟨_, _, rfl, rfl, rfl, ?_⟩
      exact ⟨a, l, by rw [← hinv]; simp [repD, repO], rfl, rfl⟩
  · refine chk (t33 false) rfl (fun h => ⟨rfl, ?_⟩) fun h => by cases h
    simp only [listD, e]
    rw [if_neg (fun q => h0 q.1)]

set_option maxRecDepth 10000 in
theorem t119 (g : Nat) (hc : ∀ bs, RdOk 120 [.pt [adr g 0] 0] (pin g 61) bs (lentD bs) (fun x => .agg (lentC x))) (bs : List UInt8) : RdOk 119 [adr g 0, .fn 120 [] [.pt [adr g 0] 0]] (pin g 61) bs (listD lentD bs) (fun l => .sl (l.map lentC)) := by
  refine callsTX_facts Tryz.func119 facts119 rfl fun hw ho => ?_
  refine rdN (t32 g bs) rfl rfl (fun h => ⟨rfl, by simp only [listD, h]⟩) fun n r e _ => ?_
  refine brn_p (fun h0 => ?_) (fun h0 => ?_)
  · refine chk (t33 (decide (n ≤ 400))) rfl (fun h => ⟨rfl, ?_⟩) fun h => ?_
    · have h := of_decide_eq_false h
      simp only [listD, e]
      rw [if_neg (fun q => h q.2)]
    have h := of_decide_eq_true h
    have hl : listD lentD bs = repO [] (repD lentD n.toNat r) := by
      simp only [listD, e]
      rw [if_pos ⟨h0, h⟩, repO_nil]
    refine loopN n.toNat 17 [6] (([], r) : List (Lent) × List UInt8) (fun _ => [.rw 23]) (fun s => RdR 23 158 3 lentC g s) (fun k s => s.1.length = k ∧ repO s.1 (repD lentD (n.toNat - k) s.2) = listD lentD bs) ⟨rfl, hl.symm⟩ (same_keys rfl) ⟨nil_rw rfl rfl, trivial⟩
      ⟨.inr ⟨rfl, 158, 3, rfl⟩, .inl ⟨_, rfl, .inl ⟨rfl, rfl⟩⟩, trivial⟩ (fun _ => rfl) (fun _ => rfl) ?_
    rintro k ⟨a, l⟩ hk ⟨hak, hinv⟩ _ _ _
    refine brn_p (fun hlt => ?_) (fun hge => ?_)
    · have hlt : k < n.toNat := by omega
      have h6 : n.toNat - k = (n.toNat - (k + 1)) + 1 := by omega
      refine rdN (hc l) rfl rfl (fun h => ⟨rfl, ?_⟩) fun x r2 e2 _ => ?_
      · rw [← hinv, h6, repO_none h]
      refine app1r k rfl (by simpa using hak) (by omega) (by omega) ?_
      refine Fit.in64 (by omega) (by omega) ?_
      refine ⟨(k + 1, (a ++ [x], r2)), ⟨by omega, by simp [hak], ?_⟩, ⟨nextI, ⟨same_keys rfl, trivial⟩⟩, ⟨.inl ⟨_, rfl, .inl ⟨?_, rfl⟩⟩, .inl ⟨_, rfl, .inl ⟨rfl, rfl⟩⟩, trivial⟩, nextM hlt⟩
      · rw [← hinv, h6, repO_step e2]
      · exact congrArg (TO.row 158 3) (List.map_append (f := lentC) (l₁ := a) (l₂ := [x])).symm
    · have : n.toNat - k = 0 := by omega
      rw [this] at hinv
      refine retRF [23] [1000] ⟨_, _, rfl, rfl, rfl, ?_⟩
      exact ⟨a, l, by rw [← hinv]; simp [repD, repO], rfl, rfl⟩
  · refine chk (t33 false) rfl (fun h => ⟨rfl, ?_⟩) fun h => by cases h
    simp only [listD, e]
    rw [if_neg (fun q => h0 q.1)]
end Go.Fr.Tryz

set_option linter.unusedVariables false
set_option linter.unusedSimpArgs false
namespace Go.Fr.Tryz
open Go Go.RowKit Go.Proofs Go.Fr Go.Fr.T Go.Fr.Api

theorem t149 (g : Nat) (m : Int) (hm : 0 < m) {D : Dec Ty} (hc : ∀ bs, RdOk 114 [adr g 0, IC (m - 1)] (pin g 61) bs (D bs) tyA) (bs : List UInt8) : RdOk 149 [.pt [adr g 0] 0, .pt [IC m] 0] (pin g 61) bs (D bs) tyA := by
  refine callsTX_facts Tryz.func149 facts149 rfl fun hw ho => ?_
  have hm2 : m ≤ 9223372036854775807 := by
    have := hw.2.1
    simp only [Wf, WfS] at this
    exact (wf_i64 this.1).2
  refine Fit.in64 (by omega) (by omega) ?_
  refine rdN (hc bs) rfl rfl (fun h => ⟨rfl, h⟩) fun y r e _ => ?_
  exact retR [1000] rfl rfl rfl rfl ⟨y, r, e, rfl, rfl⟩
set_option maxRecDepth 10000 in
theorem t114 (g : Nat) : ∀ (d : Nat) (m : Int), m.toNat = d → ∀ bs : List UInt8, RdOk 114 [adr g 0, IC m] (pin g 61) bs (typD d bs) tyA
  | 0, m, hm, bs => by
    refine callsTX_facts Tryz.func114 facts114 rfl fun hw ho => ?_
    refine chk (t33 (decide (0 < m))) rfl (fun h => ⟨rfl, rfl⟩) fun h => ?_
    have h := of_decide_eq_true h
    exfalso
    omega
  | d + 1, m, hm, bs => by
    have ih := t114 g d (m - 1) (by omega)
    refine callsTX_facts Tryz.func114 facts114 rfl fun hw ho => ?_
    refine chk (t33 (decide (0 < m))) rfl (fun h => by have h := of_decide_eq_false h; exfalso; omega) fun _ => ?_
    refine rdD (t32 g bs) rfl rfl rfl (fun h => ⟨rfl, by simp only [typD, andD, h]⟩) fun k r1 e1 _ => ?_
    refine rdD (t32 g r1) rfl rfl rfl (fun h => ⟨rfl, by simp only [typD, andD, e1, h]⟩) fun i r2 e2 _ => ?_
    refine rdN (t65d g m (t149 g m (by omega) ih) r2) rfl rfl (fun h => ⟨rfl, by simp only [typD, andD, e1, e2, h]⟩) fun a r3 e3 _ => ?_
    refine retR [1000] rfl rfl rfl rfl ⟨.mk k i a, r3, by simp only [typD, andD, retD, e1, e2, e3], rfl, rfl⟩
theorem t66 (g : Nat) (bs : List UInt8) : RdOk 66 [adr g 0] (pin g 61) bs (fullD bs) tyA := by
  refine callsTX_facts Tryz.func66 facts66 rfl fun hw ho => ?_
  refine rdN (t114 g 8 8 rfl bs) rfl rfl (fun h => ⟨rfl, h⟩) fun y r e _ => ?_
  exact retR [1000] rfl rfl rfl rfl ⟨y, r, e, rfl, rfl⟩
end Go.Fr.Tryz

set_option linter.unusedVariables false
set_option linter.unusedSimpArgs false
namespace Go.Fr.Tryz
open Go Go.RowKit Go.Proofs Go.Fr Go.Fr.T Go.Fr.Api

set_option maxRecDepth 10000 in
theorem t64 (g : Nat) (bs : List UInt8) : RdOk 64 [.pt [adr g 0] 0] (pin g 61) bs (varD bs) (fun x => .agg (variantC x)) := by
  refine callsTX_facts Tryz.func64 facts64 rfl fun hw ho => ?_
  refine rdD (t62 g bs) rfl rfl rfl (fun h => ⟨rfl, andD_none h⟩) fun s r1 e1 _ => ?_
  refine rdD (t65 g (t66 g) r1) rfl rfl rfl (fun h => ⟨rfl, (andD_some e1).trans <| andD_none h⟩) fun f r2 e2 _ => ?_
  exact retR [1000] rfl rfl rfl rfl ⟨⟨s, f⟩, r2, (andD_some e1).trans <| (andD_some e2).trans <| rfl, rfl, rfl⟩
set_option maxRecDepth 10000 in
theorem t29 (g : Nat) (bs : List UInt8) : RdOk 29 [adr g 0] (pin g 61) bs (dataD bs) (fun x => .agg (dataC x)) := by
  refine callsTX_facts Tryz.func29 facts29 rfl fun hw ho => ?_
  refine rdD (t62 g bs) rfl rfl rfl (fun h => ⟨rfl, andD_none h⟩) fun s r1 e1 _ => ?_
  refine rdD (t32 g r1) rfl rfl rfl (fun h => ⟨rfl, (andD_some e1).trans <| andD_none h⟩) fun m r2 e2 _ => ?_
  refine rdD (t32 g r2) rfl rfl rfl (fun h => ⟨rfl, (andD_some e1).trans <| (andD_some e2).trans <| andD_none h⟩) fun p r3 e3 _ => ?_
  refine rdD (t32 g r3) rfl rfl rfl (fun h => ⟨rfl, (andD_some e1).trans <| (andD_some e2).trans <| (andD_some e3).trans <| andD_none h⟩) fun d r4 e4 _ => ?_
  refine rdD (t63 g (t64 g) r4) rfl rfl rfl (fun h => ⟨rfl, (andD_some e1).trans <| (andD_some e2).trans <| (andD_some e3).trans <| (andD_some e4).trans <| andD_none h⟩) fun v r5 e5 _ => ?_
  exact retR [1000] rfl rfl rfl rfl ⟨⟨s, m, p, v, d⟩, r5, (andD_some e1).trans <| (andD_some e2).trans <| (andD_some e3).trans <| (andD_some e4).trans <| (andD_some e5).trans <| rfl, rfl, rfl⟩
set_option maxRecDepth 10000 in
theorem t120 (g : Nat) (bs : List UInt8) : RdOk 120 [.pt [adr g 0] 0] (pin g 61) bs (lentD bs) (fun x => .agg (lentC x)) := by
  refine callsTX_facts Tryz.func120 facts120 rfl fun hw ho => ?_
  refine rdD (t32 g bs) rfl rfl rfl (fun h => ⟨rfl, andD_none h⟩) fun s r1 e1 _ => ?_
  refine rdD (t121 g r1) rfl rfl rfl (fun h => ⟨rfl, (andD_some e1).trans <| andD_none h⟩) fun x r2 e2 _ => ?_
  refine rdD (t121 g r2) rfl rfl rfl (fun h => ⟨rfl, (andD_some e1).trans <| (andD_some e2).trans <| andD_none h⟩) fun y r3 e3 _ => ?_
  exact retR [1000] rfl rfl rfl rfl ⟨⟨s, x, y⟩, r3, (andD_some e1).trans <| (andD_some e2).trans <| (andD_some e3).trans <| rfl, rfl, rfl⟩
set_option maxRecDepth 10000 in
theorem t118 (g : Nat) (bs : List UInt8) : RdOk 118 [.pt [adr g 0] 0] (pin g 61) bs (slotD bs) (fun x => .agg (slotC x)) := by
  refine callsTX_facts Tryz.func118 facts118 rfl fun hw ho => ?_
  refine rdD (t32 g bs) rfl rfl rfl (fun h => ⟨rfl, andD_none h⟩) fun s r1 e1 _ => ?_
  refine rdD (t66 g r1) rfl rfl rfl (fun h => ⟨rfl, (andD_some e1).trans <| andD_none h⟩) fun t r2 e2 _ => ?_
  refine rdD (t32 g r2) rfl rfl rfl (fun h => ⟨rfl, (andD_some e1).trans <| (andD_some e2).trans <| andD_none h⟩) fun v r3 e3 _ => ?_
  refine rdD (t32 g r3) rfl rfl rfl (fun h => ⟨rfl, (andD_some e1).trans <| (andD_some e2).trans <| (andD_some e3).trans <| andD_none h⟩) fun f r4 e4 _ => ?_
  refine rdD (t119 g (t120 g) r4) rfl rfl rfl (fun h => ⟨rfl, (andD_some e1).trans <| (andD_some e2).trans <| (andD_some e3).trans <| (andD_some e4).trans <| andD_none h⟩) fun l r5 e5 _ => ?_
  exact retR [1000] rfl rfl rfl rfl ⟨⟨s, t, v, f, l⟩, r5, (andD_some e1).trans <| (andD_some e2).trans <| (andD_some e3).trans <| (andD_some e4).trans <| (andD_some e5).trans <| rfl, rfl, rfl⟩
theorem t71 (g : Nat) (bs : List UInt8) : RdOk 71 [adr g 0] (pin g 61) bs (slotsD bs) (fun l => .sl (l.map slotC)) := by
  refine callsTX_facts Tryz.func71 facts71 rfl fun hw ho => ?_
  refine rdN (t117 g (t118 g) bs) rfl rfl (fun h => ⟨rfl, h⟩) fun y r e _ => ?_
  exact retR [1000] rfl rfl rfl rfl ⟨y, r, e, rfl, rfl⟩
set_option maxRecDepth 10000 in
theorem t116 (g : Nat) (bs : List UInt8) : RdOk 116 [.pt [adr g 0] 0] (pin g 61) bs (insD bs) (fun x => .agg (insC x)) := by
  refine callsTX_facts Tryz.func116 facts116 rfl fun hw ho => ?_
  refine rdD (t32 g bs) rfl rfl rfl (fun h => ⟨rfl, andD_none h⟩) fun o r1 e1 _ => ?_
  refine rdD (t32 g r1) rfl rfl rfl (fun h => ⟨rfl, (andD_some e1).trans <| andD_none h⟩) fun d r2 e2 _ => ?_
  refine rdD (t32 g r2) rfl rfl rfl (fun h => ⟨rfl, (andD_some e1).trans <| (andD_some e2).trans <| andD_none h⟩) fun a r3 e3 _ => ?_
  refine rdD (t32 g r3) rfl rfl rfl (fun h => ⟨rfl, (andD_some e1).trans <| (andD_some e2).trans <| (andD_some e3).trans <| andD_none h⟩) fun b r4 e4 _ => ?_
  refine rdD (t32 g r4) rfl rfl rfl (fun h => ⟨rfl, (andD_some e1).trans <| (andD_some e2).trans <| (andD_some e3).trans <| (andD_some e4).trans <| andD_none h⟩) fun n r5 e5 _ => ?_
  refine rdD (t67 g r5) rfl rfl rfl (fun h => ⟨rfl, (andD_some e1).trans <| (andD_some e2).trans <| (andD_some e3).trans <| (andD_some e4).trans <| (andD_some e5).trans <| andD_none h⟩) fun x r6 e6 _ => ?_
  refine rdD (t65 g (t66 g) r6) rfl rfl rfl (fun h => ⟨rfl, (andD_some e1).trans <| (andD_some e2).trans <| (andD_some e3).trans <| (andD_some e4).trans <| (andD_some e5).trans <| (andD_some e6).trans <| andD_none h⟩) fun t r7 e7 _ => ?_
  exact retR [1000] rfl rfl rfl rfl ⟨⟨o, d, a, b, n, x, t⟩, r7, (andD_some e1).trans <| (andD_some e2).trans <| (andD_some e3).trans <| (andD_some e4).trans <| (andD_some e5).trans <| (andD_some e6).trans <| (andD_some e7).trans <| rfl, rfl, rfl⟩
set_option maxRecDepth 10000 in
theorem t69 (g : Nat) (bs : List UInt8) : RdOk 69 [adr g 0] (pin g 61) bs (blockD bs) (fun x => .agg (blockC x)) := by
  refine callsTX_facts Tryz.func69 facts69 rfl fun hw ho => ?_
  refine rdN (t115 g (t116 g) bs) rfl rfl (fun h => ⟨rfl, andD_none h⟩) fun c r1 e1 _ => ?_
  refine rdD (t32 g r1) rfl rfl rfl (fun h => ⟨rfl, (andD_some e1).trans <| andD_none h⟩) fun k r2 e2 _ => ?_
  refine rdD (t32 g r2) rfl rfl rfl (fun h => ⟨rfl, (andD_some e1).trans <| (andD_some e2).trans <| andD_none h⟩) fun a r3 e3 _ => ?_
  refine rdD (t67 g r3) rfl rfl rfl (fun h => ⟨rfl, (andD_some e1).trans <| (andD_some e2).trans <| (andD_some e3).trans <| andD_none h⟩) fun t r4 e4 _ => ?_
  exact retR [1000] rfl rfl rfl rfl ⟨⟨c, ⟨k, a, t⟩⟩, r4, (andD_some e1).trans <| (andD_some e2).trans <| (andD_some e3).trans <| (andD_some e4).trans <| rfl, rfl, rfl⟩
set_option maxRecDepth 10000 in
theorem t31 (g : Nat) (bs : List UInt8) : RdOk 31 [adr g 0] (pin g 61) bs (routD bs) (fun x => .agg (routC x)) := by
  refine callsTX_facts Tryz.func31 facts31 rfl fun hw ho => ?_
  refine rdN (t62 g bs) rfl rfl (fun h => ⟨rfl, andD_none h⟩) fun s r1 e1 _ => ?_
  refine rdN (t65 g (t66 g) r1) rfl rfl (fun h => ⟨rfl, (andD_some e1).trans <| andD_none h⟩) fun p r2 e2 _ => ?_
  refine rdN (t66 g r2) rfl rfl (fun h => ⟨rfl, (andD_some e1).trans <| (andD_some e2).trans <| andD_none h⟩) fun q r3 e3 _ => ?_
  refine rdN (t67 g r3) rfl rfl (fun h => ⟨rfl, (andD_some e1).trans <| (andD_some e2).trans <| (andD_some e3).trans <| andD_none h⟩) fun t r4 e4 _ => ?_
  refine rdN (t32 g r4) rfl rfl (fun h => ⟨rfl, (andD_some e1).trans <| (andD_some e2).trans <| (andD_some e3).trans <| (andD_some e4).trans <| andD_none h⟩) fun n r5 e5 _ => ?_
  refine rdN (t68 g (t69 g) r5) rfl rfl (fun h => ⟨rfl, (andD_some e1).trans <| (andD_some e2).trans <| (andD_some e3).trans <| (andD_some e4).trans <| (andD_some e5).trans <| andD_none h⟩) fun b r6 e6 _ => ?_
  refine rdN (t70 g (t71 g) r6) rfl rfl (fun h => ⟨rfl, (andD_some e1).trans <| (andD_some e2).trans <| (andD_some e3).trans <| (andD_some e4).trans <| (andD_some e5).trans <| (andD_some e6).trans <| andD_none h⟩) fun y r7 e7 _ => ?_
  exact retR [1000] rfl rfl rfl rfl ⟨⟨s, p, q, t, n, b, y⟩, r7, (andD_some e1).trans <| (andD_some e2).trans <| (andD_some e3).trans <| (andD_some e4).trans <| (andD_some e5).trans <| (andD_some e6).trans <| (andD_some e7).trans <| rfl, rfl, rfl⟩
end Go.Fr.Tryz
