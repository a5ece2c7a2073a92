/- Part of the proofs of the statements of this seat. -/
import Derived.Test.YtgapnemcomkomaaDgT9
import Derived.Test.YtgapnemcomkomaaDgP4
set_option linter.unusedVariables false
set_option linter.unusedSimpArgs false
namespace Go.Fr.Try
open Go Go.RowKit Go.Proofs Go.Fr Go.Fr.T Go.Fr.Api
theorem step_stp {s x : Int} (h : 0 ≤ s) (hx : 0 ≤ x) : stepN s x = Pure.stp s x := by
  have h1 : 0 ≤ s * 1000003 + x + 1 := by omega
  unfold stepN Pure.stp
  revert h1
  generalize s * 1000003 + x + 1 = z
  intro h1
  exact Int.tmod_eq_emod_of_nonneg h1
theorem foldl_stp : ∀ (l : List Int) (s : Int), 0 ≤ s → (∀ x ∈ l, 0 ≤ x) → l.foldl stepN s = l.foldl Pure.stp s
  | [], _, _, _ => by rw [List.foldl_nil, List.foldl_nil]
  | x :: l, s, hs, hx => by
    rw [List.foldl_cons, List.foldl_cons, step_stp hs (hx x (List.mem_cons_self ..))]
    exact foldl_stp l _ (Pure.stp_bd s x).1 fun y hy => hx y (List.mem_cons_of_mem _ hy)
theorem foldN_run (l : List Int) (h : ∀ x ∈ l, 0 ≤ x) : foldN l = Pure.run 7 l := by
  unfold foldN Pure.run
  exact foldl_stp l 7 (by omega) h
theorem bytesN_nn (bs : List UInt8) : ∀ x ∈ bytesN bs, 0 ≤ x := by
  intro x hx
  obtain ⟨b, _, rfl⟩ := List.mem_map.1 hx
  omega
theorem fold_run (bs : List UInt8) : foldN (bytesN bs) = Pure.run 7 (bytesN bs) := foldN_run _ (bytesN_nn bs)

theorem bytesN_set (bs : List UInt8) (k : Nat) (v : UInt8) : bytesN (bs.set k v) = (bytesN bs).set k v.toNat := by simp [bytesN, List.map_set]
theorem split_at {l : List UInt8} {k : Nat} {x : UInt8} (h : l[k]? = some x) : ∃ a b, l = a ++ x :: b ∧ a.length = k := by
  obtain ⟨hk, rfl⟩ := List.getElem?_eq_some_iff.1 h
  refine ⟨l.take k, l.drop (k + 1), ?_, by simp; omega⟩
  rw [← List.drop_eq_getElem_cons hk, List.take_append_drop]
theorem set_at (a b : List UInt8) (x v : UInt8) : (a ++ x :: b).set a.length v = a ++ v :: b := by simp
theorem foldN_set {bs : List UInt8} {k : Nat} {x v : UInt8} (h : bs[k]? = some x) : foldN (bytesN (bs.set k v)) = foldN (bytesN bs) ↔ v = x := by
  obtain ⟨a, b, rfl, rfl⟩ := split_at h
  rw [set_at, fold_run, fold_run]
  have hv := v.toNat_lt
  have hx := x.toNat_lt
  have := Pure.run_set (a := bytesN a) (b := bytesN b) (x := (x.toNat : Int)) (v := (v.toNat : Int)) (by omega) (by omega) (by omega) (by omega)
  simp only [bytesN, List.map_append, List.map_cons] at this ⊢
  rw [this]
  constructor
  · intro e; exact UInt8.toNat_inj.1 (by omega)
  · rintro rfl; rfl
theorem foldN_swap {bs : List UInt8} {k : Nat} {x y : UInt8} (h : bs[k + 1]? = some x) (h' : bs[k]? = some y) : foldN (bytesN ((bs.set (k + 1) y).set k x)) = foldN (bytesN bs) ↔ x = y := by
  obtain ⟨a, b, rfl, rfl⟩ := split_at h'
  have hb : ∃ b', b = x :: b' := by
    rw [List.getElem?_append_right (by omega)] at h
    simp at h
    cases b with
    | nil => simp at h
    | cons z b' => simp at h; exact ⟨b', by rw [h]⟩
  obtain ⟨b', rfl⟩ := hb
  have e1 : (a ++ y :: x :: b').set (a.length + 1) y = a ++ y :: y :: b' := by
    rw [List.set_append_right _ _ (by omega)]; simp
  rw [e1, set_at, fold_run, fold_run]
  have hy := y.toNat_lt
  have hx := x.toNat_lt
  have := Pure.run_swap (a := bytesN a) (b := bytesN b') (x := (y.toNat : Int)) (y := (x.toNat : Int)) (by omega) (by omega) (by omega) (by omega)
  simp only [bytesN, List.map_append, List.map_cons] at this ⊢
  rw [this]
  constructor
  · intro e; exact UInt8.toNat_inj.1 (by omega)
  · rintro rfl; rfl
theorem bcells_get {bs : List UInt8} {k : Nat} {x : UInt8} (h : bs[k]? = some x) : (bcells bs)[k]? = some [bcell x] := by simp [bcells, h]
theorem bcells_set (bs : List UInt8) (k : Nat) (v : UInt8) : (bcells bs).set k [bcell v] = bcells (bs.set k v) := by simp [bcells, List.map_set]
theorem u8_eq {x y : UInt8} : ((x.toNat : Int) = (y.toNat : Int)) ↔ x = y := ⟨fun e => UInt8.toNat_inj.1 (by omega), fun e => by rw [e]⟩
theorem rowSt {els : List (List C)} {j off n : Nat} {es0 : List C} {K : List C → Prop} (h : els[j]? = some es0) (hl : lenC? ((es0.drop off).take n) n = true) (k : K es0) : RowT els j off n fun _ => ∀ es, els[j]? = some es → K es :=
  ⟨es0, h, hl, fun es he => by rw [h] at he; injection he with he; rw [← he]; exact k⟩
set_option maxRecDepth 10000 in
theorem t4 (bs : List UInt8) (at0 : Int) (v : UInt8) (hl : bs.length ≤ 1048576) (hat : 0 ≤ at0 ∧ at0 ≤ 65535) : CallsT P 4 [.sl (bcells bs), .int .u16 at0, bcell v] [] (Ret [] (.bool true)) := by
  have hS := fold_run bs
  have hb : 0 ≤ foldN (bytesN bs) ∧ foldN (bytesN bs) < 2147483647 := by rw [hS]; exact Pure.run_bd (by decide) (by decide)
  have hset := fun (k : Nat) (x w : UInt8) (h : bs[k]? = some x) => foldN_set (bs := bs) (v := w) h
  have hswap := fun (k : Nat) (x y : UInt8) (h : bs[k + 1]? = some x) (h' : bs[k]? = some y) => foldN_swap (bs := bs) h h'
  have c15 := t15 bs
  generalize hSe : foldN (bytesN bs) = S at hS hb hset hswap c15
  have hbl := bcells_len bs
  obtain ⟨k, hk'⟩ : ∃ k : Nat, bs.length ≠ 0 → at0.tmod ↑(bcells bs).length = k := by
    rw [Int.tmod_eq_emod_of_nonneg hat.1]
    by_cases h : bs.length = 0
    · exact ⟨0, fun h' => absurd h h'⟩
    · obtain ⟨k, hk⟩ := Int.eq_ofNat_of_zero_le (Int.emod_nonneg at0 (show ((bcells bs).length : Int) ≠ 0 by omega))
      exact ⟨k, fun _ => hk⟩
  have hkl' : bs.length ≠ 0 → k < bs.length := by
    intro h
    have h9 : at0.tmod ↑(bcells bs).length < ↑(bcells bs).length := by
      rw [Int.tmod_eq_emod_of_nonneg hat.1]
      exact Int.emod_lt_of_pos _ (by omega)
    have := hk' h
    omega
  obtain ⟨x, hx'⟩ : ∃ x, bs.length ≠ 0 → bs[k]? = some x := by
    by_cases h : bs.length = 0
    · exact ⟨0, fun h' => absurd h h'⟩
    · exact ⟨bs[k]'(hkl' h), fun _ => by simp [hkl' h]⟩
  obtain ⟨m, hm'⟩ : ∃ m, k ≠ 0 → k = m + 1 := ⟨k - 1, by omega⟩
  obtain ⟨y, hy'⟩ : ∃ y, bs.length ≠ 0 → k ≠ 0 → bs[m]? = some y := by
    by_cases h : bs.length = 0
    · exact ⟨0, fun h' => absurd h h'⟩
    · by_cases h2 : k = 0
      · exact ⟨0, fun _ h' => absurd h2 h'⟩
      · have := hkl' h
        have := hm' h2
        exact ⟨bs[m]'(by omega), fun _ _ => by simp [show m < bs.length by omega]⟩
  refine callsT_facts Try.func4 facts4 rfl fun hw _ => ?_
  refine callP t9 rfl fun _ => ?_
  refine brn_p (fun h => ?_) (fun h => ?_)
  · exact retP rfl rfl
  refine callP c15 rfl fun _ => ?_
  refine brn_p (fun h' => (by omega : False).elim) (fun h1 => ?_)
  refine brn_p (fun h' => (by omega : False).elim) (fun h2 => ?_)
  refine AppT.mk ?_ ?_ ?_ ?_
  · exact bcells_sz
  · show 1 + (bcells bs).length ≤ maxLen
    have : maxLen = 9223372036854775807 := rfl
    omega
  · show (1 + (bcells bs).length) * 1 ≤ _
    simp; omega
  have hne := Pure.run_cons_ne (v := v.toNat) (l := bytesN bs) (by omega) (by have := v.toNat_lt; omega)
  refine callF [27] [] [] (t15 (v :: bs)) ⟨[], rfl, rfl, rfl, rfl, rfl, fun _ _ => ?_⟩
  have hne2 : foldN (bytesN (v :: bs)) ≠ S := by rw [fold_run, hS]; exact hne
  refine brn_p (fun h' => (hne2 h').elim) (fun h3 => ?_)
  refine brn_p (fun h' => ?_) (fun h4 => ?_)
  · exact retP rfl rfl
  refine Fit.in64 (by omega) (by omega) ?_
  refine NonZ.mk (by omega) ?_
  have hk := hk' (by omega)
  have hkl := hkl' (by omega)
  have hx := hx' (by omega)
  refine AppT.mk ?_ ?_ ?_ ?_
  · exact bcells_sz
  · show 0 + (bcells bs).length ≤ maxLen
    have : maxLen = 9223372036854775807 := rfl
    omega
  · show (0 + (bcells bs).length) * 1 ≤ _
    simp; omega
  refine InB.mk (by omega) ?_ ?_
  · show at0.tmod _ < (((bcells bs).length : Nat) : Int)
    omega
  have hg0 : (bcells bs)[(at0.tmod ↑(bcells bs).length).toNat]? = some [bcell x] := by rw [hk]; exact bcells_get hx
  refine ⟨rfl, rowSt hg0 rfl ?_⟩
  refine IdxT.mk ⟨[bcell x], by omega, hg0, rfl, ?_⟩
  refine callPD (t15 (bs.set k v)) ?_ fun _ => ?_
  · show [C.sl ((bcells bs).set (at0.tmod ↑(bcells bs).length).toNat [bcell v])] = _
    rw [hk, Int.toNat_natCast, bcells_set]
  have e1 := hset k x v hx
  refine brn_split (fun hbr => ?_) (fun h5 => ?_)
  · exfalso
    have h7 : (!decide (decide (foldN (bytesN (bs.set k v)) = S) = decide ((v.toNat : Int) = x.toNat))) = true := hbr
    have h8 : decide (foldN (bytesN (bs.set k v)) = S) = decide ((v.toNat : Int) = x.toNat) := decide_eq_decide.2 (e1.trans u8_eq.symm)
    rw [h8] at h7
    simp at h7
  refine brn_p (fun h' => ?_) (fun h6 => ?_)
  · exact retP rfl rfl
  have hm := hm' (by omega)
  have hy := hy' (by omega) (by omega)
  refine AppT.mk ?_ ?_ ?_ ?_
  · exact bcells_sz
  · show 0 + (bcells bs).length ≤ maxLen
    have : maxLen = 9223372036854775807 := rfl
    omega
  · show (0 + (bcells bs).length) * 1 ≤ _
    simp; omega
  refine Fit.in64 (by omega) (by omega) ?_
  have hg1 : (bcells bs)[(at0.tmod ↑(bcells bs).length - 1).toNat]? = some [bcell y] := by
    rw [hk, show ((k : Int) - 1).toNat = m by omega]; exact bcells_get hy
  refine IdxT.mk ⟨[bcell y], by omega, hg1, rfl, ?_⟩
  refine InB.mk (by omega) ?_ ?_
  · show at0.tmod _ < (((bcells bs).length : Nat) : Int)
    omega
  refine ⟨rfl, rowSt hg0 rfl ?_⟩
  refine Fit.in64 (by omega) (by omega) ?_
  refine IdxT.mk ⟨[bcell x], by omega, hg0, rfl, ?_⟩
  refine InB.mk (by omega) ?_ ?_
  · show at0.tmod _ - 1 < (((((bcells bs).set _ _).length : Nat)) : Int)
    rw [List.length_set]
    omega
  have hg2 : ((bcells bs).set (at0.tmod ↑(bcells bs).length).toNat [bcell y])[(at0.tmod ↑(bcells bs).length - 1).toNat]? = some [bcell y] := by
    rw [List.getElem?_set_ne (by omega)]; exact hg1
  refine ⟨rfl, rowSt hg2 rfl ?_⟩
  refine IdxT.mk ⟨[bcell x], by omega, hg0, rfl, ?_⟩
  refine Fit.in64 (by omega) (by omega) ?_
  refine IdxT.mk ⟨[bcell y], by omega, hg1, rfl, ?_⟩
  refine callPD (t15 ((bs.set k y).set m x)) ?_ fun _ => ?_
  · show [C.sl (((bcells bs).set (at0.tmod ↑(bcells bs).length).toNat [bcell y]).set (at0.tmod ↑(bcells bs).length - 1).toNat [bcell x])] = _
    rw [hk, Int.toNat_natCast, show ((k : Int) - 1).toNat = m by omega, bcells_set, bcells_set]
  have e2 := hswap m x y (by rw [← hm]; exact hx) hy
  rw [← hm] at e2
  refine retP rfl ?_
  show C.bool (decide (decide (foldN (bytesN ((bs.set k y).set m x)) = S) = decide ((x.toNat : Int) = y.toNat))) = C.bool true
  have h8 : decide (foldN (bytesN ((bs.set k y).set m x)) = S) = decide ((x.toNat : Int) = y.toNat) := decide_eq_decide.2 (e2.trans u8_eq.symm)
  rw [h8]
  simp
end Go.Fr.Try
