/- Part of the proofs of the statements of this seat. -/
import Derived.Test.YtjobilmjlmeohaaDoorLyP2G
import Derived.Test.YtjobilmjlmeohaaDoorFW3
import Derived.Test.YtjobilmjlmeohaaDoorRows
import Derived.WideKeyMaps
import Derived.MakeChecks
import Derived.ChangeArms
/- Layout, plain: ranges, first words; what is written is read. -/
set_option linter.unusedVariables false
set_option linter.unusedSimpArgs false
namespace Go.Fr.Tryd
open Go Go.RowKit Go.Proofs Go.Fr Go.Fr.T Go.Fr.Api

abbrev InR (w : List Int) : Prop := ∀ x ∈ w, -1000000000 ≤ x ∧ x ≤ 1000000000
/-- the first word keeps clear of the niches -/
abbrev Clear (n : Int) (w : List Int) : Prop := 0 < n → ∃ x r, w = x :: r ∧ 0 ≤ x ∧ x < 65536 - n
theorem putFs_first {s : Sh} {l : List Sh} {fs : List Val} {u : List Int} (h : putFs (s :: l) fs = some u) : ∃ v r, (putM s v).2 = true ∧ u = (putM s v).1 ++ r := by
  cases fs with
  | nil => rw [putFs] at h; cases h
  | cons v fs =>
    rw [putFs] at h
    split at h
    · rename_i hb
      obtain ⟨r, _, rfl⟩ := Option.map_eq_some_iff.1 h
      exact ⟨v, r, hb, rfl⟩
    · cases h
theorem putFs_range : ∀ {l : List Sh} {fs : List Val} {u : List Int}, (∀ s ∈ l, ∀ v, (putM s v).2 = true → InR (putM s v).1) → putFs l fs = some u → InR u
  | [], fs, u, _, h => by rw [putFs] at h; injection h with h; subst h; exact fun x hx => by cases hx
  | s :: l, [], u, _, h => by rw [putFs] at h; cases h
  | s :: l, v :: fs, u, hi, h => by
    rw [putFs] at h
    split at h
    · rename_i hb
      obtain ⟨r, h1, rfl⟩ := Option.map_eq_some_iff.1 h
      intro x hx
      rcases List.mem_append.1 hx with hx | hx
      · exact hi s (by simp) v hb x hx
      · exact putFs_range (fun s hs => hi s (by simp [hs])) h1 x hx
    · cases h
/-- what a value of a data type is written as -/
theorem put_inv {i : Int} {vs : List (List Sh)} {sz sp gr be : Int} {v : Val} (h : (putM (.sum i vs sz sp gr be) v).2 = true) :
    ∃ (j : Nat), ∃ l u, v.kind = 2 ∧ v.id = i ∧ v.var = j ∧ vs[j]? = some l ∧ v.fields.length = l.length ∧ putFs l v.fields = some u ∧ (putM (.sum i vs sz sp gr be) v).1 = (markM gr be j).toList ++ u ++ List.replicate (sz - (((markM gr be j).toList ++ u).length : Int)).toNat 0 := by
  rw [putM] at h ⊢
  split at h
  · cases h
  · rename_i hc
    have hv0 : ¬ v.var < 0 := fun q => hc (.inr (.inr q))
    have hk : v.kind = 2 := Decidable.byContradiction fun q => hc (.inl q)
    have hi : v.id = i := Decidable.byContradiction fun q => hc (.inr (.inl q))
    have hvj : v.var = (v.var.toNat : Nat) := by omega
    rw [if_neg hc]
    split at h
    · cases h
    · rename_i w hw
      rw [putVs_at] at hw
      obtain ⟨l, hl, hw⟩ := Option.bind_eq_some_iff.1 hw
      split at hw
      · rename_i hlen
        exact ⟨v.var.toNat, l, w, hk, hi, hvj, hl, hlen, hw, by rw [← hvj]⟩
      · cases hw
theorem mark_bd {vs : List (List Sh)} {sz sp gr be : Int} (hf : FormS vs sz sp gr be) (hv : vs.length ≤ 16) (hn : ∀ l ∈ vs, ∀ s ∈ l, 0 ≤ s.niches ∧ s.niches ≤ 65535) {k : Nat} (hk : k < vs.length) {m : Int} (hm : markM gr be k = some m) : 0 ≤ m ∧ m < 65536 - sp ∧ 0 ≤ sp := by
  cases hf with
  | one l h1 h2 h3 h4 h5 =>
    subst h1
    have hk0 : k = 0 := by simp at hk; omega
    subst hk0 h2
    simp [markM] at hm
  | great j s l h1 h2 h3 h4 h5 h6 h7 h8 h9 =>
    have hb := hn _ (List.mem_of_getElem? h1) s (by simp)
    have hj : j < vs.length := (List.getElem?_eq_some_iff.1 h1).1
    rw [markM, if_neg (by omega)] at hm
    split at hm
    · cases hm
    · split at hm
      · injection hm with hm; omega
      · injection hm with hm; omega
  | tag h1 h2 h3 h4 h5 =>
    rw [markM, if_pos (by omega)] at hm
    injection hm with hm
    omega
theorem put_first : ∀ {s : Sh}, Good s → ∀ v, (putM s v).2 = true → InR (putM s v).1 ∧ Clear s.niches (putM s v).1
  | .num, _, v, h => by
    rw [putM] at h ⊢
    have h := of_decide_eq_true h
    refine ⟨fun x hx => ?_, fun h => by simp [Sh.niches] at h⟩
    simp only [List.mem_singleton] at hx
    subst hx
    exact h.2
  | .hdl k, _, v, h => by
    rw [putM] at h ⊢
    have h := of_decide_eq_true h
    refine ⟨fun x hx => ?_, fun _ => ⟨v.n, [], rfl, h.2.1, ?_⟩⟩
    · simp only [List.mem_singleton] at hx
      subst hx
      omega
    · have := h.2.2
      simp only [Sh.niches]; omega
  | .sum i vs sz sp gr be, hg, v, h => by
    have hf := good_form hg
    have hg' := hg
    rw [Good, goodVs_iff] at hg'
    obtain ⟨j, l, u, _, _, _, hl, _, hu, e⟩ := put_inv h
    rw [e]
    have hlm := List.mem_of_getElem? hl
    have hj : j < vs.length := (List.getElem?_eq_some_iff.1 hl).1
    have ih : ∀ s ∈ l, ∀ v, (putM s v).2 = true → InR (putM s v).1 ∧ Clear s.niches (putM s v).1 := fun s hs v hv => put_first (hg'.2.2.2 l hlm s hs) v hv
    have hnb : ∀ l ∈ vs, ∀ s ∈ l, 0 ≤ s.niches ∧ s.niches ≤ 65535 := fun l hl s hs => niches_bd (hg'.2.2.2 l hl s hs)
    have hmb := fun m hm => mark_bd hf hg'.2.1 hnb hj (m := m) hm
    constructor
    · intro x hx
      rcases List.mem_append.1 hx with hx | hx
      · rcases List.mem_append.1 hx with hx | hx
        · cases hm : markM gr be j with
          | none => rw [hm] at hx; cases hx
          | some m =>
            rw [hm] at hx
            simp only [Option.toList_some, List.mem_singleton] at hx
            have := hmb m hm
            omega
        · exact putFs_range (fun s hs v hv => (ih s hs v hv).1) hu x hx
      · have := List.eq_of_mem_replicate hx
        omega
    · intro hsp
      have hsp : 0 < sp := hsp
      show ∃ x r, _ = x :: r ∧ 0 ≤ x ∧ x < 65536 - sp
      cases hm : markM gr be j with
      | some m => exact ⟨m, u ++ List.replicate (sz - (((some m).toList ++ u).length : Int)).toNat 0, rfl, (hmb m hm).1, (hmb m hm).2.1⟩
      | none =>
        have first : ∀ s l', l = s :: l' → sp ≤ s.niches → ∃ x r, (none : Option Int).toList ++ u ++ List.replicate (sz - (((none : Option Int).toList ++ u).length : Int)).toNat 0 = x :: r ∧ 0 ≤ x ∧ x < 65536 - sp := by
          intro s l' hsl hle
          subst hsl
          obtain ⟨v', r, hb, rfl⟩ := putFs_first hu
          obtain ⟨x, r', hx, h0, h1⟩ := (ih s (by simp) v' hb).2 (by omega)
          rw [hx]
          exact ⟨x, _, rfl, h0, by omega⟩
        cases hf with
        | one l' h1 h2 h3 h4 h5 =>
          subst h1
          have hj0 : j = 0 := by simp at hj; omega
          subst hj0
          simp only [List.getElem?_cons_zero, Option.some.injEq] at hl
          subst hl
          cases l' with
          | nil => simp at h4; omega
          | cons s l' =>
            have h40 : sp = s.niches := h4
            exact first s l' rfl (by omega)
        | great g s l' h1 h2 h3 h4 h5 h6 h7 h8 h9 =>
          have hjg : j = g := by
            rw [markM, if_neg (by omega)] at hm
            split at hm
            · omega
            · split at hm <;> cases hm
          subst hjg
          rw [h1] at hl
          injection hl with hl
          exact first s l' hl.symm (by omega)
        | tag h1 h2 h3 h4 h5 =>
          rw [markM, if_pos (by omega)] at hm
          cases hm
termination_by s => SizeOf.sizeOf s
decreasing_by
  have h1 := List.sizeOf_lt_of_mem hs
  have h2 := List.sizeOf_lt_of_mem hlm
  simp only [Sh.sum.sizeOf_spec]
  omega
theorem get_clear {s : Sh} (hg : Good s) {u : List Int} (hu : (u.length : Int) = s.words) (h : (getM s u).2 = true) : Clear s.niches u := by
  have h1 := put_get hg u hu h
  have h2 := (put_first hg (getM s u).1 (by rw [h1])).2
  rw [h1] at h2
  exact h2

/- values as they are read -/
mutual
def Canon : Sh → Val → Prop
  | .num, v => v = .mk 1 0 0 v.n []
  | .hdl k, v => v = .mk k 0 0 v.n []
  | .sum i vs _ _ _ _, v => v = .mk 2 i v.var 0 v.fields ∧ CanonVs vs v.var.toNat v.fields
def CanonVs : List (List Sh) → Nat → List Val → Prop
  | [], _, _ => True
  | l :: _, 0, fs => CanonFs l fs
  | _ :: r, k + 1, fs => CanonVs r k fs
def CanonFs : List Sh → List Val → Prop
  | [], _ => True
  | _ :: _, [] => True
  | s :: l, v :: fs => Canon s v ∧ CanonFs l fs
end
theorem canonVs_at : ∀ {vs : List (List Sh)} {k : Nat} {l : List Sh} {fs : List Val}, vs[k]? = some l → (CanonVs vs k fs ↔ CanonFs l fs)
  | [], k, l, fs, h => by simp at h
  | x :: r, 0, l, fs, h => by
    simp only [List.getElem?_cons_zero, Option.some.injEq] at h
    subst h; rw [CanonVs]
  | x :: r, k + 1, l, fs, h => by rw [CanonVs]; exact canonVs_at (by simpa using h)
theorem getFs_put : ∀ {l : List Sh} {fs : List Val} {u z : List Int}, (∀ s ∈ l, Good s ∧ ∀ v, Canon s v → (putM s v).2 = true → getM s (putM s v).1 = (v, true)) → CanonFs l fs → fs.length = l.length → putFs l fs = some u → getFs l (u ++ z) = some (fs, z)
  | [], fs, u, z, _, _, hl, h => by
    rw [putFs] at h
    injection h with h
    subst h
    rw [List.length_eq_zero_iff.1 hl, getFs]; rfl
  | s :: l, [], u, z, _, _, hl, h => by simp at hl
  | s :: l, v :: fs, u, z, hi, hc, hl, h => by
    rw [CanonFs] at hc
    rw [putFs] at h
    split at h
    · rename_i hb
      obtain ⟨r, h1, rfl⟩ := Option.map_eq_some_iff.1 h
      obtain ⟨hg, hi0⟩ := hi s (by simp)
      have hlen := put_len hg hb
      have hn : s.words.toNat = (putM s v).1.length := by omega
      have ht : ((putM s v).1 ++ r ++ z).take s.words.toNat = (putM s v).1 := by rw [hn, List.append_assoc, List.take_left']; rfl
      have hd : ((putM s v).1 ++ r ++ z).drop s.words.toNat = r ++ z := by rw [hn, List.append_assoc, List.drop_left']; rfl
      rw [getFs, ht, hd, hi0 v hc.1 hb, if_pos rfl, getFs_put (fun s hs => hi s (by simp [hs])) hc.2 (by simpa using hl) h1]
      rfl
    · cases h
theorem getVs_find {i gr be : Int} {w : List Int} : ∀ {r : List (List Sh)} {k j : Nat} {l : List Sh} {xs : List Val} {rest : List Int}, r[j]? = some l → (∀ (a : Nat) l', a < j → r[a]? = some l' → cand gr be l' ((k + a : Nat) : Int) w = none) →
    cand gr be l ((k + j : Nat) : Int) w = some (xs, rest) → rest.all (fun n => decide (n = 0)) = true → getVs i gr be r k w = (.mk 2 i ((k + j : Nat) : Int) 0 xs, true)
  | [], k, j, l, xs, rest, h, _, _, _ => by simp at h
  | x :: r, k, 0, l, xs, rest, h, _, hc, hz => by
    simp only [List.getElem?_cons_zero, Option.some.injEq] at h
    subst h
    have hc : cand gr be x (k : Int) w = some (xs, rest) := hc
    rw [getVs_some hc, if_pos hz]; rfl
  | x :: r, k, j + 1, l, xs, rest, h, hs, hc, hz => by
    have h0 : cand gr be x (k : Int) w = none := hs 0 x (by omega) rfl
    rw [getVs_none h0]
    have ek : k + (j + 1) = k + 1 + j := by omega
    rw [ek] at hc ⊢
    refine getVs_find (k := k + 1) (r := r) (by simpa using h) (fun a l' ha hl' => ?_) hc hz
    have := hs (a + 1) l' (by omega) (by simpa using hl')
    have e : k + (a + 1) = k + 1 + a := by omega
    rw [e] at this
    exact this
theorem mark_inj {gr be : Int} {a b : Nat} {m m' : Int} (h1 : markM gr be a = some m) (h2 : markM gr be b = some m') (hne : a ≠ b) : m ≠ m' := by
  rw [markM] at h1 h2
  split at h1
  · rename_i hg
    rw [if_pos hg] at h2
    injection h1 with h1; injection h2 with h2
    omega
  · rename_i hg
    rw [if_neg hg] at h2
    split at h1
    · cases h1
    · split at h2
      · cases h2
      · split at h1
        · split at h2
          · injection h1 with h1; injection h2 with h2; omega
          · injection h1 with h1; injection h2 with h2; omega
        · split at h2
          · injection h1 with h1; injection h2 with h2; omega
          · injection h1 with h1; injection h2 with h2; omega
theorem get_put : ∀ {s : Sh}, Good s → ∀ v, Canon s v → (putM s v).2 = true → getM s (putM s v).1 = (v, true)
  | .num, _, v, hc, h => by
    rw [Canon] at hc
    rw [putM] at h ⊢
    have h := of_decide_eq_true h
    rw [getM]
    show (Val.mk 1 0 0 v.n [], decide _) = (v, true)
    rw [← hc, decide_eq_true]
    exact h.2
  | .hdl k, _, v, hc, h => by
    rw [Canon] at hc
    rw [putM] at h ⊢
    have h := of_decide_eq_true h
    rw [getM]
    show (Val.mk k 0 0 v.n [], decide _) = (v, true)
    rw [← hc, decide_eq_true]
    exact h.2
  | .sum i vs sz sp gr be, hg, v, hc, h => by
    have hf := good_form hg
    have hg' := hg
    rw [Good, goodVs_iff] at hg'
    have hlenW := put_len hg h
    obtain ⟨j, l, u, hk, hi, hvj, hl, hfl, hu, e⟩ := put_inv h
    rw [Canon] at hc
    have hvn : v.var.toNat = j := by omega
    rw [hvn, canonVs_at hl] at hc
    have hlm := List.mem_of_getElem? hl
    have hnb : ∀ l ∈ vs, ∀ s ∈ l, 0 ≤ s.niches ∧ s.niches ≤ 65535 := fun l hl s hs => niches_bd (hg'.2.2.2 l hl s hs)
    have hfp : ∀ z, getFs l (u ++ z) = some (v.fields, z) := fun z => getFs_put (fun s hs => ⟨hg'.2.2.2 l hlm s hs, fun x hx hp => get_put (hg'.2.2.2 l hlm s hs) x hx hp⟩) hc.2 hfl hu
    generalize hz : List.replicate (sz - (((markM gr be j).toList ++ u).length : Int)).toNat (0 : Int) = z at e
    have hz0 : z.all (fun n => decide (n = 0)) = true := by
      rw [← hz]; simp
    rw [getM]
    have hcand : cand gr be l (j : Int) (putM (.sum i vs sz sp gr be) v).1 = some (v.fields, z) := by
      rw [e]
      cases hm : markM gr be j with
      | none => rw [cand_none hm]; exact hfp z
      | some m =>
        rw [cand_some hm]
        show (if m = m then getFs l (u ++ z) else none) = _
        rw [if_pos rfl]; exact hfp z
    have hskip : ∀ (a : Nat) l', a < j → vs[a]? = some l' → cand gr be l' ((0 + a : Nat) : Int) (putM (.sum i vs sz sp gr be) v).1 = none := by
      intro a l' ha hl'
      have e0 : 0 + a = a := by omega
      rw [e0]
      have hj : j < vs.length := (List.getElem?_eq_some_iff.1 hl).1
      cases hma : markM gr be a with
      | some m =>
        rw [cand_some hma]
        refine if_neg ?_
        cases hmj : markM gr be j with
        | some m' =>
          rw [e, hmj]
          show ¬ m' = m
          exact fun q => mark_inj hma hmj (by omega) q.symm
        | none =>
          cases hf with
          | one l0 h1 h2 h3 h4 h5 => subst h1; simp at hj; omega
          | great g s l0 h1 h2 h3 h4 h5 h6 h7 h8 h9 =>
            have hjg : j = g := by
              rw [markM, if_neg (by omega)] at hmj
              split at hmj
              · omega
              · split at hmj <;> cases hmj
            subst hjg
            rw [h1] at hl
            injection hl with hl
            subst hl
            obtain ⟨v', r, hb, hur⟩ := putFs_first hu
            have hgs := hg'.2.2.2 _ hlm s (by simp)
            obtain ⟨x, r', hx, hx0, hx1⟩ := (put_first hgs v' hb).2 (by omega)
            have hme : be ≤ m := by
              rw [markM, if_neg (by omega)] at hma
              split at hma
              · cases hma
              · split at hma
                · injection hma with hma; omega
                · injection hma with hma; omega
            rw [e, hmj, hur, hx]
            show ¬ x = m
            omega
          | tag h1 h2 h3 h4 h5 =>
            rw [markM, if_pos (by omega)] at hmj
            cases hmj
      | none =>
        rw [cand_none hma]
        cases hf with
        | one l0 h1 h2 h3 h4 h5 => subst h1; simp at hj; omega
        | great g s l0 h1 h2 h3 h4 h5 h6 h7 h8 h9 =>
          have hag : a = g := by
            rw [markM, if_neg (by omega)] at hma
            split at hma
            · omega
            · split at hma <;> cases hma
          subst hag
          rw [h1] at hl'
          injection hl' with hl'
          subst hl'
          have hgs := hg'.2.2.2 _ (List.mem_of_getElem? h1) s (by simp)
          have hw0 := words_bd hgs
          have htl : 0 ≤ total l0 := total_nonneg fun x hx => (words_bd (hg'.2.2.2 _ (List.mem_of_getElem? h1) x (by simp [hx]))).1
          have hlenW : ((putM (.sum i vs sz sp gr be) v).1.length : Int) = sz := hlenW
          rw [total] at h6
          rw [getFs]
          refine if_neg fun hb => ?_
          have hcl := get_clear hgs (u := (putM (.sum i vs sz sp gr be) v).1.take s.words.toNat) (by rw [List.length_take]; omega) hb (by omega)
          obtain ⟨x, r, hx, hx0, hx1⟩ := hcl
          have hm : ∃ m, markM gr be j = some m ∧ be ≤ m := by
            rw [markM, if_neg (by omega), if_neg (by omega)]
            split
            · exact ⟨_, rfl, by omega⟩
            · exact ⟨_, rfl, by omega⟩
          obtain ⟨m, hm, hbm⟩ := hm
          rw [e, hm] at hx
          have hwpos := niches_words hgs (by omega)
          have : s.words.toNat = (s.words.toNat - 1) + 1 := by omega
          rw [this] at hx
          have hx : m :: ((u ++ z).take (s.words.toNat - 1)) = x :: r := hx
          injection hx with hx _
          omega
        | tag h1 h2 h3 h4 h5 =>
          rw [markM, if_pos (by omega)] at hma
          cases hma
    have e0 : 0 + j = j := by omega
    have := getVs_find (i := i) (k := 0) hl hskip (by rw [e0]; exact hcand) hz0
    rw [e0] at this
    have h0 : getVs i gr be vs 0 (putM (.sum i vs sz sp gr be) v).1 = (.mk 2 i (j : Int) 0 v.fields, true) := this
    rw [h0, ← hvj, ← hc.1]
termination_by s => SizeOf.sizeOf s
decreasing_by
  have h1 := List.sizeOf_lt_of_mem hs
  have h2 := List.sizeOf_lt_of_mem hlm
  simp only [Sh.sum.sizeOf_spec]
  omega
end Go.Fr.Tryd

/- Layout, plain: values that follow choices are values; layouts that sizes allow; further data types; one word. -/
set_option linter.unusedVariables false
set_option linter.unusedSimpArgs false
namespace Go.Fr.Tryd
open Go Go.RowKit Go.Proofs Go.Fr Go.Fr.T Go.Fr.Api

theorem chB_head {ch : List Int} (h : ChB ch) : 0 ≤ ch.headD 0 ∧ ch.headD 0 ≤ 65535 := by
  cases ch with
  | nil => exact ⟨Int.le_refl _, by decide⟩
  | cons c r => exact h c (by simp)
theorem makFs_put : ∀ {l : List Sh} {ch : List Int}, ChB ch → (∀ s ∈ l, ∀ ch, ChB ch → (putM s (makS s ch).1).2 = true ∧ Canon s (makS s ch).1) → (makFs l ch).1.length = l.length ∧ (∃ u, putFs l (makFs l ch).1 = some u) ∧ CanonFs l (makFs l ch).1
  | [], ch, _, _ => by rw [makFs]; exact ⟨rfl, ⟨[], by rw [putFs]⟩, by rw [CanonFs]; trivial⟩
  | s :: l, ch, hch, hi => by
    obtain ⟨h1, h2⟩ := hi s (by simp) ch hch
    obtain ⟨g1, ⟨u, g2⟩, g3⟩ := makFs_put (l := l) (makS_ch s hch) (fun x hx => hi x (by simp [hx]))
    rw [makFs]
    refine ⟨by simp [g1], ⟨(putM s (makS s ch).1).1 ++ u, ?_⟩, ?_⟩
    · rw [putFs, if_pos h1, g2]; rfl
    · rw [CanonFs]; exact ⟨h2, g3⟩
theorem put_intro {i : Int} {vs : List (List Sh)} {sz sp gr be : Int} {v : Val} {j : Nat} {l : List Sh} {u : List Int} (hk : v.kind = 2) (hi : v.id = i) (hv : v.var = j) (hl : vs[j]? = some l) (hfl : v.fields.length = l.length) (hu : putFs l v.fields = some u) :
    (putM (.sum i vs sz sp gr be) v).2 = true := by
  have hc : ¬ (v.kind ≠ 2 ∨ v.id ≠ i ∨ v.var < 0) := by
    rintro (q | q | q)
    · exact q hk
    · exact q hi
    · omega
  have hn : v.var.toNat = j := by omega
  rw [putM, if_neg hc, putVs_at, hn, hl]
  simp only [Option.bind_some, if_pos hfl, hu]
theorem mak_put : ∀ {s : Sh}, Good s → ∀ ch, ChB ch → (putM s (makS s ch).1).2 = true ∧ Canon s (makS s ch).1
  | .num, _, ch, hch => by
    have h := chB_head hch
    rw [makS, putM, Canon]
    refine ⟨?_, rfl⟩
    refine decide_eq_true ⟨rfl, ?_, ?_⟩
    · show -1000000000 ≤ (ch.headD 0 - 32768) * 30517; omega
    · show (ch.headD 0 - 32768) * 30517 ≤ 1000000000; omega
  | .hdl k, _, ch, hch => by
    have h := chB_head hch
    have h2 := tmod_pos h.1 (show (0 : Int) < 32768 by decide)
    rw [makS, putM, Canon]
    refine ⟨?_, rfl⟩
    refine decide_eq_true ⟨rfl, h2.1, ?_⟩
    show (ch.headD 0).tmod 32768 ≤ 32767; omega
  | .sum i vs sz sp gr be, hg, ch, hch => by
    have h := chB_head hch
    rw [Good, goodVs_iff] at hg
    have hlen : 0 < vs.length := List.length_pos_iff.2 hg.1
    have h2 := tmod_pos h.1 (show (0 : Int) < vs.length by omega)
    rw [makS]
    generalize (ch.headD 0).tmod vs.length = k at h2 ⊢
    have hk : k.toNat < vs.length := by omega
    have hl : vs[k.toNat]? = some vs[k.toNat] := List.getElem?_eq_getElem hk
    generalize hll : vs[k.toNat] = l at hl
    have hlm := List.mem_of_getElem? hl
    rw [makAt_get hl]
    obtain ⟨g1, ⟨u, g2⟩, g3⟩ := makFs_put (l := l) (chB_tail hch) (fun s hs ch hch => mak_put (hg.2.2.2 l hlm s hs) ch hch)
    constructor
    · exact put_intro (v := .mk 2 i k 0 (makFs l ch.tail).1) (j := k.toNat) rfl rfl (show k = (k.toNat : Nat) by omega) hl g1 g2
    · rw [Canon]
      exact ⟨rfl, (canonVs_at hl).2 g3⟩
termination_by s => SizeOf.sizeOf s
decreasing_by
  have h1 := List.sizeOf_lt_of_mem hs
  have h2 := List.sizeOf_lt_of_mem hlm
  simp only [Sh.sum.sizeOf_spec]
  omega
/- layouts that sizes allow -/
abbrev LtP (b : Int) (p : Ty → Int → Int) (q : Ty → Int → Option Sh × Int) : Prop := ∀ x n, 0 ≤ n → n ≤ b → 0 ≤ p x n → ∃ s, q x n = (some s, p x n)
abbrev LtD (p : Ty → Int → Int) : Prop := ∀ x n, 0 ≤ n → -1 ≤ p x n ∧ p x n ≤ n - 1
theorem leftFs_plan {p : Ty → Int → Int} {q : Ty → Int → Option Sh × Int} {b : Int} (h : LtP b p q) (hd : LtD p) : ∀ {l : List Ty} {n : Int}, 0 ≤ n → n ≤ b → 0 ≤ leftFs p l n → ∃ ss, planFs q l n = (some ss, leftFs p l n)
  | [], n, _, _, _ => ⟨[], by rw [planFs, leftFs]⟩
  | x :: l, n, h0, hb, h1 => by
    rw [leftFs, if_pos h0] at h1 ⊢
    have hp : 0 ≤ p x n := by
      rcases Int.lt_or_le (p x n) 0 with hlt | hle
      · rw [leftFs_stop (by omega)] at h1; omega
      · exact hle
    obtain ⟨s, hs⟩ := h x n h0 hb hp
    obtain ⟨ss, hss⟩ := leftFs_plan h hd hp (by have := (hd x n h0).2; omega) h1
    exact ⟨s :: ss, by rw [planFs, hs]; simp only [hss]⟩
theorem leftVs_stop {p : Ty → Int → Int} {t : Ty} : ∀ {l : List Variant} {n : Int}, n < 0 → leftVs p t l n = n
  | [], n, _ => by rw [leftVs]
  | v :: l, n, h => by rw [leftVs, leftFs_stop (by omega), leftVs_stop h]
theorem leftVs_plan {p : Ty → Int → Int} {q : Ty → Int → Option Sh × Int} {b : Int} (h : LtP b p q) (hd : LtD p) {t : Ty} : ∀ {l : List Variant} {n : Int}, 0 ≤ n → n ≤ b → 0 ≤ leftVs p t l n → ∃ ss, planVs q t l n = (some ss, leftVs p t l n)
  | [], n, _, _, _ => ⟨[], by rw [planVs, leftVs]⟩
  | v :: l, n, h0, hb, h1 => by
    rw [leftVs] at h1 ⊢
    have hp : 0 ≤ leftFs p (fldsM t v) n := by
      rcases Int.lt_or_le (leftFs p (fldsM t v) n) 0 with hlt | hle
      · rw [leftVs_stop hlt] at h1; omega
      · exact hle
    obtain ⟨s, hs⟩ := leftFs_plan h hd h0 hb hp
    obtain ⟨ss, hss⟩ := leftVs_plan h hd hp (by have := (leftFs_bd hd (fldsM t v) n (by omega)).2; omega) h1
    exact ⟨s :: ss, by rw [planVs, hs]; simp only [hss]⟩
theorem has1_iff (k : Int) : has1 k = true ↔ k = 3 ∨ k = 4 ∨ k = 6 := by
  rw [has1]
  simp only [Bool.or_eq_true, decide_eq_true_eq, or_assoc]
theorem left_plan (ds : List Api.Data) : ∀ f : Nat, LtP f (left ds f) (plan ds f)
  | 0, t, n, h0, hb, h1 => by
    rw [left] at h1
    omega
  | f + 1, t, n, h0, hb', h1 => by
    rw [left] at h1 ⊢
    rw [plan]
    by_cases hn : n - 1 < 0
    · rw [if_pos (.inl hn)] at h1; omega
    · rw [if_neg hn]
      by_cases hs : simpleP t
      · have hor : n - 1 < 0 ∨ simpleP t := .inr hs
        rw [if_pos hor]
        by_cases hh : has1 t.kind = true
        · rw [if_pos hh]; exact ⟨_, rfl⟩
        · rw [if_neg hh]
          have hk : t.kind = 1 := by
            rw [has1_iff] at hh
            rcases hs with h | h | h | h
            · exact h
            · exact absurd (.inl h) hh
            · exact absurd (.inr (.inl h)) hh
            · exact absurd (.inr (.inr h)) hh
          rw [if_pos hk]; exact ⟨_, rfl⟩
      · have hh : ¬ has1 t.kind = true := by
          rw [has1_iff]
          rintro (h | h | h)
          · exact hs (.inr (.inl h))
          · exact hs (.inr (.inr (.inl h)))
          · exact hs (.inr (.inr (.inr h)))
        have hk : ¬ t.kind = 1 := fun h => hs (.inl h)
        have hor : ¬ (n - 1 < 0 ∨ simpleP t) := fun h => h.elim hn hs
        rw [if_neg hor] at h1 ⊢
        rw [if_neg hh, if_neg hk]
        by_cases hb : badP ds t
        · rw [if_pos hb] at h1; omega
        · rw [if_neg hb] at h1 ⊢
          rw [if_neg hb]
          by_cases ho : oddP (dataAt ds t) t
          · rw [if_pos ho] at h1; omega
          · rw [if_neg ho] at h1 ⊢
            rw [if_neg ho]
            obtain ⟨ss, hss⟩ := leftVs_plan (left_plan ds f) (left_bd ds f) (by omega) (by omega) h1
            rw [hss]
            exact ⟨_, rfl⟩
end Go.Fr.Tryd

/- Layout, plain: further data types; one word. -/
set_option linter.unusedVariables false
set_option linter.unusedSimpArgs false
namespace Go.Fr.Tryd
open Go Go.RowKit Go.Proofs Go.Fr Go.Fr.T Go.Fr.Api

abbrev LeP (p q : Ty → Int → Option Sh × Int) : Prop := ∀ x n s m, p x n = (some s, m) → q x n = (some s, m)
theorem planFs_le {p q : Ty → Int → Option Sh × Int} (h : LeP p q) : ∀ {l : List Ty} {n : Int} {ss : List Sh} {m : Int}, planFs p l n = (some ss, m) → planFs q l n = (some ss, m)
  | [], n, ss, m, h1 => by rw [planFs] at h1 ⊢; exact h1
  | x :: l, n, ss, m, h1 => by
    rw [planFs] at h1 ⊢
    split at h1
    · injection h1 with a b; cases a
    · rename_i s k hs
      rw [h x n s k hs]
      split at h1
      · injection h1 with a b; cases a
      · rename_i ss' k' hss
        simp only [planFs_le h hss]
        exact h1
theorem planVs_le {p q : Ty → Int → Option Sh × Int} (h : LeP p q) {t : Ty} : ∀ {l : List Variant} {n : Int} {ss : List (List Sh)} {m : Int}, planVs p t l n = (some ss, m) → planVs q t l n = (some ss, m)
  | [], n, ss, m, h1 => by rw [planVs] at h1 ⊢; exact h1
  | x :: l, n, ss, m, h1 => by
    rw [planVs] at h1 ⊢
    split at h1
    · injection h1 with a b; cases a
    · rename_i s k hs
      rw [planFs_le h hs]
      split at h1
      · injection h1 with a b; cases a
      · rename_i ss' k' hss
        simp only [planVs_le h hss]
        exact h1
theorem plan_more (ds : List Api.Data) (e : Api.Data) : ∀ f : Nat, LeP (plan ds f) (plan (ds ++ [e]) f)
  | 0, t, n, s, m, h => by rw [plan] at h; injection h with a b; cases a
  | f + 1, t, n, s, m, h => by
    rw [plan] at h ⊢
    split at h
    · injection h with a b; cases a
    · rename_i hn
      rw [if_neg hn]
      split at h
      · rename_i hh
        rw [if_pos hh]; exact h
      · rename_i hh
        rw [if_neg hh]
        split at h
        · rename_i hk
          rw [if_pos hk]; exact h
        · rename_i hk
          rw [if_neg hk]
          split at h
          · injection h with a b; cases a
          · rename_i hb
            have hb' : ¬ badP (ds ++ [e]) t := by
              rintro (q | q | q)
              · exact hb (.inl q)
              · exact hb (.inr (.inl q))
              · rw [List.length_append] at q
                exact hb (.inr (.inr (by omega)))
            have hl : t.id.toNat < ds.length := by
              have h2 : ¬ t.id < 0 := fun q => hb (.inr (.inl q))
              have h3 : ¬ (ds.length : Int) ≤ t.id := fun q => hb (.inr (.inr q))
              omega
            have hda : dataAt (ds ++ [e]) t = dataAt ds t := by
              rw [dataAt, dataAt, List.getElem?_append_left hl]
            rw [if_neg hb', hda]
            split at h
            · injection h with a b; cases a
            · rename_i ho
              rw [if_neg ho]
              split at h
              · injection h with a b; cases a
              · rename_i vs m' hvs
                rw [planVs_le (plan_more ds e f) hvs]
                exact h
theorem planO_more {ds : List Api.Data} {e : Api.Data} {t : Ty} {s : Sh} (h : planO ds t = some s) : planO (ds ++ [e]) t = some s := by
  rw [planO] at h ⊢
  have := plan_more ds e 200 t 200 s (plan ds 200 t 200).2 (by rw [← h])
  rw [this]

/- one field that is a handle -/
abbrev optG (a : Nat) (ft : Ty) (i : Nat) : Variant := ⟨⟨#[]⟩, if i = a then [ft] else []⟩
abbrev optH (a : Nat) (k : Int) (i : Nat) : List Sh := if i = a then [.hdl k] else []
theorem planVs_opt {p : Ty → Int → Option Sh × Int} {t ft : Ty} {k : Int} {a : Nat} (hp : ∀ m : Int, 1 ≤ m → p (subst t.args ft) m = (some (.hdl k), m - 1)) : ∀ (l : List Nat) (m : Int), (l.length : Int) ≤ m → ∃ m', planVs p t (l.map (optG a ft)) m = (some (l.map (optH a k)), m')
  | [], m, h => ⟨m, by rw [List.map_nil, planVs]; rfl⟩
  | i :: l, m, h => by
    rw [List.length_cons] at h
    rw [List.map_cons, planVs]
    by_cases hi : i = a
    · have hf : fldsM t (optG a ft i) = [subst t.args ft] := by
        rw [fldsM]; simp [optG, hi]
      obtain ⟨m', h'⟩ := planVs_opt hp l (m - 1) (by omega)
      rw [hf, planFs, hp m (by omega)]
      simp only [planFs]
      rw [h']
      exact ⟨m', by simp [optH, hi]⟩
    · have hf : fldsM t (optG a ft i) = [] := by
        rw [fldsM]; simp [optG, hi]
      obtain ⟨m', h'⟩ := planVs_opt hp l m (by omega)
      rw [hf, planFs]
      simp only []
      rw [h']
      exact ⟨m', by simp [optH, hi]⟩
theorem foldV_opt {a : Nat} {k : Int} : ∀ (n s : Nat) (sz gr wi : Int), 0 ≤ sz → foldV ((List.range' s n).map (optH a k)) s (sz, gr, wi) = if s ≤ a ∧ a < s + n then (max sz 1, (a : Int), wi + 1) else (sz, gr, wi)
  | 0, s, sz, gr, wi, h0 => by rw [if_neg (by omega)]; rfl
  | n + 1, s, sz, gr, wi, h0 => by
    rw [List.range'_succ, List.map_cons, foldV]
    have e1 : ((s : Int) + 1) = ((s + 1 : Nat) : Int) := by omega
    rw [e1]
    by_cases hs : s = a
    · have hh : optH a k s = [.hdl k] := if_pos hs
      have hne : ¬ ([Sh.hdl k] = []) := by simp
      have ht : total [Sh.hdl k] = 1 := rfl
      have c1 : ¬ (s + 1 ≤ a ∧ a < s + 1 + n) := by omega
      have c2 : s ≤ a ∧ a < s + (n + 1) := by omega
      rw [hh, ht, foldV_opt n (s + 1) _ _ _ (by omega)]
      simp only [if_neg hne, if_neg c1, if_pos c2]
      rw [hs]
    · have hh : optH a k s = [] := if_neg hs
      rw [hh, if_pos rfl, if_pos rfl]
      have ht : max sz (total []) = sz := by simp only [total]; omega
      rw [ht, foldV_opt n (s + 1) sz gr wi h0]
      by_cases hc : s + 1 ≤ a ∧ a < s + 1 + n
      · rw [if_pos hc, if_pos (by omega)]
      · rw [if_neg hc, if_neg (by omega)]
theorem newSum_opt {i : Int} {a n : Nat} {k : Int} (ha : a < n) (hn : n ≤ 16) : (newSum i ((List.range n).map (optH a k))).words = 1 ∧ (newSum i ((List.range n).map (optH a k))).niches = 32768 - ((n : Int) - 1) := by
  have hf : foldV ((List.range n).map (optH a k)) 0 (0, -1, 0) = (1, (a : Int), 1) := by
    have := foldV_opt (a := a) (k := k) n 0 0 (-1) 0 (Int.le_refl _)
    rw [if_pos (by omega)] at this
    rw [List.range_eq_range']
    exact this
  have hl : ((List.range n).map (optH a k)).length = n := by simp
  have hg : ((List.range n).map (optH a k))[a]? = some [.hdl k] := by
    rw [List.getElem?_map, List.getElem?_range ha]
    simp [optH]
  have hfr : freeOf ((List.range n).map (optH a k)) (a : Int) = 32768 := by
    rw [freeOf_get (s := .hdl k) (l := []) (by omega) (by rw [Int.toNat_natCast]; exact hg)]
    rfl
  generalize hvs : (List.range n).map (optH a k) = vs at *
  simp only [newSum, hf, hfr, hl]
  by_cases h1 : (n : Int) - 1 = 0
  · rw [if_pos h1]
    exact ⟨rfl, by show (32768 : Int) = _; omega⟩
  · rw [if_neg h1, if_pos ⟨trivial, by omega⟩]
    exact ⟨rfl, rfl⟩
theorem subst_kind {a : List Ty} {t : Ty} (h : ¬ t.kind = 5) : (subst a t).kind = t.kind := by
  rw [subst_eq, if_neg (fun q => h q.1)]; rfl
theorem planO_opt {ds : List Api.Data} {ft : Ty} {a n : Nat} (ha : a < n) (hn : n ≤ 16) (hk : has1 ft.kind = true) :
    ∃ s, planO (ds ++ [⟨⟨#[]⟩, 0, 0, (List.range n).map (optG a ft), 0⟩]) (.mk 2 ds.length []) = some s ∧ s.words = 1 ∧ s.niches = 32768 - ((n : Int) - 1) := by
  have hk5 : ¬ ft.kind = 5 := by
    intro h; rw [h] at hk; exact absurd hk (by decide)
  generalize hall : ds ++ [(⟨⟨#[]⟩, 0, 0, (List.range n).map (optG a ft), 0⟩ : Api.Data)] = all
  have hlen : all.length = ds.length + 1 := by rw [← hall]; simp
  have hda : dataAt all (.mk 2 ds.length []) = ⟨⟨#[]⟩, 0, 0, (List.range n).map (optG a ft), 0⟩ := by
    rw [dataAt, ← hall]
    show ((ds ++ [_])[(ds.length : Int).toNat]?).getD _ = _
    rw [Int.toNat_natCast, List.getElem?_append_right (Nat.le_refl _), Nat.sub_self]
    rfl
  have hbad : ¬ badP all (.mk 2 ds.length []) := by
    rintro (q | q | q)
    · exact q rfl
    · have q : (ds.length : Int) < 0 := q
      omega
    · have q : (all.length : Int) ≤ ds.length := q
      omega
  have hodd : ¬ oddP (dataAt all (.mk 2 ds.length [])) (.mk 2 ds.length []) := by
    rw [hda]
    rintro (q | q | q)
    · exact q rfl
    · have q : (((List.range n).map (optG a ft)).length : Int) < 1 := q
      rw [List.length_map, List.length_range] at q
      omega
    · have q : 16 < (((List.range n).map (optG a ft)).length : Int) := q
      rw [List.length_map, List.length_range] at q
      omega
  have hp : ∀ m : Int, 1 ≤ m → plan all 199 (subst (Ty.mk 2 ds.length []).args ft) m = (some (.hdl (look1 ft.kind)), m - 1) := by
    intro m hm
    show plan all (198 + 1) _ m = _
    have hkk := subst_kind (a := (Ty.mk 2 ds.length []).args) hk5
    rw [plan, if_neg (by omega), if_pos (by rw [hkk]; exact hk), hkk]
  obtain ⟨m', hv⟩ := planVs_opt (a := a) hp (List.range n) 199 (by rw [List.length_range]; omega)
  refine ⟨newSum ds.length ((List.range n).map (optH a (look1 ft.kind))), ?_, newSum_opt ha hn⟩
  rw [planO]
  show (plan all (199 + 1) (.mk 2 ds.length []) 200).1 = _
  rw [plan, if_neg (by decide), if_neg (by show ¬ has1 2 = true; decide), if_neg (by show ¬ (2 : Int) = 1; decide), if_neg hbad, if_neg hodd, hda]
  show (match planVs (plan all 199) (.mk 2 ds.length []) ((List.range n).map (optG a ft)) 199 with | (none, m) => (none, m) | (some vs, m) => (some (newSum (Ty.mk 2 ds.length []).id vs), m)).1 = _
  rw [hv]
  rfl
/-- a type with a layout -/
theorem planO_of_left {ds : List Api.Data} {t : Ty} (h : 0 ≤ left ds 200 t 200) : ∃ s, planO ds t = some s ∧ Good s ∧ s.cnt ≤ 200 ∧ ∃ m, plan ds 200 t 200 = (some s, m) := by
  obtain ⟨s, hs⟩ := left_plan ds 200 t 200 (by decide) (by decide) h
  have ho : planO ds t = some s := by rw [planO, hs]
  obtain ⟨h1, h2⟩ := planO_ok ho
  exact ⟨s, ho, h1, h2, _, hs⟩
end Go.Fr.Tryd

/- Layout: the statement on words, walked. -/
set_option linter.unusedVariables false
set_option linter.unusedSimpArgs false
namespace Go.Fr.Tryd
open Go Go.RowKit Go.Proofs Go.Fr Go.Fr.T Go.Fr.Api

theorem encM_ok {ds : List Api.Data} {t : Ty} {s : Sh} {v : Val} (h : planO ds t = some s) (hp : (putM s v).2 = true) : encM ds t v = ((putM s v).1, 0) := by
  rw [encM, h]; exact if_pos hp
theorem encC {ds : List Api.Data} {t : Ty} {s : Sh} {v : Val} (hds : DsB ds) (ht : TyB t) (h : planO ds t = some s) (hp : (putM s v).2 = true) :
    CallsT P 12 [.sl (ds.map dataC), tyA t, valA v] [] (Ret [] (.tup [.sl (ics (putM s v).1), IC 0])) := by
  have h1 := t12 ds hds t ht v
  rw [encM_ok h hp] at h1; exact h1
theorem wordsC {ds : List Api.Data} {t : Ty} {s : Sh} (hds : DsB ds) (ht : TyB t) (h : planO ds t = some s) : CallsT P 14 [.sl (ds.map dataC), tyA t] [] (Ret [] (IC s.words)) := by
  have h1 := t14 ds hds t ht
  rw [h] at h1; exact h1
theorem nichesC {ds : List Api.Data} {t : Ty} {s : Sh} (hds : DsB ds) (ht : TyB t) (h : planO ds t = some s) : CallsT P 13 [.sl (ds.map dataC), tyA t] [] (Ret [] (IC s.niches)) := by
  have h1 := t13 ds hds t ht
  rw [h] at h1; exact h1
theorem hasC {ds : List Api.Data} {t : Ty} (hds : DsB ds) (ht : TyB t) (b : Bool) (h : decide (0 ≤ left ds 200 t 200) = b) : CallsT P 10 [.sl (ds.map dataC), tyA t] [] (Ret [] (.bool b)) := by
  have h1 := t10 ds hds t ht
  rw [h] at h1; exact h1
set_option maxRecDepth 10000 in
theorem t3 (ds : List Api.Data) (hds : DsB ds) (t : Ty) (ht : TyB t) (ch : List Int) (hch : ChB ch) : CallsT P 3 [.sl (ds.map dataC), tyA t, .sl (u16s ch)] [] (Ret [] (.bool true)) := by
  by_cases hl : 0 ≤ left ds 200 t 200
  · have h10 := hasC hds ht true (decide_eq_true hl)
    obtain ⟨s, ho, hg, hc, m, hpl⟩ := planO_of_left hl
    have h11 := t11 ds hds 200 t 200 m s ht (by decide) hpl ch hch
    obtain ⟨hp, _⟩ := mak_put hg ch hch
    have h12 := encC (v := (makS s ch).1) hds ht ho hp
    have h13 := nichesC hds ht ho
    have h14 := wordsC hds ht ho
    have hlen := put_len hg hp
    obtain ⟨hr, hcl⟩ := put_first hg _ hp
    have hnb := niches_bd hg
    generalize makS s ch = mk at *
    obtain ⟨v, cr⟩ := mk
    have h11 : CallsT P 11 [.sl (ds.map dataC), tyA t, .sl (u16s ch)] [] (Ret [] (.tup [valA v, .sl (u16s cr)])) := h11
    have h12 : CallsT P 12 [.sl (ds.map dataC), tyA t, valA v] [] (Ret [] (.tup [.sl (ics (putM s v).1), IC 0])) := h12
    have hlen : ((putM s v).1.length : Int) = s.words := hlen
    have hr : InR (putM s v).1 := hr
    have hcl : Clear s.niches (putM s v).1 := hcl
    generalize (putM s v).1 = w at *
    have hwm : (ics w).length = w.length := icsLen w
    have hwz := words_bd hg
    refine callsT_facts Tryd.func3 facts3 rfl fun hw _ => ?_
    refine callP t8 rfl fun _ => ?_
    refine callB (t9 ds t) rfl fun b _ => ?_
    refine brn_split (fun hb => ?_) (fun hb => ?_)
    · exact retP rfl rfl
    refine callP h10 rfl fun _ => ?_
    refine callP h11 rfl fun _ => ?_
    refine callP h12 rfl fun _ => ?_
    refine callP h13 rfl fun _ => ?_
    refine callP h14 rfl fun _ => ?_
    refine brn_split (fun q => ?_) (fun q => ?_)
    · exact absurd hlen (by rw [← hwm]; simpa using q)
    refine brn_p (fun q => absurd q (by omega)) (fun q2 => ?_)
    refine loopN w.length 13 [] () (fun _ => []) (fun _ => [(4, .box 25 [IC t.kind, IC t.id, .sl (t.args.map tyC)]), (8, .box 32 (valL v))]) (fun _ _ => True) trivial (same_keys rfl) trivial ⟨.inl ⟨_, rfl, .inl ⟨rfl, rfl⟩⟩, .inl ⟨_, rfl, .inl ⟨rfl, rfl⟩⟩, trivial⟩ (fun _ => rfl) (fun _ => rfl) ?_
    rintro j _ hj _ _ _ _
    refine brn_p (fun hlt => ?_) (fun hge => ?_)
    · have hlt : j < w.length := by omega
      refine withGet hlt fun x hx hxm => ?_
      have hxr := hr x hxm
      refine idxI hx ?_
      refine brn_p (fun q => absurd q (by omega)) (fun _ => ?_)
      refine idxI hx ?_
      refine brn_p (fun q => absurd q (by omega)) (fun _ => ?_)
      refine Fit.in64 (by omega) (by omega) ?_
      exact ⟨(j + 1, ()), ⟨hlt, trivial⟩, ⟨nextI, trivial⟩, ⟨.inl ⟨_, rfl, .inl ⟨rfl, rfl⟩⟩, .inl ⟨_, rfl, .inl ⟨rfl, rfl⟩⟩, trivial⟩, nextM hlt⟩
    · refine brn_p (fun q => ?_) (fun q => ?_)
      · exact retP rfl rfl
      refine exE (hcl (by omega)) fun x hx => ?_
      refine exE hx fun r hx => ?_
      have hx0 : w[0]? = some x := by rw [hx.1]; rfl
      have hwp : 0 < w.length := by rw [hx.1]; simp
      refine brn_p (fun _ => ?_) (fun q => absurd (by omega) q)
      refine idxI (k := 0) hx0 ?_
      refine brn_p (fun _ => ?_) (fun q => absurd hx.2.1 q)
      refine idxI (k := 0) hx0 ?_
      refine Fit.in64 (by omega) (by omega) ?_
      have e : C.bool (decide (x < 65536 - s.niches)) = .bool true := by rw [decide_eq_true hx.2.2]
      exact retP rfl e
  · have h10 := hasC hds ht false (decide_eq_false hl)
    refine callsT_facts Tryd.func3 facts3 rfl fun hw _ => ?_
    refine callP t8 rfl fun _ => ?_
    refine callB (t9 ds t) rfl fun b _ => ?_
    refine brn_split (fun hb => ?_) (fun hb => ?_)
    · exact retP rfl rfl
    refine callP h10 rfl fun _ => ?_
    exact retP rfl rfl
end Go.Fr.Tryd

/- Layout: the statement on inverses, walked. -/
set_option linter.unusedVariables false
set_option linter.unusedSimpArgs false
namespace Go.Fr.Tryd
open Go Go.RowKit Go.Proofs Go.Fr Go.Fr.T Go.Fr.Api

theorem decC {ds : List Api.Data} {t : Ty} {w : List Int} {r : Val × Int} (hds : DsB ds) (ht : TyB t) (h : decM ds t w = r) :
    CallsT P 15 [.sl (ds.map dataC), tyA t, .sl (ics w)] [] (Ret [] (.tup [valA r.1, IC r.2])) := by
  have h1 := t15 ds hds t ht w
  rw [h] at h1; exact h1
theorem decM_ok {ds : List Api.Data} {t : Ty} {s : Sh} {v : Val} {w : List Int} (h : planO ds t = some s) (hl : (w.length : Int) = s.words) (hg : getM s w = (v, true)) : decM ds t w = (v, 0) := by
  rw [decM, h]
  show (if (w.length : Int) = s.words then if (getM s w).2 then ((getM s w).1, 0) else (valZ, 16) else (valZ, 16)) = _
  rw [if_pos hl, hg]; rfl
theorem decM_no {ds : List Api.Data} {t : Ty} {s : Sh} {w : List Int} (h : planO ds t = some s) (hl : ¬ (w.length : Int) = s.words ∨ ¬ (getM s w).2 = true) : decM ds t w = (valZ, 16) := by
  rw [decM, h]
  show (if (w.length : Int) = s.words then if (getM s w).2 then ((getM s w).1, 0) else (valZ, 16) else (valZ, 16)) = _
  rcases hl with hl | hl
  · rw [if_neg hl]
  · rw [if_neg hl]; split <;> rfl
set_option maxRecDepth 10000 in
theorem t4 (ds : List Api.Data) (hds : DsB ds) (t : Ty) (ht : TyB t) (ch : List Int) (hch : ChB ch) (ws : List Int) : CallsT P 4 [.sl (ds.map dataC), tyA t, .sl (u16s ch), .sl (ics ws)] [] (Ret [] (.bool true)) := by
  by_cases hl : 0 ≤ left ds 200 t 200
  · have h10 := hasC hds ht true (decide_eq_true hl)
    obtain ⟨s, ho, hg, hc, m, hpl⟩ := planO_of_left hl
    have h11 := t11 ds hds 200 t 200 m s ht (by decide) hpl ch hch
    obtain ⟨hp, hcan⟩ := mak_put hg ch hch
    have h12 := encC (v := (makS s ch).1) hds ht ho hp
    have hlen := put_len hg hp
    have hgp := get_put hg _ hcan hp
    have h15 := decC hds ht (decM_ok ho hlen hgp)
    have h16 := t16 (makS s ch).1
    have hws : (∃ y, decM ds t ws = (y, 0) ∧ (putM s y) = (ws, true)) ∨ decM ds t ws = (valZ, 16) := by
      by_cases q1 : (ws.length : Int) = s.words
      · by_cases q2 : (getM s ws).2 = true
        · exact .inl ⟨(getM s ws).1, decM_ok ho q1 (by rw [← q2]), put_get hg ws q1 q2⟩
        · exact .inr (decM_no ho (.inr q2))
      · exact .inr (decM_no ho (.inl q1))
    generalize makS s ch = mk at *
    obtain ⟨v, cr⟩ := mk
    have h11 : CallsT P 11 [.sl (ds.map dataC), tyA t, .sl (u16s ch)] [] (Ret [] (.tup [valA v, .sl (u16s cr)])) := h11
    have h12 : CallsT P 12 [.sl (ds.map dataC), tyA t, valA v] [] (Ret [] (.tup [.sl (ics (putM s v).1), IC 0])) := h12
    have h15 : CallsT P 15 [.sl (ds.map dataC), tyA t, .sl (ics (putM s v).1)] [] (Ret [] (.tup [valA v, IC 0])) := h15
    have h16 : CallsT P 16 [valA v, valA v] [] (Ret [] (.bool true)) := h16
    generalize (putM s v).1 = w at *
    rcases hws with ⟨y, hy, hpy⟩ | hno
    · have h15b := decC hds ht hy
      have h12b := encC (v := y) hds ht ho (by rw [hpy])
      rw [hpy] at h12b
      refine callsT_facts Tryd.func4 facts4 rfl fun hw _ => ?_
      refine callP t8 rfl fun _ => ?_
      refine callB (t9 ds t) rfl fun b _ => ?_
      refine brn_split (fun hb => ?_) (fun hb => ?_)
      · exact retP rfl rfl
      refine callP h10 rfl fun _ => ?_
      refine brn_p (fun q => ?_) (fun q => ?_)
      · exact retP rfl rfl
      refine callP h11 rfl fun _ => ?_
      refine callP h12 rfl fun _ => ?_
      refine callP h15 rfl fun _ => ?_
      refine callP h16 rfl fun _ => ?_
      refine callP h15b rfl fun _ => ?_
      refine callP h12b rfl fun _ => ?_
      refine callP (t17 ws) rfl fun _ => ?_
      exact retP rfl rfl
    · have h15b := decC hds ht hno
      refine callsT_facts Tryd.func4 facts4 rfl fun hw _ => ?_
      refine callP t8 rfl fun _ => ?_
      refine callB (t9 ds t) rfl fun b _ => ?_
      refine brn_split (fun hb => ?_) (fun hb => ?_)
      · exact retP rfl rfl
      refine callP h10 rfl fun _ => ?_
      refine brn_p (fun q => ?_) (fun q => ?_)
      · exact retP rfl rfl
      refine callP h11 rfl fun _ => ?_
      refine callP h12 rfl fun _ => ?_
      refine callP h15 rfl fun _ => ?_
      refine callP h16 rfl fun _ => ?_
      refine callP h15b rfl fun _ => ?_
      exact retP rfl rfl
  · have h10 := hasC hds ht false (decide_eq_false hl)
    refine callsT_facts Tryd.func4 facts4 rfl fun hw _ => ?_
    refine callP t8 rfl fun _ => ?_
    refine callB (t9 ds t) rfl fun b _ => ?_
    refine brn_split (fun hb => ?_) (fun hb => ?_)
    · exact retP rfl rfl
    refine callP h10 rfl fun _ => ?_
    exact retP rfl rfl
end Go.Fr.Tryd

/- Layout: the statement on lengths, walked. -/
set_option linter.unusedVariables false
set_option linter.unusedSimpArgs false
namespace Go.Fr.Tryd
open Go Go.RowKit Go.Proofs Go.Fr Go.Fr.T Go.Fr.Api
theorem slInit {w : List Int} : C.sl (((ics w).drop (0 : Int).toNat).take ((((ics w).length : Int) - 1).toNat - (0 : Int).toNat)) = C.sl (ics (w.take (w.length - 1))) := by
  have h0 : ((0 : Int)).toNat = 0 := rfl
  rw [h0, List.drop_zero, Nat.sub_zero, ics_take, icsLen]
  have : ((w.length : Int) - 1).toNat = w.length - 1 := by omega
  rw [this]
set_option maxRecDepth 10000 in
theorem t6 (ds : List Api.Data) (hds : DsB ds) (t : Ty) (ht : TyB t) (ch : List Int) (hch : ChB ch) (wd : Int) : CallsT P 6 [.sl (ds.map dataC), tyA t, .sl (u16s ch), IC wd] [] (Ret [] (.bool true)) := by
  by_cases hl : 0 ≤ left ds 200 t 200
  · have h10 := hasC hds ht true (decide_eq_true hl)
    obtain ⟨s, ho, hg, hc, m, hpl⟩ := planO_of_left hl
    have h11 := t11 ds hds 200 t 200 m s ht (by decide) hpl ch hch
    obtain ⟨hp, hcan⟩ := mak_put hg ch hch
    have h12 := encC (v := (makS s ch).1) hds ht ho hp
    have hlen := put_len hg hp
    have hwz := words_bd hg
    generalize makS s ch = mk at *
    obtain ⟨v, cr⟩ := mk
    have h11 : CallsT P 11 [.sl (ds.map dataC), tyA t, .sl (u16s ch)] [] (Ret [] (.tup [valA v, .sl (u16s cr)])) := h11
    have h12 : CallsT P 12 [.sl (ds.map dataC), tyA t, valA v] [] (Ret [] (.tup [.sl (ics (putM s v).1), IC 0])) := h12
    have hlen : ((putM s v).1.length : Int) = s.words := hlen
    generalize (putM s v).1 = w at *
    have h15a := decC hds ht (decM_no (w := w ++ [wd]) ho (.inl (by rw [List.length_append, List.length_singleton]; omega)))
    have hwm : (ics w).length = w.length := icsLen w
    have h15b := fun (hpos : 0 < w.length) => decC hds ht (decM_no (w := w.take (w.length - 1)) ho (.inl (by rw [List.length_take]; omega)))
    refine callsT_facts Tryd.func6 facts6 rfl fun hw _ => ?_
    refine callP t8 rfl fun _ => ?_
    refine callB (t9 ds t) rfl fun b _ => ?_
    refine brn_split (fun hb => ?_) (fun hb => ?_)
    · exact retP rfl rfl
    refine callP h10 rfl fun _ => ?_
    refine callP h11 rfl fun _ => ?_
    refine callP h12 rfl fun _ => ?_
    refine appI (a := []) (b := w) (by simp; omega) ?_
    refine appI (a := w) (b := [wd]) (by simp; omega) ?_
    refine callDR 49 h15a ⟨_, Tryd.func15, rfl, rfl⟩ rfl (by rw [← rowI]; rfl) fun _ => ?_
    refine brn_p (fun q => ?_) (fun q => ?_)
    · exact retP rfl rfl
    have hpos : 0 < w.length := by omega
    refine Fit.in64 (by omega) (by omega) ?_
    refine SlcT.mk (by decide) (by omega) (by omega) szI ?_
    refine callPD (h15b hpos) (by rw [← slInit]; rfl) fun _ => ?_
    exact retP rfl rfl
  · have h10 := hasC hds ht false (decide_eq_false hl)
    refine callsT_facts Tryd.func6 facts6 rfl fun hw _ => ?_
    refine callP t8 rfl fun _ => ?_
    refine callB (t9 ds t) rfl fun b _ => ?_
    refine brn_split (fun hb => ?_) (fun hb => ?_)
    · exact retP rfl rfl
    refine callP h10 rfl fun _ => ?_
    exact retP rfl rfl
end Go.Fr.Tryd

/- Layout: what the package's variable holds. -/
set_option linter.unusedVariables false
set_option linter.unusedSimpArgs false
namespace Go.Fr.Tryd
open Go Go.RowKit Go.Proofs Go.Fr Go.WideMaps
theorem mem_insert {H : Type} {x q : Lit × DataW H} : ∀ {l : List (Lit × DataW H)}, q ∈ DataW.insert x l ↔ q = x ∨ q ∈ l
  | [] => by simp [DataW.insert]
  | y :: r => by
    simp only [DataW.insert]
    split
    · simp
    · simp only [List.mem_cons, mem_insert (l := r)]
      constructor
      · rintro (h | h | h)
        · exact .inr (.inl h)
        · exact .inl h
        · exact .inr (.inr h)
      · rintro (h | h | h)
        · exact .inr (.inl h)
        · exact .inl h
        · exact .inr (.inr h)
theorem mem_sorted {H : Type} {q : Lit × DataW H} : ∀ {l : List (Lit × DataW H)}, q ∈ l.foldr DataW.insert [] ↔ q ∈ l
  | [] => by simp
  | y :: r => by rw [List.foldr_cons, mem_insert, mem_sorted (l := r)]; simp
abbrev d3 : List (Lit × DataW Unit) := [(.int .i64 3, .lit (.int .i64 3)), (.int .i64 4, .lit (.int .i64 4)), (.int .i64 6, .lit (.int .i64 5))]
theorem look_list {n : Int} : ∀ {l : List MapEntry} (i : Nat), (∀ e ∈ l, ∃ m, e.key = .int .i64 m ∧ e.val = .int .i64 (look1 m)) →
    (∃ o, Instr.findNow (.int .i64) (.int .i64 n) l i = some o ∧ ((∃ j, o = some (j, .int .i64 (look1 n))) ∨ (o = none ∧ ∀ e ∈ l, e.key ≠ .int .i64 n)))
  | [], i, _ => ⟨none, rfl, .inr ⟨rfl, fun e h => by cases h⟩⟩
  | e :: l, i, h => by
    obtain ⟨m, h1, h2⟩ := h e (by simp)
    rw [Instr.findNow, h1, Instr.sameNow, if_pos rfl]
    by_cases hm : n = m
    · subst hm
      refine ⟨some (i, e.val), by simp, .inl ⟨i, by rw [h2]⟩⟩
    · have : (n == m) = false := by simpa using hm
      rw [this]
      obtain ⟨o, h3, h4⟩ := look_list (n := n) (l := l) (i + 1) fun x hx => h x (by simp [hx])
      refine ⟨o, h3, h4.imp id fun ⟨a, b⟩ => ⟨a, fun x hx => ?_⟩⟩
      rcases List.mem_cons.1 hx with rfl | hx
      · rw [h1]
        intro q
        injection q with _ q
        exact hm q.symm
      · exact b x hx
theorem u3 : Tryd.prog.underlying 3 = some (.int .i64) := by kernel_rfl
theorem u89 : Tryd.prog.underlying 89 = some (.int .i64) := by kernel_rfl
theorem key3 {v : Value} {l : Lit} (h : keyOf Tryd.prog 3 v = some l) : ∃ m, v = .int .i64 m ∧ l = .int .i64 m := by
  have hk : keyOf Tryd.prog 3 v = mapKey Tryd.prog 3 v := by simp only [keyOf, u3]
  rw [hk] at h
  cases v with
  | int q n =>
    simp only [mapKey, u3] at h
    split at h
    · rename_i hc
      injection h with h
      exact ⟨n, by rw [hc.1], h.symm⟩
    · cases h
  | _ => simp [mapKey, u3] at h
theorem map_look {es : Array MapEntry} {clock : Nat} (F : WideMaps.Fit Unit Tryd.prog 3 .i64 es clock) (hx : (es.toList.map (rg Unit Tryd.prog 3 .i64)).foldr DataW.insert [] = d3) : LookP es := by
  have h1 : ∀ e ∈ es.toList, rg Unit Tryd.prog 3 .i64 e ∈ d3 := fun e he => by
    rw [← hx, mem_sorted]; exact List.mem_map_of_mem he
  have h2 : ∀ q ∈ d3, ∃ e ∈ es.toList, rg Unit Tryd.prog 3 .i64 e = q := fun q hq => by
    rw [← hx, mem_sorted] at hq
    obtain ⟨e, a, b⟩ := List.mem_map.1 hq
    exact ⟨e, a, b⟩
  have h3 : ∀ e ∈ es.toList, ∃ m v, e.key = .int .i64 m ∧ e.val = .int .i64 v ∧ rg Unit Tryd.prog 3 .i64 e = (.int .i64 m, .lit (.int .i64 v)) := by
    intro e he
    obtain ⟨y, hy⟩ := F.reads e he
    obtain ⟨m, k1, k2⟩ := key3 (rd_key hy)
    obtain ⟨v, v1, v2, _⟩ := rd_val hy
    refine ⟨m, v, k1, v1, ?_⟩
    rw [rg_of hy]
    exact Prod.ext k2 v2
  have h4 : ∀ e ∈ es.toList, ∃ m, e.key = .int .i64 m ∧ e.val = .int .i64 (look1 m) ∧ has1 m = true := by
    intro e he
    obtain ⟨m, v, a, b, c⟩ := h3 e he
    have := h1 e he
    rw [c] at this
    simp only [d3, List.mem_cons, Prod.mk.injEq, Lit.int.injEq, DataW.lit.injEq, true_and, List.not_mem_nil, or_false] at this
    rcases this with ⟨rfl, rfl⟩ | ⟨rfl, rfl⟩ | ⟨rfl, rfl⟩ <;> exact ⟨_, a, b, by decide⟩
  have h5 : ∀ n, has1 n = true → ∃ e ∈ es.toList, e.key = .int .i64 n := by
    intro n hn
    have hq : (Lit.int .i64 n, (DataW.lit (.int .i64 (look1 n)) : DataW Unit)) ∈ d3 := by
      rw [has1] at hn
      simp only [Bool.or_eq_true, decide_eq_true_eq] at hn
      rcases hn with (rfl | rfl) | rfl <;> simp [d3, look1]
    obtain ⟨e, he, hr⟩ := h2 _ hq
    obtain ⟨m, v, a, b, c⟩ := h3 e he
    rw [c] at hr
    injection hr with hr _
    injection hr with _ hr
    exact ⟨e, he, by rw [a, hr]⟩
  refine ⟨?_, fun n => ?_⟩
  · obtain ⟨e, he, _⟩ := h5 3 (by decide)
    cases hl : es.isEmpty with
    | false => rfl
    | true =>
      rw [Array.isEmpty_iff] at hl
      rw [hl] at he
      cases he
  · obtain ⟨o, a, b⟩ := look_list (n := n) (l := es.toList) 0 fun e he => by
      obtain ⟨m, x, y, _⟩ := h4 e he
      exact ⟨m, x, y⟩
    refine ⟨o, a, ?_⟩
    cases hn : has1 n with
    | true =>
      rcases b with ⟨j, hj⟩ | ⟨_, hno⟩
      · exact .inl ⟨rfl, j, hj⟩
      · obtain ⟨e, he, hk⟩ := h5 n hn
        exact absurd hk (hno e he)
    | false =>
      have hz : look1 n = 0 := by
        rw [has1] at hn
        simp only [Bool.or_eq_false_iff, decide_eq_false_iff_not] at hn
        rw [look1, if_neg hn.1.1, if_neg hn.1.2, if_neg hn.2]
      refine .inr ⟨rfl, hz, ?_⟩
      rcases b with ⟨j, hj⟩ | ⟨ho, _⟩
      · exfalso
        have hmem : ∀ {l : List MapEntry} {i : Nat}, (∀ e ∈ l, ∃ m, e.key = .int .i64 m ∧ has1 m = true) → Instr.findNow (.int .i64) (.int .i64 n) l i = some o → o = none := by
          intro l
          induction l with
          | nil => intro i _ h; exact (Option.some.inj h).symm
          | cons e l ih =>
            intro i hl h
            obtain ⟨m, k1, k2⟩ := hl e (by simp)
            rw [Instr.findNow, k1, Instr.sameNow, if_pos rfl] at h
            have hne : (n == m) = false := by
              rw [beq_eq_false_iff_ne]
              intro q; rw [q, k2] at hn; cases hn
            rw [hne] at h
            exact ih (fun e he => hl e (by simp [he])) h
        have := hmem (fun e he => by obtain ⟨m, x, _, z⟩ := h4 e he; exact ⟨m, x, z⟩) a
        rw [hj] at this; cases this
      · exact ho
theorem gVals : Tryd.prog.globalNamed "leasehold/layout.values" = some 0 := by kernel_rfl
theorem tVals : (Tryd.prog.globals[0]?).map (·.type) = some 91 := by kernel_rfl
theorem u91 : Tryd.prog.underlying 91 = some (.map 3 89) := by kernel_rfl
open Go.Proofs.YtjobilmjlmeohaaDoor in
theorem glob_of_laid {W : World} (h : laidMetH Tryd.prog [("leasehold/layout.values", Rows.laid_leasehold_layout_values)] W) : Glob (frzOf W) := by
  rw [MakeChecks.laidMetH_plain _ _ _ (by kernel_rfl)] at h
  obtain ⟨ps, ⟨g0, t0, cs0, f0, p0, q0, hg0, ht0, hv0, hd0, _, _⟩, _, _⟩ := h
  obtain rfl := Option.some.inj (gVals.symm.trans hg0)
  obtain rfl := Option.some.inj (tVals.symm.trans ht0)
  rcases open_map u91 u89 hd0 with ⟨_, hx⟩ | ⟨bm, es, clock, hcs, hb, _, F, hx⟩
  · injection hx with hx _
    cases hx
  injection hx with hx _
  simp only [Rows.laid_leasehold_layout_values, DataW.map.injEq] at hx
  simp only [World.var?, hg0, Option.bind_some] at hv0
  split at hv0
  · rename_i cs t fr he
    injection hv0 with hv0
    subst hv0
    refine ⟨.map (some bm), t, fr, ?_, .inr ⟨rfl, bm, es, clock, rfl, hb, map_look F hx.symm⟩⟩
    show W.heap[0]? = _
    rw [he]
    have : cs = #[.map (some bm)] := by
      apply Array.ext'
      rw [hcs]
    rw [this]
  · cases hv0
end Go.Fr.Tryd
