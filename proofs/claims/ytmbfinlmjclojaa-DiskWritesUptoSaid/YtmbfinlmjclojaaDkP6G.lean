/- Part of the proofs of the statements of this seat. -/
import Derived.Test.YtmbfinlmjclojaaDkP3G
/- Disk: what an append leaves, cut anywhere, in the plain model. -/
set_option linter.unusedVariables false
set_option linter.unusedSimpArgs false
namespace Go.Fr.Try
open Go Go.RowKit Go.Proofs Go.Fr Go.Fr.T
theorem pres_le (d : List (List UInt8)) : presD d ≤ 1 := by unfold presD; split <;> omega
/-- a disk that has the records and the generation of another -/
structure Keeps (d d' : List (List UInt8)) : Prop where
  valid : validD d' = true
  len : d'.length = d.length
  pres : presD d' = presD d
  gen : gen0 d' = gen0 d
  recs : parse (spaceD d' (presD d)) = parse (spaceD d (presD d))
theorem Keeps.refl {d : List (List UInt8)} (h : validD d = true) : Keeps d d := ⟨h, rfl, rfl, rfl, rfl⟩
theorem Keeps.recsD {d d' : List (List UInt8)} (k : Keeps d d') (h : validD d = true) : recsD d' = recsD d := by
  unfold Try.recsD
  rw [if_pos h, if_pos k.valid, k.pres, k.recs]
theorem head_congr {d d' : List (List UInt8)} {h : Nat} (hl : d'.length = d.length) (hp : d'[h * (d.length / 2)]? = d[h * (d.length / 2)]?) : headP d' h = headP d h := by
  unfold headP
  rw [hl, hp]
theorem pres_congr {d d' : List (List UInt8)} (h0 : headP d' 0 = headP d 0) (h1 : headP d' 1 = headP d 1) : presD d' = presD d ∧ gen0 d' = gen0 d := by
  have e : presD d' = presD d := by unfold presD; rw [h0, h1]
  refine ⟨e, ?_⟩
  unfold gen0
  rw [e]
  have := pres_le d
  rcases (show presD d = 0 ∨ presD d = 1 by omega) with h | h <;> rw [h] <;> simp only [h0, h1]
/-- only the space of a half has changed -/
theorem heads_of {d d' : List (List UInt8)} {h : Nat} (hh : h ≤ 1) (hl : d'.length = d.length) (hp : ∀ p : Nat, p ≤ h * (d.length / 2) ∨ h * (d.length / 2) + d.length / 2 ≤ p → d'[p]? = d[p]?) : headP d' 0 = headP d 0 ∧ headP d' 1 = headP d 1 := by
  refine ⟨head_congr hl (hp _ (by omega)), head_congr hl (hp _ ?_)⟩
  rcases (show h = 0 ∨ h = 1 by omega) with rfl | rfl <;> omega
theorem overlay_take (s b : List UInt8) (k x : Nat) (hk : k ≤ s.length) (hx : x ≤ k) : (overlay s k b).take x = s.take x := by
  unfold overlay
  rw [List.append_assoc, List.take_append_of_le_length (by rw [List.length_take]; omega), List.take_take, Nat.min_eq_left hx]
theorem overlay_drop (s b : List UInt8) (k : Nat) (hk : k ≤ s.length) : (overlay s k b).drop k = b.take (s.length - k) ++ s.drop (k + min b.length (s.length - k)) := by
  unfold overlay
  rw [List.append_assoc, List.drop_left' (by rw [List.length_take]; omega)]
theorem overlay_whole (s b : List UInt8) (k : Nat) (hk : k ≤ s.length) : (overlay s k b).take (k + min b.length (s.length - k)) ++ s.drop (k + min b.length (s.length - k)) = overlay s k b := by
  have h : (s.take k ++ b.take (s.length - k)).length = k + min b.length (s.length - k) := by
    rw [List.length_append, List.length_take, List.length_take]; omega
  unfold overlay
  rw [List.take_left' h]
theorem pre_same {O s : List UInt8} {x : Nat} (h : O.take x = s.take x) : O.take x ++ s.drop x = s := by rw [h, List.take_append_drop]
theorem parse_at0 {s S : List UInt8} (h : S.take (parse s).2 = s.take (parse s).2) (h0 : S[(parse s).2]? = some 0) : parse S = parse s := by
  refine parse_off h fun x t e => ?_
  have : (S.drop (parse s).2)[0]? = some x := by rw [e]; rfl
  rw [List.getElem?_drop, Nat.add_zero, h0] at this
  exact (Option.some.inj this).symm
theorem drop_get0 {S t : List UInt8} {k : Nat} {x : UInt8} (h : S.drop k = x :: t) : S[k]? = some x := by
  have : (S.drop k)[0]? = some x := by rw [h]; rfl
  rwa [List.getElem?_drop, Nat.add_zero] at this
theorem take_at {s O T : List UInt8} {k x : Nat} (hx : k ≤ x) (hl : x ≤ O.length) : (O.take x ++ T).take k = O.take k := by
  rw [List.take_append_of_le_length (by rw [List.length_take]; omega), List.take_take, Nat.min_eq_left hx]
theorem get_at {O T : List UInt8} {k x : Nat} (hx : k < x) (hl : x ≤ O.length) : (O.take x ++ T)[k]? = O[k]? := by
  rw [List.getElem?_append_left (by rw [List.length_take]; omega), List.getElem?_take, if_pos hx]
theorem applyAll_app (d : List (List UInt8)) (l m : List Wri) : applyAll d (l ++ m) = applyAll (applyAll d l) m := applyAll_append d l m
/-- the writes of an append that can be done, and where it writes -/
theorem append_eq {d : List (List UInt8)} {r : List UInt8} (he : (appendD d r).2 = 0) : validD d = true ∧ r.length ≤ 65535 ∧ (parse (spaceD d (presD d))).2 + 3 + r.length ≤ (spaceD d (presD d)).length ∧
    (appendD d r).1 = coverW (presD d * (d.length / 2) + 1) (spaceD d (presD d)) (parse (spaceD d (presD d))).2 (frameB 0 r ++ [0]) ++ coverW (presD d * (d.length / 2) + 1) (spaceD d (presD d)) (parse (spaceD d (presD d))).2 [1] := by
  unfold appendD at he ⊢
  split at he
  · cases he
  · rename_i h1
    rw [if_neg h1]
    split at he
    · cases he
    · rename_i h2
      rw [if_neg h2]
      refine ⟨?_, by omega, by omega, rfl⟩
      cases hv : validD d
      · exact absurd (.inl hv) h1
      · rfl
theorem append_ok {d : List (List UInt8)} {r : List UInt8} (he : (appendD d r).2 = 0) :
    (∀ w ∈ (appendD d r).1, okW d w = true) ∧ 0 < bytesW (appendD d r).1 ∧ (∀ n, n < bytesW (appendD d r).1 → Keeps d (applyAll d (part (appendD d r).1 n))) ∧
    ∀ d', d' = applyAll d (appendD d r).1 → validD d' = true ∧ d'.length = d.length ∧ (∀ p : Nat, p ≤ presD d * (d.length / 2) ∨ presD d * (d.length / 2) + d.length / 2 ≤ p → d'[p]? = d[p]?) ∧
      (spaceD d' (presD d)).take (parse (spaceD d (presD d))).2 = (spaceD d (presD d)).take (parse (spaceD d (presD d))).2 ∧ (parse (spaceD d' (presD d))).1 = (parse (spaceD d (presD d))).1 ++ [r] := by
  obtain ⟨hv, hr, hroom, el⟩ := append_eq he
  rw [el]
  have hh := pres_le d
  have hps := parse_split (spaceD d (presD d)).length (spaceD d (presD d)) (Nat.le_refl _)
  have hfl : (frameB 0 r ++ [0]).length = r.length + 4 := by rw [List.length_append, frameB_len]; simp; omega
  have hfe : frameB 0 r ++ [0] = 0 :: UInt8.ofNat (r.length / 256) :: UInt8.ofNat (r.length % 256) :: (r ++ [0]) := rfl
  have c1 := fun n => cover_part (d1 := d) (n := n) (b := frameB 0 r ++ [0]) hv hh (a := (parse (spaceD d (presD d))).2) (by omega) (by omega) hv rfl rfl
  have hk := fun x => @parse_at0 (spaceD d (presD d)) x
  generalize hS : spaceD d (presD d) = s at hroom hps c1 hk ⊢
  generalize hA : parse s = PS at hroom hps c1 hk ⊢
  obtain ⟨recs, a⟩ := PS
  simp only at hroom hps c1 hk ⊢
  rw [hfl] at c1
  obtain ⟨b1, o1, -⟩ := c1 0
  have hO1l : (overlay s a (frameB 0 r ++ [0])).length = s.length := overlay_len (by omega)
  have hO1t : ∀ x, x ≤ a → (overlay s a (frameB 0 r ++ [0])).take x = s.take x := fun x => overlay_take _ _ _ _ (by omega)
  have hO1d : (overlay s a (frameB 0 r ++ [0])).drop a = _ := overlay_drop s (frameB 0 r ++ [0]) a (by omega)
  have hO1w := overlay_whole s (frameB 0 r ++ [0]) a (by omega)
  rw [hfl] at hO1w hO1d
  have hO10 : (overlay s a (frameB 0 r ++ [0]))[a]? = some 0 := by
    obtain ⟨m, hm⟩ : ∃ m, s.length - a = m + 1 := ⟨s.length - a - 1, by omega⟩
    have e0 := hO1d
    rw [hfe, hm, List.take_succ_cons, List.cons_append] at e0
    rw [hfe]
    exact drop_get0 e0
  -- the state behind the first covering
  obtain ⟨f1, f2, f3, f4⟩ := (c1 (a + min (r.length + 4) (s.length - a) - a / 256 * 256)).2.2 (Nat.le_refl _) _ rfl
  rw [part_all _ _ (by rw [b1]; exact Nat.le_refl _)] at f1 f2 f3 f4
  rw [show a / 256 * 256 + (a + min (r.length + 4) (s.length - a) - a / 256 * 256) = a + min (r.length + 4) (s.length - a) by omega, hO1w] at f4
  have c2 := fun n => cover_part (d1 := applyAll d (coverW (presD d * (d.length / 2) + 1) s a (frameB 0 r ++ [0]))) (n := n) (b := [1]) hv hh (a := a) (by rw [hS]; omega) (Nat.zero_lt_one) f1 f2 (by rw [f4, hS]; exact hO1t a (Nat.le_refl _))
  rw [hS] at c2
  generalize hd1 : applyAll d (coverW (presD d * (d.length / 2) + 1) s a (frameB 0 r ++ [0])) = d1 at f1 f2 f3 f4 c2 ⊢
  obtain ⟨b2, o2, -⟩ := c2 0
  have e1 : min (List.length ([1] : List UInt8)) (s.length - a) = 1 := by simp; omega
  rw [e1] at b2
  simp only [e1, f4] at c2
  have hO2t : ∀ x, x ≤ a → (overlay s a [1]).take x = s.take x := fun x => overlay_take _ _ _ _ (by omega)
  have hO2l : (overlay s a [1]).length = s.length := overlay_len (by omega)
  have hheads : ∀ d' : List (List UInt8), d'.length = d.length → (∀ p : Nat, p ≤ presD d * (d.length / 2) ∨ presD d * (d.length / 2) + d.length / 2 ≤ p → d'[p]? = d[p]?) → presD d' = presD d ∧ gen0 d' = gen0 d := fun d' h1 h2 => by
    obtain ⟨g0, g1⟩ := heads_of hh h1 h2
    exact pres_congr g0 g1
  refine ⟨?_, ?_, ?_, ?_⟩
  · intro w hw
    rcases List.mem_append.1 hw with hw | hw
    · exact o1 w hw
    · exact o2 w hw
  · rw [bytesW_app, b1]; omega
  · intro n hn
    rw [bytesW_app, b1, b2] at hn
    rw [part_app, b1]
    split
    · rename_i hlt
      obtain ⟨g1, g2, g3, g4⟩ := (c1 n).2.2 (by omega) _ rfl
      obtain ⟨p1, p2⟩ := hheads _ g2 g3
      refine ⟨g1, g2, p1, p2, ?_⟩
      rw [g4, hS, hA]
      by_cases hx : a / 256 * 256 + n ≤ a
      · rw [pre_same (hO1t _ hx), hA]
      · refine hk _ ?_ ?_
        · rw [take_at (s := s) (by omega) (by omega)]; exact hO1t a (Nat.le_refl _)
        · rw [get_at (by omega) (by omega)]; exact hO10
    · rename_i hge
      rw [applyAll_app, hd1]
      obtain ⟨g1, g2, g3, g4⟩ := (c2 (n - (a + min (r.length + 4) (s.length - a) - a / 256 * 256))).2.2 (by omega) _ rfl
      have g3' := fun p hp => (g3 p hp).trans (f3 p hp)
      obtain ⟨p1, p2⟩ := hheads _ g2 g3'
      refine ⟨g1, g2, p1, p2, ?_⟩
      rw [g4, hS, hA, pre_same (by rw [hO2t _ (by omega), hO1t _ (by omega)])]
      exact hk _ (hO1t a (Nat.le_refl _)) hO10
  · intro d' hd'
    rw [applyAll_app, hd1] at hd'
    obtain ⟨g1, g2, g3, g4⟩ := (c2 (a + 1 - a / 256 * 256)).2.2 (Nat.le_refl _) d' (by rw [part_all _ _ (by rw [b2]; exact Nat.le_refl _)]; exact hd')
    rw [show a / 256 * 256 + (a + 1 - a / 256 * 256) = a + 1 by omega] at g4
    refine ⟨g1, g2, fun p hp => (g3 p hp).trans (f3 p hp), ?_, ?_⟩
    · rw [g4, take_at (s := s) (by omega) (by omega)]; exact hO2t a (Nat.le_refl _)
    · have hst : s.take a = framesB recs := by
        have := congrArg (List.take a) hps.1
        rw [List.take_left' hps.2.1] at this
        exact this
      have h2 : (overlay s a [1]).take (a + 1) = s.take a ++ [1] := by
        have : (s.take a ++ [1]).length = a + 1 := by rw [List.length_append, List.length_take]; simp; omega
        unfold overlay
        rw [List.take_of_length_le (l := [1]) (by simp; omega), List.take_left' this]
      have h3 : (overlay s a (frameB 0 r ++ [0])).drop (a + 1) = (frameB 1 r).drop 1 ++ (([0] : List UInt8).take (s.length - a - (3 + r.length)) ++ s.drop (a + min (r.length + 4) (s.length - a))) := by
        rw [← List.drop_drop, hO1d, List.take_append, frameB_len, List.take_of_length_le (l := frameB 0 r) (by rw [frameB_len]; omega), List.append_assoc]
        rfl
      rw [g4, h2, h3, hst, List.append_assoc]
      have h4 : ∀ T : List UInt8, ([1] : List UInt8) ++ ((frameB 1 r).drop 1 ++ T) = frameB 1 r ++ T := fun T => rfl
      rw [h4, ← List.append_assoc, ← framesB_one, ← framesB_app, parse_eq _ _ (by
        intro x hx
        rcases List.mem_append.1 hx with hx | hx
        · exact hps.2.2.2 x hx
        · rw [List.mem_singleton.1 hx]; exact hr)]
      have h5 : (parse (([0] : List UInt8).take (s.length - a - (3 + r.length)) ++ s.drop (a + min (r.length + 4) (s.length - a)))).1 = [] := by
        by_cases hc : s.length - a - (3 + r.length) = 0
        · rw [hc, List.take_zero, List.nil_append, List.drop_of_length_le (by omega)]; rfl
        · rw [List.take_of_length_le (by simp; omega), List.singleton_append, parse_zero]
      show (recs ++ [r]) ++ _ = _
      rw [h5, List.append_nil]
end Go.Fr.Try

/- Disk: what a truncation leaves, cut anywhere, in the plain model. -/
set_option linter.unusedVariables false
set_option linter.unusedSimpArgs false
namespace Go.Fr.Try
open Go Go.RowKit Go.Proofs Go.Fr Go.Fr.T
theorem genP_ge (p : List UInt8) : -1 ≤ genP p := (genP_range p).1
theorem genP_bad {p : List UInt8} (h : p[4]? = some 0) : genP p = -1 := by
  unfold genP
  rw [h, if_neg (by decide)]
/-- the other half is not valid, the present one is as it was -/
theorem keeps_other {d d' : List (List UInt8)} (hv : validD d' = true) (hl : d'.length = d.length) (hp : headP d' (presD d) = headP d (presD d)) (hs : spaceD d' (presD d) = spaceD d (presD d)) (hb : genP (headP d' (1 - presD d)) = -1) : Keeps d d' := by
  have hh := pres_le d
  have e : presD d' = presD d := by
    rcases (show presD d = 0 ∨ presD d = 1 by omega) with h | h
    · rw [h] at hp hb ⊢
      have := genP_ge (headP d' 0)
      show (if genP (headP d' 0) < genP (headP d' 1) then 1 else 0) = 0
      rw [if_neg (by rw [show (1 : Nat) = 1 - 0 from rfl, hb]; omega)]
    · rw [h] at hp hb ⊢
      have h1 : genP (headP d 0) < genP (headP d 1) := by
        unfold presD at h
        split at h
        · assumption
        · cases h
      have := genP_ge (headP d 0)
      show (if genP (headP d' 0) < genP (headP d' 1) then 1 else 0) = 1
      rw [if_pos (by rw [hp, show (0 : Nat) = 1 - 1 from rfl, hb]; omega)]
  exact ⟨hv, hl, e, by unfold gen0; rw [e, hp], by rw [hs]⟩
/-- a write to the first page of a half -/
theorem set_head {d : List (List UInt8)} {h : Nat} {w : Wri} (hv : validD d = true) (hh : h ≤ 1) (hp : w.1 = ((h * (d.length / 2) : Nat) : Int)) (hw : w.2.length ≤ 256) :
    validD (setP d w) = true ∧ (setP d w).length = d.length ∧ (∀ p : Nat, p ≠ h * (d.length / 2) → (setP d w)[p]? = d[p]?) ∧ headP (setP d w) h = w.2 ++ (headP d h).drop w.2.length ∧ spaceD (setP d w) 0 = spaceD d 0 ∧ spaceD (setP d w) 1 = spaceD d 1 ∧ headP (setP d w) (1 - h) = headP d (1 - h) := by
  have hi : w.1.toNat = h * (d.length / 2) := by rw [hp, Int.toNat_natCast]
  have h1 := mul_le1 (n := d.length / 2) hh
  obtain ⟨v1, v2, v3⟩ := validD_iff.1 hv
  have ho : ∀ p : Nat, p ≠ h * (d.length / 2) → (setP d w)[p]? = d[p]? := fun p hp' => setP_other (by omega)
  have hlt : h * (d.length / 2) < d.length := by omega
  refine ⟨applyAll_valid hv [w], setP_len d w, ho, ?_, ?_, ?_, ?_⟩
  · have hq := v3 _ (List.getElem_mem hlt)
    unfold headP
    rw [setP_len, setP, List.getElem?_modify, hi, List.getElem?_eq_getElem hlt]
    simp only [if_pos, Option.map_eq_map, Option.map_some, Option.getD_some]
    exact overlay_0 (by omega)
  · refine spaceD_congr (setP_len d w) fun p hp1 hp2 => ho p ?_
    rcases (show h = 0 ∨ h = 1 by omega) with rfl | rfl <;> omega
  · refine spaceD_congr (setP_len d w) fun p hp1 hp2 => ho p ?_
    rcases (show h = 0 ∨ h = 1 by omega) with rfl | rfl <;> omega
  · refine head_congr (setP_len d w) (ho _ ?_)
    rcases (show h = 0 ∨ h = 1 by omega) with rfl | rfl <;> omega
theorem valB_app (a b : List UInt8) : valB (a ++ b) = b.foldl (fun n x => n * 256 + x.toNat) (valB a) := by unfold valB; rw [List.foldl_append]
theorem wordB_len (n : Nat) : ∀ k, (wordB n k).length = k
  | 0 => rfl
  | k + 1 => by rw [wordB, List.length_cons, wordB_len n k]
theorem wordB_fold (n : Nat) : ∀ (k m : Nat), (wordB n k).foldl (fun n (x : UInt8) => n * 256 + x.toNat) m = m * 256 ^ k + n % 256 ^ k
  | 0, m => by simp [wordB, Nat.mod_one]
  | k + 1, m => by
    have e : (UInt8.ofNat (n / 256 ^ k % 256)).toNat = n / 256 ^ k % 256 := by rw [UInt8.toNat_ofNat']; omega
    rw [wordB, List.foldl_cons, wordB_fold n k, e, Nat.pow_succ, Nat.mod_mul, Nat.add_mul, Nat.mul_assoc, Nat.mul_comm 256 (256 ^ k), Nat.mul_comm (n / 256 ^ k % 256)]
    omega
theorem wordB_val {n : Nat} (h : n < 4294967296) : valB (wordB n 4) = n := by
  unfold valB
  rw [wordB_fold]
  have : (256 : Nat) ^ 4 = 4294967296 := by decide
  rw [this]; omega
theorem genP_word {n : Nat} {t : List UInt8} (h : n < 4294967296) : genP (wordB n 4 ++ [1] ++ t) = n := by
  have hl := wordB_len n 4
  have h4 : (wordB n 4 ++ [1] ++ t)[4]? = some 1 := by
    rw [List.append_assoc, List.getElem?_append_right (by omega), hl]; rfl
  unfold genP
  rw [if_pos h4, List.append_assoc, List.take_left' hl, wordB_val h]
theorem truncate_eq {d rs : List (List UInt8)} (he : (truncD d rs).2 = 0) : validD d = true ∧ (∀ r ∈ rs, r.length ≤ 65535) ∧ (framesB rs).length ≤ (spaceD d (1 - presD d)).length ∧ gen0 d ≠ 4294967295 ∧
    (truncD d rs).1 = [((((1 - presD d) * (d.length / 2) : Nat) : Int), (headP d (1 - presD d)).take 4 ++ [0])] ++ coverW ((1 - presD d) * (d.length / 2) + 1) (spaceD d (1 - presD d)) 0 (framesB rs ++ [0]) ++ [((((1 - presD d) * (d.length / 2) : Nat) : Int), wordB (gen0 d + 1) 4 ++ [1])] := by
  unfold truncD at he ⊢
  split at he
  · cases he
  · rename_i h1
    rw [if_neg h1]
    split at he
    · cases he
    · rename_i h2
      rw [if_neg h2]
      refine ⟨?_, ?_, by omega, by omega, rfl⟩
      · cases hv : validD d
        · exact absurd (.inl hv) h1
        · rfl
      · intro r hr
        have : ¬ longR rs = true := fun h => h1 (.inr h)
        unfold longR at this
        rw [List.any_eq_true] at this
        refine Nat.le_of_not_lt fun h => this ⟨r, hr, decide_eq_true h⟩
theorem setP_self {d : List (List UInt8)} {w : Wri} (h : ∀ p, d[w.1.toNat]? = some p → overlay p 0 w.2 = p) : setP d w = d := by
  apply List.ext_getElem?
  intro i
  rw [setP, List.getElem?_modify]
  cases hd : d[i]? with
  | none => rfl
  | some p =>
    by_cases hi : w.1.toNat = i
    · rw [hi] at h
      simp [hi, h p hd]
    · simp [hi]
theorem head_get {d : List (List UInt8)} {h : Nat} (hv : validD d = true) (hh : h ≤ 1) : d[h * (d.length / 2)]? = some (headP d h) ∧ (headP d h).length = 256 := by
  have h1 := mul_le1 (n := d.length / 2) hh
  obtain ⟨v1, v2, v3⟩ := validD_iff.1 hv
  have hlt : h * (d.length / 2) < d.length := by omega
  have e : d[h * (d.length / 2)]? = some (headP d h) := by unfold headP; rw [List.getElem?_eq_getElem hlt]; rfl
  exact ⟨e, v3 _ (List.mem_of_getElem? e)⟩
theorem pres_new {d' : List (List UInt8)} {h : Nat} {g : Int} (hh : h ≤ 1) (h1 : genP (headP d' (1 - h)) = g) (h2 : genP (headP d' h) < g) : presD d' = 1 - h := by
  subst h1
  rcases (show h = 0 ∨ h = 1 by omega) with rfl | rfl
  · show (if genP (headP d' 0) < genP (headP d' 1) then 1 else 0) = 1
    rw [if_pos h2]
  · show (if genP (headP d' 0) < genP (headP d' 1) then 1 else 0) = 0
    have h2 : genP (headP d' 1) < genP (headP d' 0) := h2
    rw [if_neg (by omega)]
theorem truncate_ok {d rs : List (List UInt8)} (he : (truncD d rs).2 = 0) :
    (∀ w ∈ (truncD d rs).1, okW d w = true) ∧ 0 < bytesW (truncD d rs).1 ∧ (∀ n, n < bytesW (truncD d rs).1 → Keeps d (applyAll d (part (truncD d rs).1 n))) ∧
    ∀ d', d' = applyAll d (truncD d rs).1 → validD d' = true ∧ d'.length = d.length ∧ (∀ p : Nat, presD d * (d.length / 2) ≤ p → p < presD d * (d.length / 2) + d.length / 2 → d'[p]? = d[p]?) ∧ presD d' = 1 - presD d ∧ (parse (spaceD d' (1 - presD d))).1 = rs := by
  obtain ⟨hv, hr, hroom, hg, el⟩ := truncate_eq he
  rw [el]
  have hh := pres_le d
  have ho : 1 - presD d ≤ 1 := by omega
  have hoo : 1 - (1 - presD d) = presD d := by omega
  have h1 := mul_le1 (n := d.length / 2) ho
  obtain ⟨v1, v2, v3⟩ := validD_iff.1 hv
  obtain ⟨q1, q2⟩ := head_get hv ho
  have hsl := space_len hv ho
  have hg0 : gen0 d < 4294967296 := by
    have := genP_range (headP d (presD d))
    unfold gen0; omega
  have hfl : (framesB rs ++ [0]).length = (framesB rs).length + 1 := by rw [List.length_append]; rfl
  -- the first write
  have w1l : ((headP d (1 - presD d)).take 4 ++ [0]).length = 5 := by rw [List.length_append, List.length_take, q2]; rfl
  have s1 := set_head (d := d) (w := ((((1 - presD d) * (d.length / 2) : Nat) : Int), (headP d (1 - presD d)).take 4 ++ [0])) hv ho rfl (by show List.length (_ ++ _) ≤ _; rw [w1l]; omega)
  have z1 : ∀ n, n < 5 → setP d ((((1 - presD d) * (d.length / 2) : Nat) : Int), ((headP d (1 - presD d)).take 4 ++ [0]).take n) = d := by
    intro n hn
    refine setP_self fun p hp => ?_
    have hp : d[(((1 - presD d) * (d.length / 2) : Nat) : Int).toNat]? = some p := hp
    rw [Int.toNat_natCast, q1] at hp
    obtain rfl := Option.some.inj hp
    have e : ((headP d (1 - presD d)).take 4 ++ [0]).take n = (headP d (1 - presD d)).take n := by
      rw [List.take_append_of_le_length (by rw [List.length_take]; omega), List.take_take, Nat.min_eq_left (by omega)]
    show overlay _ 0 (((headP d (1 - presD d)).take 4 ++ [0]).take n) = _
    rw [e, overlay_0 (by rw [List.length_take]; omega), List.length_take, Nat.min_eq_left (by omega), List.take_append_drop]
  have w1 : ∀ w ∈ [((((1 - presD d) * (d.length / 2) : Nat) : Int), (headP d (1 - presD d)).take 4 ++ [0])], okW d w = true := by
    intro w hw
    rw [List.mem_singleton.1 hw]
    refine Bool.and_eq_true_iff.2 ⟨Bool.and_eq_true_iff.2 ⟨decide_eq_true (Int.natCast_nonneg _), decide_eq_true (Int.ofNat_lt.2 (by omega))⟩, decide_eq_true ?_⟩
    show List.length (_ ++ _) ≤ _
    rw [w1l]; omega
  have w3l : (wordB (gen0 d + 1) 4 ++ [1]).length = 5 := by rw [List.length_append, wordB_len]; rfl
  have w3 : ∀ w ∈ [((((1 - presD d) * (d.length / 2) : Nat) : Int), wordB (gen0 d + 1) 4 ++ [1])], okW d w = true := by
    intro w hw
    rw [List.mem_singleton.1 hw]
    refine Bool.and_eq_true_iff.2 ⟨Bool.and_eq_true_iff.2 ⟨decide_eq_true (Int.natCast_nonneg _), decide_eq_true (Int.ofNat_lt.2 (by omega))⟩, decide_eq_true ?_⟩
    show List.length (_ ++ _) ≤ _
    rw [w3l]; omega
  generalize hw1 : ((((1 - presD d) * (d.length / 2) : Nat) : Int), (headP d (1 - presD d)).take 4 ++ [0]) = W1 at *
  have hW1 : W1.2 = (headP d (1 - presD d)).take 4 ++ [0] := by rw [← hw1]
  have hW11 : W1.1 = (((1 - presD d) * (d.length / 2) : Nat) : Int) := by rw [← hw1]
  obtain ⟨a1, a2, a3, a4, a5, a6, a7⟩ := s1
  rw [hoo] at a7
  have a8 : (headP (setP d W1) (1 - presD d))[4]? = some 0 := by
    rw [a4, hW1, List.getElem?_append_left (by rw [w1l]; omega), List.getElem?_append_right (by rw [List.length_take]; omega), List.length_take, q2]; rfl
  have aS : ∀ h, h ≤ 1 → spaceD (setP d W1) h = spaceD d h := by
    intro h hh
    rcases (show h = 0 ∨ h = 1 by omega) with rfl | rfl
    · exact a5
    · exact a6
  generalize hd1 : setP d W1 = d1 at *
  have b1 : bytesW [W1] = 5 := by rw [bytesW_cons, hW1, w1l]; rfl
  -- the covering
  have c := fun n => cover_part (d1 := d1) (n := n) (b := framesB rs ++ [0]) hv ho (a := 0) (by rw [hsl]; omega) (by omega) a1 a2 rfl
  obtain ⟨b2, o2, -⟩ := c 0
  generalize hE : 0 + min (framesB rs ++ [0]).length ((spaceD d (1 - presD d)).length - 0) - 0 / 256 * 256 = E at *
  have hE' : E = min ((framesB rs).length + 1) (spaceD d (1 - presD d)).length := by rw [← hE, hfl]; omega
  have c' : ∀ n, n ≤ E → ∀ d', d' = applyAll d1 (part (coverW ((1 - presD d) * (d.length / 2) + 1) (spaceD d (1 - presD d)) 0 (framesB rs ++ [0])) n) →
      validD d' = true ∧ d'.length = d.length ∧ headP d' (1 - presD d) = headP d1 (1 - presD d) ∧ headP d' (presD d) = headP d (presD d) ∧ spaceD d' (presD d) = spaceD d (presD d) ∧
      (∀ p : Nat, presD d * (d.length / 2) ≤ p → p < presD d * (d.length / 2) + d.length / 2 → d'[p]? = d[p]?) ∧ spaceD d' (1 - presD d) = (overlay (spaceD d (1 - presD d)) 0 (framesB rs ++ [0])).take n ++ (spaceD d (1 - presD d)).drop n := by
    intro n hn d' hd'
    obtain ⟨g1, g2, g3, g4⟩ := (c n).2.2 hn d' hd'
    have g3' : ∀ p : Nat, p ≤ (1 - presD d) * (d1.length / 2) ∨ (1 - presD d) * (d1.length / 2) + d1.length / 2 ≤ p → d'[p]? = d1[p]? := by rw [a2]; exact g3
    obtain ⟨k0, k1⟩ := heads_of ho (g2.trans a2.symm) g3'
    have kk : ∀ h, h ≤ 1 → headP d' h = headP d1 h := by
      intro h hh
      rcases (show h = 0 ∨ h = 1 by omega) with rfl | rfl
      · exact k0
      · exact k1
    have hfr : ∀ p : Nat, presD d * (d.length / 2) ≤ p → p < presD d * (d.length / 2) + d.length / 2 → d'[p]? = d[p]? := by
      intro p hp1 hp2
      rw [g3 p ?_, a3 p ?_]
      · rcases (show presD d = 0 ∨ presD d = 1 by omega) with h | h <;> rw [h] at hp1 hp2 ⊢ <;> omega
      · rcases (show presD d = 0 ∨ presD d = 1 by omega) with h | h <;> rw [h] at hp1 hp2 ⊢ <;> omega
    refine ⟨g1, g2, kk _ ho, (kk _ hh).trans a7, spaceD_congr g2 fun p hp1 hp2 => hfr p (by omega) hp2, hfr, ?_⟩
    rw [g4, aS _ ho]
    simp only [Nat.zero_div, Nat.zero_mul, Nat.zero_add]
  clear c
  -- the state ahead of the last write
  have f := c' E (Nat.le_refl _) _ rfl
  rw [part_all _ _ (by rw [b2]; exact Nat.le_refl _)] at f
  generalize hL2 : coverW ((1 - presD d) * (d.length / 2) + 1) (spaceD d (1 - presD d)) 0 (framesB rs ++ [0]) = L2 at *
  generalize hd2 : applyAll d1 L2 = d2 at *
  obtain ⟨f1, f2, f3, f4, f5, f6, f7⟩ := f
  have s3 := fun t => set_head (d := d2) (w := ((((1 - presD d) * (d.length / 2) : Nat) : Int), (wordB (gen0 d + 1) 4 ++ [1]).take t)) f1 ho (by rw [f2]) (by show (List.take _ _).length ≤ _; rw [List.length_take, w3l]; omega)
  have hfr3 : ∀ t, ∀ p : Nat, presD d * (d.length / 2) ≤ p → p < presD d * (d.length / 2) + d.length / 2 → (setP d2 ((((1 - presD d) * (d.length / 2) : Nat) : Int), (wordB (gen0 d + 1) 4 ++ [1]).take t))[p]? = d[p]? := by
    intro t p hp1 hp2
    rw [(s3 t).2.2.1 p ?_, f6 p hp1 hp2]
    rw [f2]
    rcases (show presD d = 0 ∨ presD d = 1 by omega) with h | h <;> rw [h] at hp1 hp2 ⊢ <;> omega
  have hS3 : ∀ t h, h ≤ 1 → spaceD (setP d2 ((((1 - presD d) * (d.length / 2) : Nat) : Int), (wordB (gen0 d + 1) 4 ++ [1]).take t)) h = spaceD d2 h := by
    intro t h hh
    rcases (show h = 0 ∨ h = 1 by omega) with rfl | rfl
    · exact (s3 t).2.2.2.2.1
    · exact (s3 t).2.2.2.2.2.1
  have b3 : bytesW [((((1 - presD d) * (d.length / 2) : Nat) : Int), wordB (gen0 d + 1) 4 ++ [1])] = 5 := by rw [bytesW_cons, w3l]; rfl
  refine ⟨?_, ?_, ?_, ?_⟩
  · intro w hw
    rcases List.mem_append.1 hw with hw | hw
    · rcases List.mem_append.1 hw with hw | hw
      · exact w1 w hw
      · exact o2 w hw
    · exact w3 w hw
  · rw [bytesW_app, bytesW_app, b1]; omega
  · intro n hn
    rw [bytesW_app, bytesW_app, b1, b2, b3] at hn
    rw [part_app, bytesW_app, b1, b2]
    split
    · rename_i hlt
      rw [part_app, b1]
      split
      · rename_i hlt5
        have e : part [W1] n = [((((1 - presD d) * (d.length / 2) : Nat) : Int), ((headP d (1 - presD d)).take 4 ++ [0]).take n)] := by
          rw [part, if_pos (by rw [hW1, w1l]; omega), hW11, hW1]
        rw [e]
        show Keeps d (setP d _)
        rw [z1 n hlt5]
        exact Keeps.refl hv
      · rename_i hge5
        rw [applyAll_app]
        show Keeps d (applyAll (setP d W1) _)
        rw [hd1]
        obtain ⟨g1, g2, g3, g4, g5, g6, g7⟩ := c' (n - 5) (by omega) _ rfl
        exact keeps_other g1 g2 g4 g5 (by rw [g3]; exact genP_bad a8)
    · rename_i hge
      rw [applyAll_app, applyAll_app]
      show Keeps d (applyAll (applyAll (setP d W1) L2) _)
      rw [hd1, hd2]
      have e : part [((((1 - presD d) * (d.length / 2) : Nat) : Int), wordB (gen0 d + 1) 4 ++ [1])] (n - (5 + E)) = [((((1 - presD d) * (d.length / 2) : Nat) : Int), (wordB (gen0 d + 1) 4 ++ [1]).take (n - (5 + E)))] := by
        rw [part, if_pos (by show _ < (wordB (gen0 d + 1) 4 ++ [1]).length; rw [w3l]; omega)]
      rw [e]
      show Keeps d (setP d2 _)
      obtain ⟨t1, t2, t3, t4, t5, t6, t7⟩ := s3 (n - (5 + E))
      rw [hoo] at t7
      have tl : ((wordB (gen0 d + 1) 4 ++ [1]).take (n - (5 + E))).length = n - (5 + E) := by rw [List.length_take, w3l]; omega
      refine keeps_other t1 (t2.trans f2) (t7.trans f4) ((hS3 _ _ hh).trans f5) (genP_bad ?_)
      rw [t4]
      show (List.take (n - (5 + E)) _ ++ List.drop (List.length (List.take (n - (5 + E)) _)) _)[4]? = _
      rw [List.getElem?_append_right (by rw [tl]; omega), tl, List.getElem?_drop, show n - (5 + E) + (4 - (n - (5 + E))) = 4 by omega, f3]
      exact a8
  · intro d' hd'
    rw [applyAll_app, applyAll_app] at hd'
    have hd' : d' = setP (applyAll (setP d W1) L2) ((((1 - presD d) * (d.length / 2) : Nat) : Int), wordB (gen0 d + 1) 4 ++ [1]) := hd'
    have e5 : (wordB (gen0 d + 1) 4 ++ [1]).take 5 = wordB (gen0 d + 1) 4 ++ [1] := List.take_of_length_le (by rw [w3l]; omega)
    rw [hd1, hd2, ← e5] at hd'
    obtain ⟨t1, t2, t3, t4, t5, t6, t7⟩ := s3 5
    have hfr := hfr3 5
    have hS := hS3 5
    rw [← hd'] at t1 t2 t4 t7 hfr hS
    rw [hoo] at t7
    refine ⟨t1, t2.trans f2, hfr, ?_, ?_⟩
    · refine pres_new (g := ((gen0 d + 1 : Nat) : Int)) hh ?_ ?_
      · rw [t4]
        show genP (List.take 5 _ ++ _) = _
        rw [e5]
        exact genP_word (by omega)
      · rw [t7, f4]
        unfold gen0; omega
    · rw [hS _ ho, f7]
      have hw := overlay_whole (spaceD d (1 - presD d)) (framesB rs ++ [0]) 0 (by omega)
      rw [show 0 + min (List.length (framesB rs ++ [(0 : UInt8)])) ((spaceD d (1 - presD d)).length - 0) = E by rw [← hE]; omega] at hw
      rw [hw]
      have hd0 := overlay_drop (spaceD d (1 - presD d)) (framesB rs ++ [0]) 0 (by omega)
      rw [List.drop_zero] at hd0
      rw [hd0, List.take_append, List.take_of_length_le (l := framesB rs) (by omega), List.append_assoc, parse_eq _ _ hr]
      have h5 : (parse (([0] : List UInt8).take ((spaceD d (1 - presD d)).length - 0 - (framesB rs).length) ++ (spaceD d (1 - presD d)).drop (0 + min (framesB rs ++ [0]).length ((spaceD d (1 - presD d)).length - 0)))).1 = [] := by
        by_cases hc : (spaceD d (1 - presD d)).length - 0 - (framesB rs).length = 0
        · rw [hc, List.take_zero, List.nil_append, List.drop_of_length_le (by omega)]; rfl
        · rw [List.take_of_length_le (by simp; omega), List.singleton_append, parse_zero]
      show rs ++ _ = _
      rw [h5, List.append_nil]
end Go.Fr.Try

/- Disk: what an operation leaves, in the plain model. -/
set_option linter.unusedVariables false
set_option linter.unusedSimpArgs false
namespace Go.Fr.Try
open Go Go.RowKit Go.Proofs Go.Fr Go.Fr.T
theorem opD_t (d rs : List (List UInt8)) : opD d rs true = ((truncD d rs).1, rs, (truncD d rs).2) := rfl
theorem opD_f (d rs : List (List UInt8)) : opD d rs false = ((appendD d (rec0 rs)).1, recsD d ++ [rec0 rs], (appendD d (rec0 rs)).2) := rfl
structure OpOk (d : List (List UInt8)) (l : List Wri) (want : List (List UInt8)) : Prop where
  valid : validD d = true
  ok : ∀ w ∈ l, okW d w = true
  pos : 0 < bytesW l
  keeps : ∀ n, n < bytesW l → Keeps d (applyAll d (part l n))
  valid' : validD (applyAll d l) = true
  len' : (applyAll d l).length = d.length
  recs' : recsD (applyAll d l) = want
theorem op_ok {d rs : List (List UInt8)} {tr : Bool} (he : (opD d rs tr).2.2 = 0) : OpOk d (opD d rs tr).1 (opD d rs tr).2.1 := by
  cases tr
  · rw [opD_f] at he ⊢
    obtain ⟨h1, h2, h3, h4⟩ := append_ok he
    obtain ⟨g1, g2, g3, g4, g5⟩ := h4 _ rfl
    obtain ⟨hv, -⟩ := append_eq he
    refine ⟨hv, h1, h2, h3, g1, g2, ?_⟩
    obtain ⟨k0, k1⟩ := heads_of (pres_le d) g2 g3
    have hp := (pres_congr k0 k1).1
    unfold recsD
    rw [if_pos g1, if_pos hv, hp, g5]
  · rw [opD_t] at he ⊢
    obtain ⟨h1, h2, h3, h4⟩ := truncate_ok he
    obtain ⟨g1, g2, g3, g4, g5⟩ := h4 _ rfl
    obtain ⟨hv, -⟩ := truncate_eq he
    refine ⟨hv, h1, h2, h3, g1, g2, ?_⟩
    unfold recsD
    rw [if_pos g1, g4, g5]
theorem op_err {d rs : List (List UInt8)} {tr : Bool} (hr : ∀ r ∈ rs, r.length ≤ 65535) (he : (opD d rs tr).2.2 ≠ 0) : (opD d rs tr).1 = [] ∧ ((opD d rs tr).2.2 = 19 ∨ validD d = false) := by
  cases tr
  · rw [opD_f] at he ⊢
    simp only at he ⊢
    have h0 : (rec0 rs).length ≤ 65535 := by
      cases rs with
      | nil => exact Nat.zero_le _
      | cons r l => exact hr r (List.mem_cons_self ..)
    unfold appendD at he ⊢
    split
    · rename_i h
      exact ⟨rfl, .inr (h.resolve_right (by omega))⟩
    · rename_i h
      rw [if_neg h] at he
      split
      · exact ⟨rfl, .inl rfl⟩
      · rename_i h'
        rw [if_neg h'] at he
        exact absurd rfl he
  · rw [opD_t] at he ⊢
    simp only at he ⊢
    have h0 : longR rs = false := by
      unfold longR
      rw [List.any_eq_false]
      intro r h
      have := hr r h
      simp; omega
    unfold truncD at he ⊢
    split
    · rename_i h
      exact ⟨rfl, .inr (h.resolve_right (by rw [h0]; decide))⟩
    · rename_i h
      rw [if_neg h] at he
      split
      · exact ⟨rfl, .inl rfl⟩
      · rename_i h'
        rw [if_neg h'] at he
        exact absurd rfl he
theorem appendD_err {d : List (List UInt8)} {r : List UInt8} : (appendD d r).2 = if validD d = false ∨ 65535 < r.length then 1 else if (spaceD d (presD d)).length < (parse (spaceD d (presD d))).2 + 3 + r.length then 19 else 0 := by
  unfold appendD
  split
  · rfl
  · split <;> rfl
theorem truncD_err {d rs : List (List UInt8)} : (truncD d rs).2 = if validD d = false ∨ longR rs = true then 1 else if (spaceD d (1 - presD d)).length < (framesB rs).length ∨ gen0 d = 4294967295 then 19 else 0 := by
  unfold truncD
  split
  · rfl
  · split <;> rfl
theorem op_keeps {d d' rs : List (List UInt8)} {tr : Bool} (hv : validD d = true) (k : Keeps d d') : (opD d' rs tr).2.2 = (opD d rs tr).2.2 := by
  have hh := pres_le d
  have s1 : ∀ h, h ≤ 1 → (spaceD d' h).length = (spaceD d h).length := fun h hh => by rw [space_len k.valid hh, space_len hv hh, k.len]
  cases tr
  · rw [opD_f, opD_f]
    simp only
    rw [appendD_err, appendD_err, k.valid, hv, k.pres, k.recs, s1 _ hh]
  · rw [opD_t, opD_t]
    simp only
    rw [truncD_err, truncD_err, k.valid, hv, k.pres, k.gen, s1 _ (by omega)]
theorem few_recs {d rs : List (List UInt8)} (h : fewD d rs = true) : (∀ r ∈ rs, r.length ≤ 2000) ∧ rs.length ≤ 40 ∧ d.length ≤ 12 := by
  simp [fewD, and_assoc] at h
  exact ⟨h.2.1, h.2.2.2, h.2.2.1⟩
theorem frames_le {c : Nat} : ∀ {rs : List (List UInt8)}, (∀ r ∈ rs, r.length ≤ c) → (framesB rs).length ≤ rs.length * (c + 3)
  | [], _ => Nat.zero_le _
  | r :: rs, h => by
    have h1 := h r (List.mem_cons_self ..)
    have h2 := frames_le (rs := rs) fun x hx => h x (List.mem_cons_of_mem _ hx)
    rw [framesB_cons, List.length_append, frameB_len, List.length_cons, Nat.add_mul]
    omega
theorem few_frames {d rs : List (List UInt8)} (h : fewD d rs = true) : (framesB rs).length ≤ 80120 := by
  obtain ⟨h1, h2, -⟩ := few_recs h
  have := frames_le h1
  have h3 := Nat.mul_le_mul_right 2003 h2
  omega
end Go.Fr.Try
