/- Part of the proofs of the statements of this seat. -/
import Derived.Test.YtmbfinlmjclojaaDkP4G
/- Disk: what a truncation leaves, cut anywhere, in the plain model. -/
set_option linter.unusedVariables false
set_option linter.unusedSimpArgs false
namespace Go.Fr.Try
open Go Go.RowKit Go.Proofs Go.Fr Go.Fr.T
theorem genP_ge (p : List UInt8) : -1 ≤ genP p := (genP_range p).1
theorem genP_bad {p : List UInt8} (h : p[4]? = some 0) : genP p = -1 := by
  unfold genP
  rw [h, if_neg (by decide)]
/-- the other half is not valid, the present one is as it was -/
theorem keeps_other {d d' : List (List UInt8)} (hv : validD d' = true) (hl : d'.length = d.length) (hp : headP d' (presD d) = headP d (presD d)) (hs : spaceD d' (presD d) = spaceD d (presD d)) (hb : genP (headP d' (1 - presD d)) = -1) : Keeps d d' := by
  have hh := pres_le d
  have e : presD d' = presD d := by
    rcases (show presD d = 0 ∨ presD d = 1 by omega) with h | h
    · rw [h] at hp hb ⊢
      have := genP_ge (headP d' 0)
      show (if genP (headP d' 0) < genP (headP d' 1) then 1 else 0) = 0
      rw [if_neg (by rw [show (1 : Nat) = 1 - 0 from rfl, hb]; omega)]
    · rw [h] at hp hb ⊢
      have h1 : genP (headP d 0) < genP (headP d 1) := by
        unfold presD at h
        split at h
        · assumption
        · cases h
      have := genP_ge (headP d 0)
      show (if genP (headP d' 0) < genP (headP d' 1) then 1 else 0) = 1
      rw [if_pos (by rw [hp, show (0 : Nat) = 1 - 1 from rfl, hb]; omega)]
  exact ⟨hv, hl, e, by unfold gen0; rw [e, hp], by rw [hs]⟩
/-- a write to the first page of a half -/
theorem set_head {d : List (List UInt8)} {h : Nat} {w : Wri} (hv : validD d = true) (hh : h ≤ 1) (hp : w.1 = ((h * (d.length / 2) : Nat) : Int)) (hw : w.2.length ≤ 256) :
    validD (setP d w) = true ∧ (setP d w).length = d.length ∧ (∀ p : Nat, p ≠ h * (d.length / 2) → (setP d w)[p]? = d[p]?) ∧ headP (setP d w) h = w.2 ++ (headP d h).drop w.2.length ∧ spaceD (setP d w) 0 = spaceD d 0 ∧ spaceD (setP d w) 1 = spaceD d 1 ∧ headP (setP d w) (1 - h) = headP d (1 - h) := by
  have hi : w.1.toNat = h * (d.length / 2) := by rw [hp, Int.toNat_natCast]
  have h1 := mul_le1 (n := d.length / 2) hh
  obtain ⟨v1, v2, v3⟩ := validD_iff.1 hv
  have ho : ∀ p : Nat, p ≠ h * (d.length / 2) → (setP d w)[p]? = d[p]? := fun p hp' => setP_other (by omega)
  have hlt : h * (d.length / 2) < d.length := by omega
  refine ⟨applyAll_valid hv [w], setP_len d w, ho, ?_, ?_, ?_, ?_⟩
  · have hq := v3 _ (List.getElem_mem hlt)
    unfold headP
    rw [setP_len, setP, List.getElem?_modify, hi, List.getElem?_eq_getElem hlt]
    simp only [if_pos, Option.map_eq_map, Option.map_some, Option.getD_some]
    exact overlay_0 (by omega)
  · refine spaceD_congr (setP_len d w) fun p hp1 hp2 => ho p ?_
    rcases (show h = 0 ∨ h = 1 by omega) with rfl | rfl <;> omega
  · refine spaceD_congr (setP_len d w) fun p hp1 hp2 => ho p ?_
    rcases (show h = 0 ∨ h = 1 by omega) with rfl | rfl <;> omega
  · refine head_congr (setP_len d w) (ho _ ?_)
    rcases (show h = 0 ∨ h = 1 by omega) with rfl | rfl <;> omega
theorem valB_app (a b : List UInt8) : valB (a ++ b) = b.foldl (fun n x => n * 256 + x.toNat) (valB a) := by unfold valB; rw [List.foldl_append]
theorem wordB_len (n : Nat) : ∀ k, (wordB n k).length = k
  | 0 => rfl
  | k + 1 => by rw [wordB, List.length_cons, wordB_len n k]
theorem wordB_fold (n : Nat) : ∀ (k m : Nat), (wordB n k).foldl (fun n (x : UInt8) => n * 256 + x.toNat) m = m * 256 ^ k + n % 256 ^ k
  | 0, m => by simp [wordB, Nat.mod_one]
  | k + 1, m => by
    have e : (UInt8.ofNat (n / 256 ^ k % 256)).toNat = n / 256 ^ k % 256 := by rw [UInt8.toNat_ofNat']; omega
    rw [wordB, List.foldl_cons, wordB_fold n k, e, Nat.pow_succ, Nat.mod_mul, Nat.add_mul, Nat.mul_assoc, Nat.mul_comm 256 (256 ^ k), Nat.mul_comm (n / 256 ^ k % 256)]
    omega
theorem wordB_val {n : Nat} (h : n < 4294967296) : valB (wordB n 4) = n := by
  unfold valB
  rw [wordB_fold]
  have : (256 : Nat) ^ 4 = 4294967296 := by decide
  rw [this]; omega
theorem genP_word {n : Nat} {t : List UInt8} (h : n < 4294967296) : genP (wordB n 4 ++ [1] ++ t) = n := by
  have hl := wordB_len n 4
  have h4 : (wordB n 4 ++ [1] ++ t)[4]? = some 1 := by
    rw [List.append_assoc, List.getElem?_append_right (by omega), hl]; rfl
  unfold genP
  rw [if_pos h4, List.append_assoc, List.take_left' hl, wordB_val h]
theorem truncate_eq {d rs : List (List UInt8)} (he : (truncD d rs).2 = 0) : validD d = true ∧ (∀ r ∈ rs, r.length ≤ 65535) ∧ (framesB rs).length ≤ (spaceD d (1 - presD d)).length ∧ gen0 d ≠ 4294967295 ∧
    (truncD d rs).1 = [((((1 - presD d) * (d.length / 2) : Nat) : Int), (headP d (1 - presD d)).take 4 ++ [0])] ++ coverW ((1 - presD d) * (d.length / 2) + 1) (spaceD d (1 - presD d)) 0 (framesB rs ++ [0]) ++ [((((1 - presD d) * (d.length / 2) : Nat) : Int), wordB (gen0 d + 1) 4 ++ [1])] := by
  unfold truncD at he ⊢
  split at he
  · cases he
  · rename_i h1
    rw [if_neg h1]
    split at he
    · cases he
    · rename_i h2
      rw [if_neg h2]
      refine ⟨?_, ?_, by omega, by omega, rfl⟩
      · cases hv : validD d
        · exact absurd (.inl hv) h1
        · rfl
      · intro r hr
        have : ¬ longR rs = true := fun h => h1 (.inr h)
        unfold longR at this
        rw [List.any_eq_true] at this
        refine Nat.le_of_not_lt fun h => this ⟨r, hr, decide_eq_true h⟩
theorem setP_self {d : List (List UInt8)} {w : Wri} (h : ∀ p, d[w.1.toNat]? = some p → overlay p 0 w.2 = p) : setP d w = d := by
  apply List.ext_getElem?
  intro i
  rw [setP, List.getElem?_modify]
  cases hd : d[i]? with
  | none => rfl
  | some p =>
    by_cases hi : w.1.toNat = i
    · rw [hi] at h
      simp [hi, h p hd]
    · simp [hi]
theorem head_get {d : List (List UInt8)} {h : Nat} (hv : validD d = true) (hh : h ≤ 1) : d[h * (d.length / 2)]? = some (headP d h) ∧ (headP d h).length = 256 := by
  have h1 := mul_le1 (n := d.length / 2) hh
  obtain ⟨v1, v2, v3⟩ := validD_iff.1 hv
  have hlt : h * (d.length / 2) < d.length := by omega
  have e : d[h * (d.length / 2)]? = some (headP d h) := by unfold headP; rw [List.getElem?_eq_getElem hlt]; rfl
  exact ⟨e, v3 _ (List.mem_of_getElem? e)⟩
theorem pres_new {d' : List (List UInt8)} {h : Nat} {g : Int} (hh : h ≤ 1) (h1 : genP (headP d' (1 - h)) = g) (h2 : genP (headP d' h) < g) : presD d' = 1 - h := by
  subst h1
  rcases (show h = 0 ∨ h = 1 by omega) with rfl | rfl
  · show (if genP (headP d' 0) < genP (headP d' 1) then 1 else 0) = 1
    rw [if_pos h2]
  · show (if genP (headP d' 0) < genP (headP d' 1) then 1 else 0) = 0
    have h2 : genP (headP d' 1) < genP (headP d' 0) := h2
    rw [if_neg (by omega)]
theorem truncate_ok {d rs : List (List UInt8)} (he : (truncD d rs).2 = 0) :
    (∀ w ∈ (truncD d rs).1, okW d w = true) ∧ 0 < bytesW (truncD d rs).1 ∧ (∀ n, n < bytesW (truncD d rs).1 → Keeps d (applyAll d (part (truncD d rs).1 n))) ∧
    ∀ d', d' = applyAll d (truncD d rs).1 → validD d' = true ∧ d'.length = d.length ∧ (∀ p : Nat, presD d * (d.length / 2) ≤ p → p < presD d * (d.length / 2) + d.length / 2 → d'[p]? = d[p]?) ∧ presD d' = 1 - presD d ∧ (parse (spaceD d' (1 - presD d))).1 = rs := by
  obtain ⟨hv, hr, hroom, hg, el⟩ := truncate_eq he
  rw [el]
  have hh := pres_le d
  have ho : 1 - presD d ≤ 1 := by omega
  have hoo : 1 - (1 - presD d) = presD d := by omega
  have h1 := mul_le1 (n := d.length / 2) ho
  obtain ⟨v1, v2, v3⟩ := validD_iff.1 hv
  obtain ⟨q1, q2⟩ := head_get hv ho
  have hsl := space_len hv ho
  have hg0 : gen0 d < 4294967296 := by
    have := genP_range (headP d (presD d))
    unfold gen0; omega
  have hfl : (framesB rs ++ [0]).length = (framesB rs).length + 1 := by rw [List.length_append]; rfl
  -- the first write
  have w1l : ((headP d (1 - presD d)).take 4 ++ [0]).length = 5 := by rw [List.length_append, List.length_take, q2]; rfl
  have s1 := set_head (d := d) (w := ((((1 - presD d) * (d.length / 2) : Nat) : Int), (headP d (1 - presD d)).take 4 ++ [0])) hv ho rfl (by show List.length (_ ++ _) ≤ _; rw [w1l]; omega)
  have z1 : ∀ n, n < 5 → setP d ((((1 - presD d) * (d.length / 2) : Nat) : Int), ((headP d (1 - presD d)).take 4 ++ [0]).take n) = d := by
    intro n hn
    refine setP_self fun p hp => ?_
    have hp : d[(((1 - presD d) * (d.length / 2) : Nat) : Int).toNat]? = some p := hp
    rw [Int.toNat_natCast, q1] at hp
    obtain rfl := Option.some.inj hp
    have e : ((headP d (1 - presD d)).take 4 ++ [0]).take n = (headP d (1 - presD d)).take n := by
      rw [List.take_append_of_le_length (by rw [List.length_take]; omega), List.take_take, Nat.min_eq_left (by omega)]
    show overlay _ 0 (((headP d (1 - presD d)).take 4 ++ [0]).take n) = _
    rw [e, overlay_0 (by rw [List.length_take]; omega), List.length_take, Nat.min_eq_left (by omega), List.take_append_drop]
  have w1 : ∀ w ∈ [((((1 - presD d) * (d.length / 2) : Nat) : Int), (headP d (1 - presD d)).take 4 ++ [0])], okW d w = true := by
    intro w hw
    rw [List.mem_singleton.1 hw]
    refine Bool.and_eq_true_iff.2 ⟨Bool.and_eq_true_iff.2 ⟨decide_eq_true (Int.natCast_nonneg _), decide_eq_true (Int.ofNat_lt.2 (by omega))⟩, decide_eq_true ?_⟩
    show List.length (_ ++ _) ≤ _
    rw [w1l]; omega
  have w3l : (wordB (gen0 d + 1) 4 ++ [1]).length = 5 := by rw [List.length_append, wordB_len]; rfl
  have w3 : ∀ w ∈ [((((1 - presD d) * (d.length / 2) : Nat) : Int), wordB (gen0 d + 1) 4 ++ [1])], okW d w = true := by
    intro w hw
    rw [List.mem_singleton.1 hw]
    refine Bool.and_eq_true_iff.2 ⟨Bool.and_eq_true_iff.2 ⟨decide_eq_true (Int.natCast_nonneg _), decide_eq_true (Int.ofNat_lt.2 (by omega))⟩, decide_eq_true ?_⟩
    show List.length (_ ++ _) ≤ _
    rw [w3l]; omega
  generalize hw1 : ((((1 - presD d) * (d.length / 2) : Nat) : Int), (headP d (1 - presD d)).take 4 ++ [0]) = W1 at *
  have hW1 : W1.2 = (headP d (1 - presD d)).take 4 ++ [0] := by rw [← hw1]
  have hW11 : W1.1 = (((1 - presD d) * (d.length / 2) : Nat) : Int) := by rw [← hw1]
  obtain ⟨a1, a2, a3, a4, a5, a6, a7⟩ := s1
  rw [hoo] at a7
  have a8 : (headP (setP d W1) (1 - presD d))[4]? = some 0 := by
    rw [a4, hW1, List.getElem?_append_left (by rw [w1l]; omega), List.getElem?_append_right (by rw [List.length_take]; omega), List.length_take, q2]; rfl
  have aS : ∀ h, h ≤ 1 → spaceD (setP d W1) h = spaceD d h := by
    intro h hh
    rcases (show h = 0 ∨ h = 1 by omega) with rfl | rfl
    · exact a5
    · exact a6
  generalize hd1 : setP d W1 = d1 at *
  have b1 : bytesW [W1] = 5 := by rw [bytesW_cons, hW1, w1l]; rfl
  -- the covering
  have c := fun n => cover_part (d1 := d1) (n := n) (b := framesB rs ++ [0]) hv ho (a := 0) (by rw [hsl]; omega) (by omega) a1 a2 rfl
  obtain ⟨b2, o2, -⟩ := c 0
  generalize hE : 0 + min (framesB rs ++ [0]).length ((spaceD d (1 - presD d)).length - 0) - 0 / 256 * 256 = E at *
  have hE' : E = min ((framesB rs).length + 1) (spaceD d (1 - presD d)).length := by rw [← hE, hfl]; omega
  have c' : ∀ n, n ≤ E → ∀ d', d' = applyAll d1 (part (coverW ((1 - presD d) * (d.length / 2) + 1) (spaceD d (1 - presD d)) 0 (framesB rs ++ [0])) n) →
      validD d' = true ∧ d'.length = d.length ∧ headP d' (1 - presD d) = headP d1 (1 - presD d) ∧ headP d' (presD d) = headP d (presD d) ∧ spaceD d' (presD d) = spaceD d (presD d) ∧
      (∀ p : Nat, presD d * (d.length / 2) ≤ p → p < presD d * (d.length / 2) + d.length / 2 → d'[p]? = d[p]?) ∧ spaceD d' (1 - presD d) = (overlay (spaceD d (1 - presD d)) 0 (framesB rs ++ [0])).take n ++ (spaceD d (1 - presD d)).drop n := by
    intro n hn d' hd'
    obtain ⟨g1, g2, g3, g4⟩ := (c n).2.2 hn d' hd'
    have g3' : ∀ p : Nat, p ≤ (1 - presD d) * (d1.length / 2) ∨ (1 - presD d) * (d1.length / 2) + d1.length / 2 ≤ p → d'[p]? = d1[p]? := by rw [a2]; exact g3
    obtain ⟨k0, k1⟩ := heads_of ho (g2.trans a2.symm) g3'
    have kk : ∀ h, h ≤ 1 → headP d' h = headP d1 h := by
      intro h hh
      rcases (show h = 0 ∨ h = 1 by omega) with rfl | rfl
      · exact k0
      · exact k1
    have hfr : ∀ p : Nat, presD d * (d.length / 2) ≤ p → p < presD d * (d.length / 2) + d.length / 2 → d'[p]? = d[p]? := by
      intro p hp1 hp2
      rw [g3 p ?_, a3 p ?_]
      · rcases (show presD d = 0 ∨ presD d = 1 by omega) with h | h <;> rw [h] at hp1 hp2 ⊢ <;> omega
      · rcases (show presD d = 0 ∨ presD d = 1 by omega) with h | h <;> rw [h] at hp1 hp2 ⊢ <;> omega
    refine ⟨g1, g2, kk _ ho, (kk _ hh).trans a7, spaceD_congr g2 fun p hp1 hp2 => hfr p (by omega) hp2, hfr, ?_⟩
    rw [g4, aS _ ho]
    simp only [Nat.zero_div, Nat.zero_mul, Nat.zero_add]
  clear c
  -- the state ahead of the last write
  have f := c' E (Nat.le_refl _) _ rfl
  rw [part_all _ _ (by rw [b2]; exact Nat.le_refl _)] at f
  generalize hL2 : coverW ((1 - presD d) * (d.length / 2) + 1) (spaceD d (1 - presD d)) 0 (framesB rs ++ [0]) = L2 at *
  generalize hd2 : applyAll d1 L2 = d2 at *
  obtain ⟨f1, f2, f3, f4, f5, f6, f7⟩ := f
  have s3 := fun t => set_head (d := d2) (w := ((((1 - presD d) * (d.length / 2) : Nat) : Int), (wordB (gen0 d + 1) 4 ++ [1]).take t)) f1 ho (by rw [f2]) (by show (List.take _ _).length ≤ _; rw [List.length_take, w3l]; omega)
  have hfr3 : ∀ t, ∀ p : Nat, presD d * (d.length / 2) ≤ p → p < presD d * (d.length / 2) + d.length / 2 → (setP d2 ((((1 - presD d) * (d.length / 2) : Nat) : Int), (wordB (gen0 d + 1) 4 ++ [1]).take t))[p]? = d[p]? := by
    intro t p hp1 hp2
    rw [(s3 t).2.2.1 p ?_, f6 p hp1 hp2]
    rw [f2]
    rcases (show presD d = 0 ∨ presD d = 1 by omega) with h | h <;> rw [h] at hp1 hp2 ⊢ <;> omega
  have hS3 : ∀ t h, h ≤ 1 → spaceD (setP d2 ((((1 - presD d) * (d.length / 2) : Nat) : Int), (wordB (gen0 d + 1) 4 ++ [1]).take t)) h = spaceD d2 h := by
    intro t h hh
    rcases (show h = 0 ∨ h = 1 by omega) with rfl | rfl
    · exact (s3 t).2.2.2.2.1
    · exact (s3 t).2.2.2.2.2.1
  have b3 : bytesW [((((1 - presD d) * (d.length / 2) : Nat) : Int), wordB (gen0 d + 1) 4 ++ [1])] = 5 := by rw [bytesW_cons, w3l]; rfl
  refine ⟨?_, ?_, ?_, ?_⟩
  · intro w hw
    rcases List.mem_append.1 hw with hw | hw
    · rcases List.mem_append.1 hw with hw | hw
      · exact w1 w hw
      · exact o2 w hw
    · exact w3 w hw
  · rw [bytesW_app, bytesW_app, b1]; omega
  · intro n hn
    rw [bytesW_app, bytesW_app, b1, b2, b3] at hn
    rw [part_app, bytesW_app, b1, b2]
    split
    · rename_i hlt
      rw [part_app, b1]
      split
      · rename_i hlt5
        have e : part [W1] n = [((((1 - presD d) * (d.length / 2) : Nat) : Int), ((headP d (1 - presD d)).take 4 ++ [0]).take n)] := by
          rw [part, if_pos (by rw [hW1, w1l]; omega), hW11, hW1]
        rw [e]
        show Keeps d (setP d _)
        rw [z1 n hlt5]
        exact Keeps.refl hv
      · rename_i hge5
        rw [applyAll_app]
        show Keeps d (applyAll (setP d W1) _)
        rw [hd1]
        obtain ⟨g1, g2, g3, g4, g5, g6, g7⟩ := c' (n - 5) (by omega) _ rfl
        exact keeps_other g1 g2 g4 g5 (by rw [g3]; exact genP_bad a8)
    · rename_i hge
      rw [applyAll_app, applyAll_app]
      show Keeps d (applyAll (applyAll (setP d W1) L2) _)
      rw [hd1, hd2]
      have e : part [((((1 - presD d) * (d.length / 2) : Nat) : Int), wordB (gen0 d + 1) 4 ++ [1])] (n - (5 + E)) = [((((1 - presD d) * (d.length / 2) : Nat) : Int), (wordB (gen0 d + 1) 4 ++ [1]).take (n - (5 + E)))] := by
        rw [part, if_pos (by show _ < (wordB (gen0 d + 1) 4 ++ [1]).length; rw [w3l]; omega)]
      rw [e]
      show Keeps d (setP d2 _)
      obtain ⟨t1, t2, t3, t4, t5, t6, t7⟩ := s3 (n - (5 + E))
      rw [hoo] at t7
      have tl : ((wordB (gen0 d + 1) 4 ++ [1]).take (n - (5 + E))).length = n - (5 + E) := by rw [List.length_take, w3l]; omega
      refine keeps_other t1 (t2.trans f2) (t7.trans f4) ((hS3 _ _ hh).trans f5) (genP_bad ?_)
      rw [t4]
      show (List.take (n - (5 + E)) _ ++ List.drop (List.length (List.take (n - (5 + E)) _)) _)[4]? = _
      rw [List.getElem?_append_right (by rw [tl]; omega), tl, List.getElem?_drop, show n - (5 + E) + (4 - (n - (5 + E))) = 4 by omega, f3]
      exact a8
  · intro d' hd'
    rw [applyAll_app, applyAll_app] at hd'
    have hd' : d' = setP (applyAll (setP d W1) L2) ((((1 - presD d) * (d.length / 2) : Nat) : Int), wordB (gen0 d + 1) 4 ++ [1]) := hd'
    have e5 : (wordB (gen0 d + 1) 4 ++ [1]).take 5 = wordB (gen0 d + 1) 4 ++ [1] := List.take_of_length_le (by rw [w3l]; omega)
    rw [hd1, hd2, ← e5] at hd'
    obtain ⟨t1, t2, t3, t4, t5, t6, t7⟩ := s3 5
    have hfr := hfr3 5
    have hS := hS3 5
    rw [← hd'] at t1 t2 t4 t7 hfr hS
    rw [hoo] at t7
    refine ⟨t1, t2.trans f2, hfr, ?_, ?_⟩
    · refine pres_new (g := ((gen0 d + 1 : Nat) : Int)) hh ?_ ?_
      · rw [t4]
        show genP (List.take 5 _ ++ _) = _
        rw [e5]
        exact genP_word (by omega)
      · rw [t7, f4]
        unfold gen0; omega
    · rw [hS _ ho, f7]
      have hw := overlay_whole (spaceD d (1 - presD d)) (framesB rs ++ [0]) 0 (by omega)
      rw [show 0 + min (List.length (framesB rs ++ [(0 : UInt8)])) ((spaceD d (1 - presD d)).length - 0) = E by rw [← hE]; omega] at hw
      rw [hw]
      have hd0 := overlay_drop (spaceD d (1 - presD d)) (framesB rs ++ [0]) 0 (by omega)
      rw [List.drop_zero] at hd0
      rw [hd0, List.take_append, List.take_of_length_le (l := framesB rs) (by omega), List.append_assoc, parse_eq _ _ hr]
      have h5 : (parse (([0] : List UInt8).take ((spaceD d (1 - presD d)).length - 0 - (framesB rs).length) ++ (spaceD d (1 - presD d)).drop (0 + min (framesB rs ++ [0]).length ((spaceD d (1 - presD d)).length - 0)))).1 = [] := by
        by_cases hc : (spaceD d (1 - presD d)).length - 0 - (framesB rs).length = 0
        · rw [hc, List.take_zero, List.nil_append, List.drop_of_length_le (by omega)]; rfl
        · rw [List.take_of_length_le (by simp; omega), List.singleton_append, parse_zero]
      show rs ++ _ = _
      rw [h5, List.append_nil]
end Go.Fr.Try

/- Disk: what an operation leaves, in the plain model. -/
set_option linter.unusedVariables false
set_option linter.unusedSimpArgs false
namespace Go.Fr.Try
open Go Go.RowKit Go.Proofs Go.Fr Go.Fr.T
theorem opD_t (d rs : List (List UInt8)) : opD d rs true = ((truncD d rs).1, rs, (truncD d rs).2) := rfl
theorem opD_f (d rs : List (List UInt8)) : opD d rs false = ((appendD d (rec0 rs)).1, recsD d ++ [rec0 rs], (appendD d (rec0 rs)).2) := rfl
structure OpOk (d : List (List UInt8)) (l : List Wri) (want : List (List UInt8)) : Prop where
  valid : validD d = true
  ok : ∀ w ∈ l, okW d w = true
  pos : 0 < bytesW l
  keeps : ∀ n, n < bytesW l → Keeps d (applyAll d (part l n))
  valid' : validD (applyAll d l) = true
  len' : (applyAll d l).length = d.length
  recs' : recsD (applyAll d l) = want
theorem op_ok {d rs : List (List UInt8)} {tr : Bool} (he : (opD d rs tr).2.2 = 0) : OpOk d (opD d rs tr).1 (opD d rs tr).2.1 := by
  cases tr
  · rw [opD_f] at he ⊢
    obtain ⟨h1, h2, h3, h4⟩ := append_ok he
    obtain ⟨g1, g2, g3, g4, g5⟩ := h4 _ rfl
    obtain ⟨hv, -⟩ := append_eq he
    refine ⟨hv, h1, h2, h3, g1, g2, ?_⟩
    obtain ⟨k0, k1⟩ := heads_of (pres_le d) g2 g3
    have hp := (pres_congr k0 k1).1
    unfold recsD
    rw [if_pos g1, if_pos hv, hp, g5]
  · rw [opD_t] at he ⊢
    obtain ⟨h1, h2, h3, h4⟩ := truncate_ok he
    obtain ⟨g1, g2, g3, g4, g5⟩ := h4 _ rfl
    obtain ⟨hv, -⟩ := truncate_eq he
    refine ⟨hv, h1, h2, h3, g1, g2, ?_⟩
    unfold recsD
    rw [if_pos g1, g4, g5]
theorem op_err {d rs : List (List UInt8)} {tr : Bool} (hr : ∀ r ∈ rs, r.length ≤ 65535) (he : (opD d rs tr).2.2 ≠ 0) : (opD d rs tr).1 = [] ∧ ((opD d rs tr).2.2 = 19 ∨ validD d = false) := by
  cases tr
  · rw [opD_f] at he ⊢
    simp only at he ⊢
    have h0 : (rec0 rs).length ≤ 65535 := by
      cases rs with
      | nil => exact Nat.zero_le _
      | cons r l => exact hr r (List.mem_cons_self ..)
    unfold appendD at he ⊢
    split
    · rename_i h
      exact ⟨rfl, .inr (h.resolve_right (by omega))⟩
    · rename_i h
      rw [if_neg h] at he
      split
      · exact ⟨rfl, .inl rfl⟩
      · rename_i h'
        rw [if_neg h'] at he
        exact absurd rfl he
  · rw [opD_t] at he ⊢
    simp only at he ⊢
    have h0 : longR rs = false := by
      unfold longR
      rw [List.any_eq_false]
      intro r h
      have := hr r h
      simp; omega
    unfold truncD at he ⊢
    split
    · rename_i h
      exact ⟨rfl, .inr (h.resolve_right (by rw [h0]; decide))⟩
    · rename_i h
      rw [if_neg h] at he
      split
      · exact ⟨rfl, .inl rfl⟩
      · rename_i h'
        rw [if_neg h'] at he
        exact absurd rfl he
theorem appendD_err {d : List (List UInt8)} {r : List UInt8} : (appendD d r).2 = if validD d = false ∨ 65535 < r.length then 1 else if (spaceD d (presD d)).length < (parse (spaceD d (presD d))).2 + 3 + r.length then 19 else 0 := by
  unfold appendD
  split
  · rfl
  · split <;> rfl
theorem truncD_err {d rs : List (List UInt8)} : (truncD d rs).2 = if validD d = false ∨ longR rs = true then 1 else if (spaceD d (1 - presD d)).length < (framesB rs).length ∨ gen0 d = 4294967295 then 19 else 0 := by
  unfold truncD
  split
  · rfl
  · split <;> rfl
theorem op_keeps {d d' rs : List (List UInt8)} {tr : Bool} (hv : validD d = true) (k : Keeps d d') : (opD d' rs tr).2.2 = (opD d rs tr).2.2 := by
  have hh := pres_le d
  have s1 : ∀ h, h ≤ 1 → (spaceD d' h).length = (spaceD d h).length := fun h hh => by rw [space_len k.valid hh, space_len hv hh, k.len]
  cases tr
  · rw [opD_f, opD_f]
    simp only
    rw [appendD_err, appendD_err, k.valid, hv, k.pres, k.recs, s1 _ hh]
  · rw [opD_t, opD_t]
    simp only
    rw [truncD_err, truncD_err, k.valid, hv, k.pres, k.gen, s1 _ (by omega)]
theorem few_recs {d rs : List (List UInt8)} (h : fewD d rs = true) : (∀ r ∈ rs, r.length ≤ 2000) ∧ rs.length ≤ 40 ∧ d.length ≤ 12 := by
  simp [fewD, and_assoc] at h
  exact ⟨h.2.1, h.2.2.2, h.2.2.1⟩
theorem frames_le {c : Nat} : ∀ {rs : List (List UInt8)}, (∀ r ∈ rs, r.length ≤ c) → (framesB rs).length ≤ rs.length * (c + 3)
  | [], _ => Nat.zero_le _
  | r :: rs, h => by
    have h1 := h r (List.mem_cons_self ..)
    have h2 := frames_le (rs := rs) fun x hx => h x (List.mem_cons_of_mem _ hx)
    rw [framesB_cons, List.length_append, frameB_len, List.length_cons, Nat.add_mul]
    omega
theorem few_frames {d rs : List (List UInt8)} (h : fewD d rs = true) : (framesB rs).length ≤ 80120 := by
  obtain ⟨h1, h2, -⟩ := few_recs h
  have := frames_le h1
  have h3 := Nat.mul_le_mul_right 2003 h2
  omega
end Go.Fr.Try

/- Disk: DiskMatchesReference, walked. -/
set_option linter.unusedVariables false
set_option linter.unusedSimpArgs false
namespace Go.Fr.Try
open Go Go.RowKit Go.Proofs Go.Fr Go.Fr.T
set_option maxRecDepth 10000 in
theorem t3 (d : List (List UInt8)) (l : List Wri) (t : Int) (rs : List (List UInt8)) (n : Int) : CallsT P 3 [.agg (diskC d), .sl (l.map wrC), IC t, .sl (rs.map pgC), IC n] [] (Ret [] (.bool true)) := by
  have c9 := t9
  have c10 := t10 d rs
  have c11 := t11 n
  have c12 := t12 n
  have c13 := t13 d (rec0 rs)
  have c14 := t14 d (rec0 rs)
  have c15 := fun hb => t15 d rs hb
  have c16 := fun hb => t16 d rs hb
  have c19 := t19 d l t
  have c20 := t20 d l t
  have c22 := t22 d
  have c23 := t23 d
  have hfr := @few_frames d rs
  have hrm : (rs.map pgC).length = rs.length := List.length_map _
  have hlm : (l.map wrC).length = l.length := List.length_map _
  have s21 : ∀ x : List (List UInt8), CallsT P 21 [.sl (x.map pgC), .sl (x.map pgC)] [] (Ret [] (.bool true)) := fun x => by
    have h := t21 x x
    rwa [decide_eq_true rfl] at h
  have s17 : ∀ x : List (List UInt8), CallsT P 17 [.agg (diskC x), .agg (diskC x)] [] (Ret [] (.bool true)) := fun x => by
    have h := t17 x x
    rwa [decide_eq_true rfl] at h
  have s18 : ∀ x : List Wri, CallsT P 18 [.sl (x.map wrC), .sl (x.map wrC)] [] (Ret [] (.bool true)) := fun x => by
    have h := t18 x x
    rwa [decide_eq_true rfl] at h
  generalize hfb : fewD d rs = fb at c10
  generalize newD n = N at c11 c12
  generalize appendD d (rec0 rs) = AD at c13 c14
  generalize truncD d rs = TD at c15 c16
  generalize applyD d l t = X at c19 c20
  generalize recsD d = H at c22 c23
  have hr0 : ∀ r, rs[0]? = some r → rec0 rs = r := fun r h => by
    unfold rec0
    rw [List.headD_eq_head?_getD, List.head?_eq_getElem?, h]; rfl
  have hrn : ¬ 0 < rs.length → rec0 rs = [] := fun h => by
    have : rs = [] := List.length_eq_zero_iff.1 (by omega)
    rw [this]; rfl
  generalize rec0 rs = r0 at c13 c14 hr0 hrn
  refine callsT_facts Try.func3 facts3 rfl fun hw _ => ?_
  refine callP c9 rfl fun _ => ?_
  refine callP c10 rfl fun _ => ?_
  refine brn_split (fun h1 => ?_) (fun h1 => ?_)
  · exact retP rfl rfl
  have hf : fewD d rs = true := by rw [hfb]; cases fb; cases h1; rfl
  have hbig : (framesB rs).length ≤ 2 ^ 38 := Nat.le_trans (hfr hf) (by omega)
  refine brn_p (fun h2 => ?_) (fun h2 => ?_)
  · exact retP rfl rfl
  refine brn_p (fun h3 => ?_) (fun h3 => ?_)
  · have hpos : 0 < rs.length := by omega
    refine withGet hpos fun r hx hxm => ?_
    have e := hr0 r hx
    have ea : [C.agg (diskC d), C.sl (bcells r)] = [C.agg (diskC d), C.sl (bcells r0)] := by rw [e]
    refine idxT (f := pgC) (k := 0) hx rfl rfl ?_
    refine callP c11 rfl fun _ => ?_
    refine callP c12 rfl fun _ => ?_
    refine callP c13 ea fun _ => ?_
    refine callP c14 ea fun _ => ?_
    refine callP (c15 hbig) rfl fun _ => ?_
    refine callP (c16 hbig) rfl fun _ => ?_
    refine brn_p (fun _ => ?_) (fun h => (h rfl).elim)
    refine callP (s17 _) rfl fun _ => ?_
    refine brn_p (fun _ => ?_) (fun h => (h rfl).elim)
    refine callP (s18 _) rfl fun _ => ?_
    refine brn_p (fun _ => ?_) (fun h => (h rfl).elim)
    refine callP (s18 _) rfl fun _ => ?_
    refine callPD c19 rfl fun _ => ?_
    refine callPD c20 rfl fun _ => ?_
    refine callPD (s17 _) rfl fun _ => ?_
    refine callPD c22 rfl fun _ => ?_
    refine callPD c23 rfl fun _ => ?_
    refine callPD (s21 _) rfl fun _ => ?_
    exact retP rfl rfl
  · have e := hrn (by omega)
    have ea : [C.agg (diskC d), C.sl []] = [C.agg (diskC d), C.sl (bcells r0)] := by rw [e]; rfl
    refine callP c11 rfl fun _ => ?_
    refine callP c12 rfl fun _ => ?_
    refine callP c13 ea fun _ => ?_
    refine callP c14 ea fun _ => ?_
    refine callP (c15 hbig) rfl fun _ => ?_
    refine callP (c16 hbig) rfl fun _ => ?_
    refine brn_p (fun _ => ?_) (fun h => (h rfl).elim)
    refine callP (s17 _) rfl fun _ => ?_
    refine brn_p (fun _ => ?_) (fun h => (h rfl).elim)
    refine callP (s18 _) rfl fun _ => ?_
    refine brn_p (fun _ => ?_) (fun h => (h rfl).elim)
    refine callP (s18 _) rfl fun _ => ?_
    refine callPD c19 rfl fun _ => ?_
    refine callPD c20 rfl fun _ => ?_
    refine callPD (s17 _) rfl fun _ => ?_
    refine callPD c22 rfl fun _ => ?_
    refine callPD c23 rfl fun _ => ?_
    refine callPD (s21 _) rfl fun _ => ?_
    exact retP rfl rfl
end Go.Fr.Try
