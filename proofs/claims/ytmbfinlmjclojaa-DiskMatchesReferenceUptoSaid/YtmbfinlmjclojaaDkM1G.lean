/- Part of the proofs of the statements of this seat. -/
import Derived.Test.YtmbfinlmjclojaaDkT9G
import Derived.Test.YtmbfinlmjclojaaFW3
import Derived.OwnWalk
import Derived.WalkKit
/- Disk: the records in a space. -/
set_option linter.unusedVariables false
set_option linter.unusedSimpArgs false
namespace Go.Fr.Try
open Go Go.RowKit Go.Proofs Go.Fr Go.Fr.T
/-- the records in a space, and where they end -/
def parseF : Nat → List UInt8 → List (List UInt8) × Nat
  | k + 1, f :: a :: b :: r => if f = 1 ∧ a.toNat * 256 + b.toNat ≤ r.length then
      (r.take (a.toNat * 256 + b.toNat) :: (parseF k (r.drop (a.toNat * 256 + b.toNat))).1, a.toNat * 256 + b.toNat + 3 + (parseF k (r.drop (a.toNat * 256 + b.toNat))).2)
    else ([], 0)
  | _, _ => ([], 0)
def parse (s : List UInt8) : List (List UInt8) × Nat := parseF s.length s
theorem parseF_le : ∀ (k : Nat) (s : List UInt8), s.length ≤ k → parseF k s = parse s := by
  have h : ∀ (n k m : Nat) (s : List UInt8), s.length ≤ n → n ≤ k → n ≤ m → parseF k s = parseF m s := by
    intro n
    induction n with
    | zero =>
      intro k m s hs _ _
      have : s = [] := List.length_eq_zero_iff.1 (by omega)
      subst this
      cases k <;> cases m <;> rfl
    | succ n ih =>
      intro k m s hs hk hm
      match s, k, m, hs, hk, hm with
      | [], k, m, _, _, _ => cases k <;> cases m <;> rfl
      | [_], k, m, _, _, _ => cases k <;> cases m <;> rfl
      | [_, _], k, m, _, _, _ => cases k <;> cases m <;> rfl
      | f :: a :: b :: r, k + 1, m + 1, hs, hk, hm =>
        simp only [parseF]
        rw [ih k m (r.drop (a.toNat * 256 + b.toNat)) (by simp only [List.length_drop, List.length_cons] at hs ⊢; omega) (by omega) (by omega)]
  intro k s hs
  exact h s.length k s.length s (Nat.le_refl _) hs (Nat.le_refl _)
theorem parse_cons (f a b : UInt8) (r : List UInt8) : parse (f :: a :: b :: r) = if f = 1 ∧ a.toNat * 256 + b.toNat ≤ r.length then
      (r.take (a.toNat * 256 + b.toNat) :: (parse (r.drop (a.toNat * 256 + b.toNat))).1, a.toNat * 256 + b.toNat + 3 + (parse (r.drop (a.toNat * 256 + b.toNat))).2)
    else ([], 0) := by
  have h : parse (f :: a :: b :: r) = parseF (r.length + 2 + 1) (f :: a :: b :: r) := rfl
  rw [h, parseF, parseF_le _ _ (by simp only [List.length_drop]; omega)]
theorem parse_small {s : List UInt8} (h : s.length < 3) : parse s = ([], 0) := by
  match s, h with
  | [], _ => rfl
  | [_], _ => rfl
  | [_, _], _ => rfl
theorem drop3 {s : List UInt8} {at' : Nat} {f a b : UInt8} (h0 : s[at']? = some f) (h1 : s[at' + 1]? = some a) (h2 : s[at' + 2]? = some b) : s.drop at' = f :: a :: b :: s.drop (at' + 3) := by
  obtain ⟨k0, rfl⟩ := List.getElem?_eq_some_iff.1 h0
  obtain ⟨k1, rfl⟩ := List.getElem?_eq_some_iff.1 h1
  obtain ⟨k2, rfl⟩ := List.getElem?_eq_some_iff.1 h2
  rw [List.drop_eq_getElem_cons k0, List.drop_eq_getElem_cons k1, List.drop_eq_getElem_cons k2]
/-- one frame -/
theorem parse_hit {s : List UInt8} {at' : Nat} {a b : UInt8} (h0 : s[at']? = some 1) (h1 : s[at' + 1]? = some a) (h2 : s[at' + 2]? = some b) (h : at' + 3 + (a.toNat * 256 + b.toNat) ≤ s.length) :
    parse (s.drop at') = ((s.drop (at' + 3)).take (a.toNat * 256 + b.toNat) :: (parse (s.drop (at' + 3 + (a.toNat * 256 + b.toNat)))).1, a.toNat * 256 + b.toNat + 3 + (parse (s.drop (at' + 3 + (a.toNat * 256 + b.toNat)))).2) := by
  rw [drop3 h0 h1 h2, parse_cons, if_pos ⟨rfl, by rw [List.length_drop]; omega⟩, List.drop_drop]
theorem parse_over {s : List UInt8} {at' : Nat} {a b : UInt8} (h0 : s[at']? = some 1) (h1 : s[at' + 1]? = some a) (h2 : s[at' + 2]? = some b) (h : ¬ at' + 3 + (a.toNat * 256 + b.toNat) ≤ s.length) : parse (s.drop at') = ([], 0) := by
  rw [drop3 h0 h1 h2, parse_cons, if_neg (fun h' => h (by
    have h3 := h'.2
    rw [List.length_drop] at h3
    have := (List.getElem?_eq_some_iff.1 h2).1
    omega))]
theorem parse_miss {s : List UInt8} {at' : Nat} {f : UInt8} (h0 : s[at']? = some f) (h1 : at' + 3 ≤ s.length) (h : f ≠ 1) : parse (s.drop at') = ([], 0) := by
  rw [drop3 h0 (List.getElem?_eq_getElem (by omega)) (List.getElem?_eq_getElem (by omega)), parse_cons, if_neg (fun h' => h h'.1)]
theorem parse_end {s : List UInt8} {at' : Nat} (h1 : ¬ at' + 3 ≤ s.length) : parse (s.drop at') = ([], 0) := parse_small (by rw [List.length_drop]; omega)
theorem u8_one {x : UInt8} : (x.toNat : Int) = 1 ↔ x = 1 := by
  constructor
  · intro h
    exact UInt8.toNat_inj.1 (by show x.toNat = 1; omega)
  · rintro rfl; rfl
theorem parse_recs_le {s : List UInt8} : ∀ {n : Nat}, s.length ≤ n → 3 * (parse s).1.length ≤ s.length ∧ (parse s).2 ≤ s.length := by
  intro n
  induction n generalizing s with
  | zero => intro h; rw [parse_small (by omega)]; simp
  | succ n ih =>
    intro h
    match s, h with
    | [], _ => exact ⟨Nat.zero_le _, Nat.zero_le _⟩
    | [_], _ => exact ⟨Nat.zero_le _, Nat.zero_le _⟩
    | [_, _], _ => exact ⟨Nat.zero_le _, Nat.zero_le _⟩
    | f :: a :: b :: r, h =>
      rw [parse_cons]
      split
      · rename_i h1
        have := ih (s := r.drop (a.toNat * 256 + b.toNat)) (by simp only [List.length_drop, List.length_cons] at h ⊢; omega)
        simp only [List.length_drop, List.length_cons] at this h ⊢
        omega
      · simp
theorem p3 (k n v : Nat) : k + 3 + n + v = k + (n + 3 + v) := by omega
theorem tupE {a a' : List (List UInt8)} {n n' : Nat} (h : a = a') (e : n = n') : C.tup [.sl (a.map pgC), IC n] = C.tup [.sl (a'.map pgC), IC n'] := by rw [h, e]
theorem sub_bcells {s : List UInt8} {k n : Nat} (h : k + n ≤ s.length) : ((bcells s).drop ((k : Nat) : Int).toNat).take (((k + n : Nat) : Int).toNat - ((k : Nat) : Int).toNat) = bcells ((s.drop k).take n) := by
  have e : ((k + n : Nat) : Int).toNat - ((k : Nat) : Int).toNat = n := by omega
  rw [e, Int.toNat_natCast]
  simp [bcells, List.map_drop, List.map_take]
theorem sub_len {s : List UInt8} {k n : Nat} (h : k + n ≤ s.length) : (((bcells s).drop ((k : Nat) : Int).toNat).take (((k + n : Nat) : Int).toNat - ((k : Nat) : Int).toNat)).length = n := by
  rw [sub_bcells h, bcells_len, List.length_take, List.length_drop]; omega
theorem snoc_pg {l : List (List UInt8)} {x : List UInt8} {c : List (List C)} (h : c = bcells x) : (l ++ [x]).map pgC = l.map pgC ++ [[.sl c]] := by rw [h]; simp [pgC]
set_option maxRecDepth 10000 in
theorem t30 (s : List UInt8) (hs : s.length ≤ 2 ^ 40) : CallsT P 30 [.sl (bcells s)] [] (Ret [] (.tup [.sl ((parse s).1.map pgC), IC (parse s).2])) := by
  have hhit := @parse_hit s
  have hover := @parse_over s
  have hmiss := @parse_miss s
  have hend := @parse_end s
  have hle := fun k => parse_recs_le (s := s.drop k) (Nat.le_refl _)
  have h0 : parse (s.drop 0) = parse s := rfl
  generalize parse s = r at h0 ⊢
  obtain ⟨V, hV⟩ : ∃ V : Nat → List (List UInt8) × Nat, ∀ k, V k = parse (s.drop k) := ⟨_, fun _ => rfl⟩
  simp only [← hV] at hhit hover hmiss hend h0 hle
  clear hV
  have hn := bcells_len s
  refine callsT_facts Try.func30 facts30 rfl fun hw _ => ?_
  refine LoopT.mk ⟨Nat × List (List UInt8), (0, []), fun y => y.1 ≤ s.length ∧ 3 * y.2.length ≤ y.1 ∧ y.2 ++ (V y.1).1 = r.1 ∧ y.1 + (V y.1).2 = r.2, [5, 4], fun y => [IC y.1, .rw 54], fun y => [(54, .row 28 1 (y.2.map pgC))], fun y => s.length - y.1,
    ⟨Nat.zero_le _, Nat.le_refl _, by rw [h0]; rfl, by rw [h0]; exact Nat.zero_add _⟩, ⟨same_keys rfl, .inr (.inr (.inr (.inl ⟨rfl, 54, 28, 1, rfl, rfl, rfl⟩))), trivial⟩, ⟨.inr ⟨rfl, 28, 1, rfl⟩, trivial⟩, fun _ => rfl, fun _ => rfl, ?_⟩
  rintro ⟨k, l⟩ ⟨hk, hl, e1, e2⟩ _ _
  simp only at hk hl e1 e2
  refine Fit.in64 (by omega) (by omega) ?_
  refine brn_p (fun hlt => ?_) (fun hge => ?_)
  · have hk0 : k < s.length := by omega
    have hk1 : k + 1 < s.length := by omega
    have hk2 : k + 2 < s.length := by omega
    have hx := (drop_cons hk0).choose_spec.1
    have hx1 := (drop_cons hk1).choose_spec.1
    have hx2 := (drop_cons hk2).choose_spec.1
    have u1 := (drop_cons hk1).choose.toNat_lt
    have u2 := (drop_cons hk2).choose.toNat_lt
    refine idxB hx ?_
    refine brn_split (fun hq => ?_) (fun hq => ?_)
    · have hone : (drop_cons hk0).choose = 1 := u8_one.1 (by simpa using hq)
      rw [hone] at hx
      have hh := hhit hx hx1 hx2
      have ho := hover hx hx1 hx2
      clear hhit hover hmiss hend hx
      refine Fit.to (m := ((k + 1 : Nat) : Int)) (by rw [wrap_i64 (by omega) (by omega)]; omega) ?_
      refine idxB hx1 ?_
      refine Fit.in64 (by omega) (by omega) ?_
      refine Fit.in64 (by omega) (by omega) ?_
      refine Fit.to (m := ((k + 2 : Nat) : Int)) (by rw [wrap_i64 (by omega) (by omega)]; omega) ?_
      refine idxB hx2 ?_
      refine Fit.in64 (by omega) (by omega) ?_
      refine Fit.in64 (by omega) (by omega) ?_
      refine Fit.in64 (by omega) (by omega) ?_
      refine Fit.in64 (by omega) (by omega) ?_
      refine brn_p (fun hgt => ?_) (fun hle' => ?_)
      · have hv := ho (by omega)
        rw [hv, List.append_nil] at e1
        rw [hv] at e2
        refine retF [54] [] ⟨_, [], rfl, rfl, rfl, rfl, ?_⟩
        exact tupE e1 e2
      · have hle' : k + 3 + ((drop_cons hk1).choose.toNat * 256 + (drop_cons hk2).choose.toNat) ≤ s.length := by omega
        have hv := hh hle'
        have hpart := sub_bcells (s := s) (k := k + 3) (n := (drop_cons hk1).choose.toNat * 256 + (drop_cons hk2).choose.toNat) hle'
        have hplen := sub_len (s := s) (k := k + 3) (n := (drop_cons hk1).choose.toNat * 256 + (drop_cons hk2).choose.toNat) hle'
        rw [hv] at e1 e2
        clear hh ho
        refine Fit.to (m := ((k + 3 : Nat) : Int)) (by rw [wrap_i64 (by omega) (by omega)]; omega) ?_
        refine Fit.to (m := ((k + 3 : Nat) : Int)) (by rw [wrap_i64 (by omega) (by omega)]; omega) ?_
        refine Fit.to (m := ((k + 3 + ((drop_cons hk1).choose.toNat * 256 + (drop_cons hk2).choose.toNat) : Nat) : Int)) (by rw [wrap_i64 (by omega) (by omega)]; omega) ?_
        refine SlcT.mk (by omega) (by omega) (by omega) bcells_sz ?_
        refine AppT.mk ?_ ?_ ?_ ?_
        · intro es he
          exact bcells_sz es (List.mem_of_mem_drop (List.mem_of_mem_take he))
        · show 0 + _ ≤ maxLen
          rw [hplen]; simp only [maxLen]; omega
        · show (0 + _) * 1 ≤ _
          rw [hplen]; omega
        refine AppT.mk ?_ ?_ ?_ ?_
        · intro es he
          rcases List.mem_cons.1 he with rfl | he
          · rfl
          · cases he
        · show (l.map pgC).length + 1 ≤ maxLen
          rw [List.length_map]; simp only [maxLen]; omega
        · show ((l.map pgC).length + 1) * 24 ≤ _
          rw [List.length_map]; omega
        refine Fit.to (m := ((k + 3 : Nat) : Int)) (by rw [wrap_i64 (by omega) (by omega)]; omega) ?_
        refine Fit.to (m := ((k + 3 + ((drop_cons hk1).choose.toNat * 256 + (drop_cons hk2).choose.toNat) : Nat) : Int)) (by rw [wrap_i64 (by omega) (by omega)]; omega) ?_
        refine ⟨(k + 3 + ((drop_cons hk1).choose.toNat * 256 + (drop_cons hk2).choose.toNat), l ++ [(s.drop (k + 3)).take ((drop_cons hk1).choose.toNat * 256 + (drop_cons hk2).choose.toNat)]), ⟨hle', by rw [List.length_append]; show 3 * (l.length + 1) ≤ _; omega, by rw [← e1, List.append_assoc]; rfl, by rw [← e2]; exact p3 _ _ _⟩, ⟨same_keys rfl, same_keys rfl, trivial⟩, ⟨.inl ⟨_, rfl, .inl ⟨?_, rfl⟩⟩, trivial⟩, by show s.length - _ < s.length - k; omega⟩
        exact congrArg (TO.row 28 1) (snoc_pg hpart).symm
    · have hv := hmiss hx (by omega) (fun h => by rw [h] at hq; cases hq)
      rw [hv, List.append_nil] at e1
      rw [hv] at e2
      exact retF [54] [] ⟨_, [], rfl, rfl, rfl, rfl, tupE e1 e2⟩
  · have hv := hend (at' := k) (by omega)
    rw [hv, List.append_nil] at e1
    rw [hv] at e2
    exact retF [54] [] ⟨_, [], rfl, rfl, rfl, rfl, tupE e1 e2⟩
end Go.Fr.Try

/- Disk: searches among writes, halves. -/
set_option linter.unusedVariables false
set_option linter.unusedSimpArgs false
namespace Go.Fr.Try
open Go Go.RowKit Go.Proofs Go.Fr Go.Fr.T
def badW (d : List (List UInt8)) (w : Wri) : Bool := !okW d w
theorem t51 (d : List (List UInt8)) (w : Wri) : CallsT P 51 [.agg (wrC w), .pt (diskC d) 0] [] (Ret [] (.bool (badW d w))) := by
  have hv : badW d w = true ↔ w.1 < 0 ∨ (d.length : Int) ≤ w.1 ∨ 256 < w.2.length := by
    simp [badW, okW, ← Int.not_lt, ← Nat.not_lt, Decidable.imp_iff_not_or]
    omega
  generalize badW d w = r at hv ⊢
  have hm : (d.map pgC).length = d.length := List.length_map _
  have hn := bcells_len w.2
  refine callsT_facts Try.func51 facts51 rfl fun hw _ => ?_
  refine brn_p (fun h1 => ?_) (fun h1 => ?_)
  · exact retP rfl (congrArg C.bool (hv.2 (.inl h1)).symm)
  refine brn_p (fun h2 => ?_) (fun h2 => ?_)
  · exact retP rfl (congrArg C.bool (hv.2 (.inr (.inl (by omega)))).symm)
  have e : decide ((256 : Int) < ((bcells w.2).length : Int)) = r := by
    cases hr : r
    · refine decide_eq_false fun h => ?_
      have := hv.2 (.inr (.inr (by omega)))
      rw [hr] at this; cases this
    · have := hv.1 hr
      exact decide_eq_true (by omega)
  exact retP rfl (congrArg C.bool e)
set_option maxRecDepth 10000 in
theorem t59 (l : List Wri) (f : Nat) (cs : List C) (off : Nat) (q : Wri → Bool) (hf : ∀ w ∈ l, CallsT P f [.agg (wrC w), .pt cs off] [] (Ret [] (.bool (q w)))) : CallsT P 59 [.sl (l.map wrC), .fn f [] [.pt cs off]] [] (Ret [] (IC (idxF q l))) := by
  have h0 := idxAt_0 q l
  generalize idxF q l = r at h0 ⊢
  refine callsT_facts Try.func59 facts59 rfl fun hw _ => ?_
  have hl : l.length ≤ 9223372036854775807 := wf_lenM hw.1
  refine loopN l.length 8 [] () (fun _ => []) (fun _ => []) (fun k _ => r = idxAt q l k) h0 (same_keys rfl) trivial trivial (fun _ => rfl) (fun _ => rfl) ?_
  rintro k s hk hinv _ _ _
  refine brn_p (fun hlt => ?_) (fun hge => ?_)
  · have hlt : k < l.length := by simpa using hlt
    have hx := (drop_cons hlt).choose_spec.1
    refine idxT (f := wrC) hx rfl rfl ?_
    refine callP (hf _ (List.mem_of_getElem? hx)) rfl fun _ => ?_
    refine brn_split (fun hq => ?_) (fun hq => ?_)
    · have e : (k : Int) = r := by rw [hinv, idxAt_hit hx hq]
      exact retP rfl (congrArg IC e)
    · refine Fit.in64 (by omega) (by omega) ?_
      exact ⟨(k + 1, ()), ⟨hlt, by rw [hinv, idxAt_miss hx hq]⟩, ⟨nextI, trivial⟩, trivial, nextM hlt⟩
  · have hge : ¬ k < l.length := by simpa using hge
    have e : (-1 : Int) = r := by rw [hinv, idxAt_end hge]
    exact retP rfl (congrArg IC e)
theorem t52 (l : List Wri) (f : Nat) (cs : List C) (off : Nat) (q : Wri → Bool) (hf : ∀ w ∈ l, CallsT P f [.agg (wrC w), .pt cs off] [] (Ret [] (.bool (q w)))) : CallsT P 52 [.sl (l.map wrC), .fn f [] [.pt cs off]] [] (Ret [] (.bool (l.any q))) := by
  have h58 := t59 l f cs off q hf
  have h0 := idxF_lt q l
  have h1 := idxF_ge q l
  generalize idxF q l = r at h58 h0 h1
  refine callsT_facts Try.func52 facts52 rfl fun hw _ => ?_
  refine callP h58 rfl fun _ => ?_
  have e : decide ((0 : Int) ≤ r) = l.any q := by
    cases h : l.any q with
    | false => have := h0.2 h; simp; omega
    | true =>
      have : ¬ r < 0 := fun h' => by rw [h0.1 h'] at h; cases h
      simp; omega
  exact retP rfl (congrArg C.bool e)
/-- a half: its disk, its first page, its size -/
def halfC (d : List (List UInt8)) (f n : Nat) : List C := diskC d ++ [IC f, IC n]
theorem t49 (d : List (List UInt8)) (f n : Nat) (p : List UInt8) (hp : d[f]? = some p) : CallsT P 49 [.agg (halfC d f n)] [] (Ret [] (.sl (bcells p))) := by
  refine callsT_facts Try.func49 facts49 rfl fun hw _ => ?_
  refine idxT (f := pgC) hp rfl rfl ?_
  exact retP rfl rfl
theorem t47 (d : List (List UInt8)) (f n : Nat) (p : List UInt8) (hp : d[f]? = some p) (hl : p.length = 256) : CallsT P 47 [.agg (halfC d f n)] [] (Ret [] (IC (genP p))) := by
  have h49 := t49 d f n p hp
  have h56 := t56 (p.take 4) (by rw [List.length_take]; omega)
  have h4 : p[4]? = some p[4] := List.getElem?_eq_getElem (by omega)
  generalize p[4] = b at h4
  have e : genP p = if b = 1 then (valB (p.take 4) : Int) else -1 := by simp [genP, h4]
  generalize genP p = r at e ⊢
  have hn := bcells_len p
  have ht : ((bcells p).drop (Int.toNat 0)).take (Int.toNat 4 - Int.toNat 0) = bcells (p.take 4) := by
    show (bcells p).take 4 = _
    simp [bcells, List.map_take]
  generalize bcells (p.take 4) = t at h56 ht
  refine callsT_facts Try.func47 facts47 rfl fun hw _ => ?_
  refine callP h49 rfl fun _ => ?_
  refine idxB (k := 4) h4 ?_
  refine brn_split (fun hq => ?_) (fun hq => ?_)
  · have hb : ¬ b = 1 := fun h => by rw [h] at hq; cases hq
    exact retP rfl (congrArg IC (by rw [e, if_neg hb]))
  · have hb : b = 1 := u8_one.1 (by simpa using hq)
    refine callP h49 rfl fun _ => ?_
    refine SlcT.mk (by omega) (by omega) (by omega) bcells_sz ?_
    refine callP h56 (congrArg (fun l => [C.sl l]) ht) fun _ => ?_
    exact retP rfl (congrArg IC (by rw [e, if_pos hb]))
end Go.Fr.Try

/- Disk: the halves. -/
set_option linter.unusedVariables false
set_option linter.unusedSimpArgs false
namespace Go.Fr.Try
open Go Go.RowKit Go.Proofs Go.Fr Go.Fr.T
set_option maxRecDepth 10000 in
theorem t36 (d : List (List UInt8)) (hv : validD d = true) : CallsT P 36 [.agg (diskC d)] [] (Ret [] (.tup [.agg (halfC d (presD d * (d.length / 2)) (d.length / 2)), .agg (halfC d ((1 - presD d) * (d.length / 2)) (d.length / 2))])) := by
  have h0 := t47 d (0 * (d.length / 2)) (d.length / 2) (headP d 0) (headP_ok hv (by omega)).1 (headP_ok hv (by omega)).2
  have h1 := t47 d (1 * (d.length / 2)) (d.length / 2) (headP d 1) (headP_ok hv (by omega)).1 (headP_ok hv (by omega)).2
  have e : presD d = if genP (headP d 0) < genP (headP d 1) then 1 else 0 := rfl
  generalize presD d = r at e ⊢
  generalize genP (headP d 0) = g0 at h0 e
  generalize genP (headP d 1) = g1 at h1 e
  rw [Nat.one_mul] at h1
  rw [Nat.zero_mul] at h0
  have hm : (d.map pgC).length = d.length := List.length_map _
  generalize hn : d.length / 2 = n at h0 h1 ⊢
  have e1 : g0 < g1 → C.tup [.agg (halfC d n n), .agg (halfC d 0 n)] = C.tup [.agg (halfC d (r * n) n), .agg (halfC d ((1 - r) * n) n)] := by
    intro h
    have hr : r = 1 := by rw [e, if_pos h]
    subst hr
    rw [Nat.one_mul, Nat.sub_self, Nat.zero_mul]
  have e0 : ¬ g0 < g1 → C.tup [.agg (halfC d 0 n), .agg (halfC d n n)] = C.tup [.agg (halfC d (r * n) n), .agg (halfC d ((1 - r) * n) n)] := by
    intro h
    have hr : r = 0 := by rw [e, if_neg h]
    subst hr
    rw [Nat.zero_mul, Nat.sub_zero, Nat.one_mul]
  generalize C.tup [.agg (halfC d (r * n) n), .agg (halfC d ((1 - r) * n) n)] = R at e1 e0 ⊢
  refine callsT_facts Try.func36 facts36 rfl fun hw _ => ?_
  have hlen : d.length ≤ 9223372036854775807 := wf_lenM hw.1.1
  refine NonZ.mk (by omega) ?_
  refine Fit.to (m := (n : Int)) (by
    have : ((d.map pgC).length : Int).tdiv 2 = ((d.length / 2 : Nat) : Int) := by rw [hm]; rfl
    rw [this, hn]; exact wrap_i64 (by omega) (by omega)) ?_
  refine callPD h1 rfl fun _ => ?_
  refine callPD h0 rfl fun _ => ?_
  refine brn_p (fun h => ?_) (fun h => ?_)
  · exact retP rfl (e1 h)
  · exact retP rfl (e0 h)
end Go.Fr.Try

/- Disk: slices.Grow of nothing, by hand: an append of a made slice. -/
set_option linter.unusedVariables false
set_option linter.unusedSimpArgs false
namespace Go.Fr.Try
open Go Go.RowKit Go.Proofs Go.Fr Go.Fr.T
section
variable {P : Program} (w : World)
theorem run_append_make_nil (t ti ty e : TypeId) (i : TypeInfo) (z : Value) (ht : P.underlying t = some (.slice e)) (hti : P.underlying ti = some (.int .i64)) (hi : P.info? e = some i) (hz : i.zero = some z)
    (n : Nat) (h0 : 0 < n) (hsz : 0 < i.size) (h63 : (n : Int) ≤ 9223372036854775807) (h48 : n * i.bytes ≤ 281474976710656) :
    (Builtin.append_ #[t, ti] ty #[.slice none 0 0, .int .i64 n]).run P w =
      .ok (.slice (some ⟨w.heap.size, 0, none⟩) n (grownCap w n 0 e)) (w.drew.alloc (.cells (Builtin.zeroCells z.cells n ++ Builtin.zeroCells z.cells (grownCap w n 0 e - n)) e)) := by
  have hn : n ≠ 0 := by omega
  have h63' : ¬ (9223372036854775807 < (n : Int)) := by omega
  have h48' : ¬ (281474976710656 < Builtin.nextslicecap n 0 * i.bytes) := by rw [nextslicecap_zero h0]; omega
  have hw : IntKind.wrap .i64 (n : Int) = n := wrap_i64 (by omega) (by omega)
  have hneg : ¬ ((n : Int) < 0) := by omega
  have hbig : ¬ (281474976710656 < (n : Int) * (i.bytes : Int)) := by
    have : ((n * i.bytes : Nat) : Int) ≤ 281474976710656 := by omega
    rw [Int.natCast_mul] at this
    omega
  have hns : n * i.size ≠ 0 := Nat.mul_ne_zero hn (by omega)
  have hs0 : i.size ≠ 0 := by omega
  simp [Builtin.append_, run_underlying ht, run_underlying hti, sizeOf, typeInfo, zeroValue, hi, hz, hw, asInt, asIntOf,  hneg, hbig, hn, hs0, h63', h48', Question.forced, run_firstCells_none, newRow, grownCap]
  exact fun h => absurd h hns
/-- the same, and no length: room alone is left -/
theorem wpList_append_make_nil {ops : Array Oper} {rest : List Oper} {o : Oper} {a : Act} {Q : Exit → Act → World → Prop}
    (hg : o.guard = none) (s x : Operand) (t ti : TypeId) (hop : o.op = Op.call { callee := Callee.builtin Builtin.append, args := #[s, x], argTypes := #[t, ti] })
    (e : TypeId) (i : TypeInfo) (z : Value) (h1 : P.underlying t = some (.slice e)) (hti : P.underlying ti = some (.int .i64)) (hi : P.info? e = some i) (hz : i.zero = some z) (hzs : z.cells.size = i.size) (hsz : 0 < i.size)
    (n : Nat) (hs : a.eval s = .slice none 0 0) (hx : a.eval x = .int .i64 n) (h0 : 0 < n) (hm : n ≤ maxLen) (h48 : n * i.bytes ≤ 281474976710656)
    (hK : ∀ w' c, w'.ownsRow 0 e i.size (.slice (some ⟨w.heap.size, 0, none⟩) 0 c) 0 [] → w.grownBy w' none → n ≤ c → wpList P ops Q rest (a.put o.dst (.slice (some ⟨w.heap.size, 0, none⟩) n c)) w') :
    wpList P ops Q (o :: rest) a w := by
  refine wpList_plain hg fun K hK' => ?_
  have h63 : (n : Int) ≤ 9223372036854775807 := by simp only [maxLen] at hm; omega
  have hrun := run_append_make_nil (P := P) w t ti o.type e i z h1 hti hi hz n h0 hsz h63 h48
  have hge := grownCap_ge w n 0 e
  have hcm : grownCap w n 0 e ≤ maxLen := grownCap_le_maxLen w n 0 e hm
  unfold Oper.wp
  simp [execOp, hop, resolve, invoke, builtin, hs, hx, hrun, Result.andThen]
  refine hK' _ _ (hK _ _ ⟨by simp, .inr ⟨w.heap.size, _, _, rfl, Nat.zero_le _, heap_alloc_new w.drew _, Nat.zero_le _, hcm, ?_, by simp⟩⟩ ⟨rfl, rfl, rfl, by simp, fun k hk _ => heap_alloc_old w.drew _ hk⟩ hge)
  simp only [Array.size_append, size_zeroCells, hzs, ← Nat.add_mul]
  congr 1
  omega
end
theorem info5 : (Try.prog.info? 5).map (fun i => (i.zero, i.size, i.bytes)) = some (some (.int .u8 0), 1, 1) := by kernel_rfl
set_option maxRecDepth 1000000 in
set_option maxHeartbeats 1000000 in
theorem grow60 (n : Nat) (hn : n ≤ 2 ^ 46) (w : World) : Calls Try.prog 60 #[.slice none 0 0, .int .i64 n] w fun e w' => ∃ v, e = .returned v ∧ w'.ownsRow 0 5 1 v 0 [] ∧ w.grownBy w' none ∧ (v.ownBlock = none ∨ v.ownBlock = some w.heap.size) := by
  obtain ⟨i0, hi, hz0, hz1, hz2⟩ := info_parts info5
  go_enter Try.func60, Try.ntmps60
  by_cases h0 : n = 0
  · subst h0
    go_wp2
    go_ret
    exact ⟨_, rfl, World.ownsRow_nil _ _ _ _, World.grownBy.refl _ _, .inl rfl⟩
  · go_wp2_with (at_builtin; refine wpList_append_make_nil _ rfl _ _ 28 3 rfl 5 i0 (.int .u8 0) Try.underlying28 Try.underlying3 hi hz0 (by rw [hz1]; rfl) (by omega) n rfl rfl (by omega) (by simp only [maxLen]; omega) (by rw [hz2]; omega) ?_; intro w2 c2 hown hgrow hcap)
    go_ret
    exact ⟨_, rfl, hz1 ▸ hown, hgrow, .inr rfl⟩
end Go.Fr.Try

/- Disk: slices.Concat. -/
set_option linter.unusedVariables false
set_option linter.unusedSimpArgs false
namespace Go.Fr.Try
open Go Go.RowKit Go.Proofs Go.Fr Go.Fr.T
theorem g60A (n : Nat) (hn : n ≤ 2 ^ 46) (F : Frz) : CallsA Try.prog 60 #[.slice none 0 0, .int .i64 n] F [] (fun _ Lo v => ∃ n xs, Lo = [.row v 5 1 n xs] ∧ n = 0 ∧ xs = []) := by
  refine ⟨⟨Try.f60, rfl, rfl, by decide⟩, fun _ _ _ _ _ h => h, fun w hs => Calls.mono (grow60 n hn w) ?_⟩
  rintro e w' ⟨v, rfl, hown, hgr, hat⟩
  obtain ⟨g1, g2, g3⟩ := grow_own (k := 1000) (n := 0) (xs := []) (s := .slice none 0 0) hs (.inr ⟨rfl, rfl⟩) hown hgr (hat.imp id id)
  exact ⟨_, F, [.row _ 5 1 0 []], rfl, g1, g2, 0, [], rfl, rfl, rfl⟩
/-- a page of a list of pages -/
theorem pg_at {F : Frz} {L : Loc} {l : List (List UInt8)} {a : Option Addr} {n c k : Nat} {x : List UInt8} (h : Rel F L (.sl (l.map pgC)) (.slice a n c)) (hx : l[k]? = some x) :
    ∃ a' c', FCells F a (k * 1) [.slice a' x.length c'] ∧ Rel F [] (.sl (bcells x)) (.slice a' x.length c') ∧ a ≠ none ∧ k < n := by
  obtain ⟨vs, h1, h2, h3, h4, h5, h6⟩ := sl_at (k := k) (es := pgC x) (sz := 1) h (by rw [List.getElem?_map, hx]; rfl) rfl
  simp only [pgC, Rels] at h3
  obtain ⟨v, vs', rfl, h7, rfl⟩ := h3
  obtain ⟨a', c', rfl, _⟩ := sl_bytes h7
  exact ⟨a', c', h2, h7, h5, h6⟩
set_option maxRecDepth 10000 in
theorem t57 (l : List (List UInt8)) (hl : l.length ≤ 2 ^ 40) (hb : l.flatten.length ≤ 2 ^ 40) : CallsT Try.prog 57 [.sl (l.map pgC)] [] (Ret [.row 5 1 (bcells l.flatten)] (.rw 1000)) := by
  have hN : (l.map pgC).length = l.length := List.length_map _
  have hsum : ∀ k x, l[k]? = some x → (l.take (k + 1)).flatten = (l.take k).flatten ++ x := fun k x hx => take_flat hx
  have hle : ∀ k, (l.take k).flatten.length ≤ l.flatten.length := by
    intro k
    conv => rhs; rw [← List.take_append_drop k l]
    rw [List.flatten_append, List.length_append]; omega
  have hend : (l.take l.length).flatten = l.flatten := by rw [List.take_length]
  generalize l.flatten = r at hb hle hend ⊢
  obtain ⟨V, hV⟩ : ∃ V : Nat → List UInt8, ∀ k, V k = (l.take k).flatten := ⟨_, fun _ => rfl⟩
  have h0 : V 0 = [] := by rw [hV]; rfl
  simp only [← hV] at hsum hle hend
  clear hV
  refine ⟨fun F Li vs hl0 ht hr => ?_⟩
  have hLi : Li = [] := List.length_eq_zero_iff.1 hl0
  subst hLi
  simp only [Rels] at hr
  obtain ⟨v, _, rfl, hv, rfl⟩ := hr
  obtain ⟨a, c, rfl, hc, hm, hnil⟩ := sl_form hv
  rw [hN] at hv hc hm ⊢
  refine callsA2_facts (svs := [_]) rfl facts57 rfl rfl (vals_own [_]) ResA.mono' ?_
  refine loopNF l.length 11 [3] () (fun k _ => [.int .i64 ((V k).length : Nat)]) (fun _ _ => []) (fun _ _ _ => True) trivial rfl ⟨by rw [h0]; rfl, trivial⟩ (givesR_of trivial) (fun _ _ => trivial) ?_
  · intro k _ F1 jk hle1 hk _ _
    refine brn_p (fun hlt => ?_) (fun hge => ?_)
    · have hlt : k < l.length := by simpa using hlt
      have hx := (drop_cons hlt).choose_spec.1
      have hA := pg_at (hv.mono hle1) hx
      have hs := hsum k _ hx
      have hs1 := hle (k + 1)
      have hs2 : (V (k + 1)).length = (V k).length + (drop_cons hlt).choose.length := by rw [hs, List.length_append]
      clear hs
      refine exE hA fun a' hA => exE hA fun c' hA => ?_
      refine IdxPt.mk hA.2.2.1 (by omega) (by omega) ?_
      refine LoadPt.mk ⟨_, rfl, .inl hA.1, ?_⟩
      refine Fit.to (m := (((V (k + 1)).length : Nat) : Int)) (by rw [wrap_i64 (by omega) (by omega)]; omega) ?_
      refine Fit.in64 (by omega) (by omega) ?_
      exact ⟨(k + 1, ()), ⟨hlt, trivial⟩, ⟨rfl, rfl, trivial⟩, givesR_of trivial, nextM hlt⟩
    · have hk' : V k = r := by rw [← hend]; congr 1; omega
      have hlr : (V k).length = r.length := by rw [hk']
      refine callRow 24 (g60A (V k).length (by omega) F1) rfl fun v F2 n xs hle2 hR => ?_
      have hv2 := hv.mono (Frz.le_trans hle1 hle2)
      refine loopNF l.length 27 [6] v (fun _ v => [v]) (fun k v => [(24, .row v 5 1 (V k).length (bvals (V k)))]) (fun _ _ _ => True) trivial rfl ⟨rfl, trivial⟩ (givesR_of ⟨.inl ?_, trivial⟩) (fun _ _ => trivial) ?_
      · rw [h0, hR.1, hR.2]; rfl
      intro k v F3 jk hle3 hk _ hre
      refine brn_p (fun hlt => ?_) (fun hge => ?_)
      · have hlt : k < l.length := by simpa using hlt
        have hx := (drop_cons hlt).choose_spec.1
        have hA := pg_at (hv2.mono hle3) hx
        have hs := hsum k _ hx
        have hs1 := hle (k + 1)
        have hs2 : (V (k + 1)).length = (V k).length + (drop_cons hlt).choose.length := by rw [hs, List.length_append]
        refine exE hA fun a' hA => exE hA fun c' hA => ?_
        refine IdxPt.mk hA.2.2.1 (by omega) (by omega) ?_
        refine LoadPt.mk ⟨_, rfl, .inl hA.1, ?_⟩
        refine AppPt.mk ⟨24, _, _, _, bvals (drop_cons hlt).choose, .inl rfl, ⟨a', c', rfl, ?_, ?_⟩, bvals_ones _, ?_, ?_, fun v2 hv2 => ?_⟩
        · rw [bvals_len, Nat.mul_one]
        · exact (src_bytes hA.2.1).imp id .inl
        · simp only [maxLen]; omega
        · omega
        refine Fit.in64 (by omega) (by omega) ?_
        refine ⟨(k + 1, v2), ⟨hlt, trivial⟩, ⟨rfl, rfl, trivial⟩, givesR_of ⟨.inl ?_, trivial⟩, nextM hlt⟩
        exact congrArg some (by rw [hs2, hs, bvals_app])
      · have hk' : V k = r := by rw [← hend]; congr 1; omega
        have hr' : RelRow F3 1 (bcells r) (bvals (V k)) := by rw [hk']; exact RelRow_of_bvals r
        exact retRowF 24 hre rfl hr' (by rw [bcells_len, hk'])
end Go.Fr.Try

/- Disk: new disks. -/
set_option linter.unusedVariables false
set_option linter.unusedSimpArgs false
namespace Go.Fr.Try
open Go Go.RowKit Go.Proofs Go.Fr Go.Fr.T
abbrev zeroP : List UInt8 := List.replicate 256 0
def newD (n : Int) : List (List UInt8) × Int := if n < 4 ∨ 400 < n then ([], 1) else (List.replicate n.toNat zeroP, 0)
theorem tupDisk {F : Frz} {L : Loc} {d : List (List UInt8)} {v : Value} {e : Int} (h : Rel F [] (.sl (d.map pgC)) v) (he : e = 0 ∨ e = 1) : Rel F L (.tup [.agg (diskC d), IC e]) (.tuple #[.agg #[v], .int .i64 e]) := by
  simp only [Rel, Rels, diskC] at h ⊢
  refine ⟨[.agg #[v], .int .i64 e], rfl, _, _, rfl, ⟨[v], rfl, _, _, rfl, h, rfl⟩, _, _, rfl, ⟨rfl, ?_⟩, rfl⟩
  rcases he with rfl | rfl <;> rfl
theorem RelRow_rep {F : Frz} {es : List C} {v : Value} (h : Rels F [] es [v]) (ho : onesL es = true) : ∀ n, RelRow F 1 (List.replicate n es) (List.replicate n [v]).flatten
  | 0 => by simp [RelRow]
  | n + 1 => by
    simp only [List.replicate_succ, List.flatten_cons, RelRow]
    exact ⟨[v], _, rfl, rfl, ho, h, RelRow_rep h ho n⟩
theorem rep_set {α : Type} {x y : α} {k n : Nat} (h : k < n) : (List.replicate k x ++ List.replicate (n - k) y).set k x = List.replicate (k + 1) x ++ List.replicate (n - (k + 1)) y := by
  apply List.ext_getElem?
  intro i
  simp only [List.getElem?_set, List.getElem?_append, List.getElem?_replicate, List.length_append, List.length_replicate]
  by_cases h1 : k = i
  · subst h1; simp; omega
  · simp only [h1, if_false]
    by_cases h2 : i < k
    · simp [h2, show i < k + 1 by omega]
    · simp only [h2, if_false, show ¬ i < k + 1 by omega]
      by_cases h3 : i - k < n - k
      · simp [h3, show i - (k + 1) < n - (k + 1) by omega]
      · simp [h3, show ¬ i - (k + 1) < n - (k + 1) by omega]
theorem rep_at {α : Type} {x y : α} {k n : Nat} (h : k < n) : (List.replicate k x ++ List.replicate (n - k) y)[k]? = some y := by
  rw [List.getElem?_append_right (by simp), List.length_replicate, Nat.sub_self, List.getElem?_replicate, if_pos (by omega)]
theorem rep_bvals : ∀ n, (List.replicate n [Value.int .u8 0]).flatten = bvals (List.replicate n 0)
  | 0 => rfl
  | n + 1 => by
    rw [List.replicate_succ, List.flatten_cons, rep_bvals n]
    rfl
theorem zero_bvals : (List.replicate 256 [Value.int .u8 0]).flatten = bvals zeroP := rep_bvals 256
theorem zero_len : zeroP.length = 256 := List.length_replicate
/-- a row of pages that is given up -/
theorem frow_rel {F : Frz} {L : Loc} {v : Value} {sz n : Nat} {xs : List Value} {els : List (List C)} (h : FRow F v sz n xs) (hr : RelRow F sz els xs) (hn : n = els.length) (hm : n ≤ maxLen) : Rel F L (.sl els) v := by
  subst hn
  rcases h with ⟨rfl, h1, _⟩ | ⟨a, c, rfl, h1, h2⟩
  · have : els = [] := List.eq_nil_of_length_eq_zero h1
    subst this
    exact nil_sl
  · simp only [Rel]
    exact ⟨some a, c, rfl, h2, hm, fun e => (by cases e), sz, hr.frz h1⟩
set_option maxRecDepth 10000 in
theorem t11 (n : Int) : CallsT Try.prog 11 [IC n] [] (Ret [] (.tup [.agg (diskC (newD n).1), IC (newD n).2])) := by
  have hbad : n < 4 ∨ 400 < n → newD n = ([], 1) := fun h => by unfold newD; rw [if_pos h]
  have hgood : ¬ n < 4 → ¬ 400 < n → newD n = (List.replicate n.toNat zeroP, 0) := fun h1 h2 => by unfold newD; rw [if_neg (by omega)]
  generalize newD n = r at hbad hgood ⊢
  refine ⟨fun F Li vs hl0 ht hr => ?_⟩
  have hLi : Li = [] := List.length_eq_zero_iff.1 hl0
  subst hLi
  simp only [Rels, Rel] at hr
  obtain ⟨v, _, rfl, ⟨rfl, hw⟩, rfl⟩ := hr
  have hb : ∀ {F : Frz}, n < 4 ∨ 400 < n → Rel F (inp []) (.tup [.agg (diskC r.1), IC r.2]) (.tuple #[.agg #[.slice none 0 0], .int .i64 1]) := fun h => by
    rw [hbad h]; exact tupDisk nil_sl (.inr rfl)
  refine callsA2_facts (svs := [_]) rfl facts11 rfl rfl (vals_own [_]) ResA.mono' ?_
  intro g2
  refine brn_p (fun h1 => ?_) (fun h1 => ?_)
  · exact ⟨[], [], rfl, .nil, resVal' rfl (hb (.inl h1))⟩
  refine brn_p (fun h2 => ?_) (fun h2 => ?_)
  · exact ⟨[], [], rfl, .nil, resVal' rfl (hb (.inr h2))⟩
  have hok := hgood h1 h2
  refine MakePt.mk (by omega) rfl (by omega) (by simp only [maxLen]; omega) ?_
  intro g14 g4
  refine loopNF n.toNat 19 [] (List.replicate n.toNat [Value.slice none 0 0]).flatten (fun _ _ => [])
    (fun k xs => [(2, .box g2 24 [.slice none 0 0]), (4, .box g4 24 [.slice (some ⟨g14, 0, none⟩) n.toNat n.toNat]), (14, .row (.slice (some ⟨g14, 0, none⟩) n.toNat n.toNat) 28 1 n.toNat xs)])
    (fun k xs F => RelRow F 1 (List.replicate k (pgC zeroP) ++ List.replicate (n.toNat - k) [.sl []]) xs) ?_ rfl trivial (givesR_of ⟨.inl rfl, .inl rfl, .inl rfl, trivial⟩) (fun _ _ => ⟨⟨_, rfl⟩, ⟨_, rfl⟩, trivial⟩) ?_
  · rw [Nat.sub_zero]
    exact RelRow_rep (by simp only [Rels]; exact ⟨_, _, rfl, nil_sl, rfl⟩) rfl n.toNat
  intro k xs F2 jk hle2 hk hinv hre
  refine brn_p (fun hlt => ?_) (fun hge => ?_)
  · have hlt : k < n.toNat := by omega
    have hxl := (real_row (k := 14) hre rfl).1
    intro g25 hre25
    refine IdxPt.mk (by simp) (by omega) (by omega) ?_
    refine StorePt.mk ⟨14, _, _, _, _, _, ⟨g14, 0, none⟩, n.toNat, rfl, rfl, rfl, ?_, ?_, ?_⟩
    · show ((k : Int).toNat * 1 + 0 + 1 ≤ xs.length); omega
    · intro u hu; cases hu with | head => rfl | tail _ h => cases h
    intro hre14
    refine FrzPt.mk ⟨_, _, _, _, _, rfl, fun F3 hle3 hr25 => ?_⟩
    refine Fit.in64 (by omega) (by omega) ?_
    have hp : Rel F3 [] (.sl (bcells zeroP)) (.slice (some ⟨g25, 0, none⟩) 256 256) := by
      refine frow_rel hr25 ?_ (by rw [bcells_len, zero_len]) (by simp [maxLen])
      have : (List.replicate 256 [Value.int .u8 0]).flatten = bvals zeroP := zero_bvals
      rw [this]
      exact RelRow_of_bvals zeroP
    have hk0 := rep_at (x := pgC zeroP) (y := [C.sl []]) hlt
    have hset := RelRow.set (hinv.mono hle3) (j := k) (es := [.sl []]) (ds := pgC zeroP) (us := [.slice (some ⟨g25, 0, none⟩) 256 256]) (off := 0) hk0 (by simp) (by simp only [pgC, Rels]; exact ⟨_, _, rfl, hp, rfl⟩) rfl
    refine ⟨(k + 1, splice xs (k * 1 + 0) [.slice (some ⟨g25, 0, none⟩) 256 256]), ⟨hlt, ?_⟩, ⟨rfl, trivial⟩, givesR_of ⟨.inl rfl, .inl rfl, .inl rfl, trivial⟩, nextM hlt⟩
    · have e : spliceC [.sl []] 0 (pgC zeroP) = pgC zeroP := rfl
      rw [e, rep_set hlt] at hset
      exact hset
  · have hk' : k = n.toNat := by omega
    refine FrzPt.mk ⟨_, _, _, _, _, rfl, fun F3 hle3 hr14 => ?_⟩
    refine ⟨[], [], rfl, .nil, resVal' rfl ?_⟩
    rw [hok]
    refine tupDisk ?_ (.inl rfl)
    have h := frow_rel (L := []) hr14 (hinv.mono hle3) (by simp; omega) (by simp only [maxLen]; omega)
    rw [hk', Nat.sub_self, List.replicate_zero, List.append_nil] at h
    rw [List.map_replicate]
    exact h
end Go.Fr.Try

/- Disk: new disks, the reference. -/
set_option linter.unusedVariables false
set_option linter.unusedSimpArgs false
namespace Go.Fr.Try
open Go Go.RowKit Go.Proofs Go.Fr Go.Fr.T
theorem lit_cells {F : Frz} {g : Nat} {cs : List Value} {t : TypeId} {fr : Nat × Nat} (h : F g = some (.cells cs.toArray t fr)) : FCells F (some ⟨g, 0, none⟩) 0 cs :=
  ⟨_, _, _, _, rfl, h, rfl, fun i v hv => by simpa using hv⟩
set_option maxRecDepth 10000 in
theorem t12 (n : Int) : CallsT Try.prog 12 [IC n] [] (Ret [] (.tup [.agg (diskC (newD n).1), IC (newD n).2])) := by
  have hbad : n < 4 ∨ 400 < n → newD n = ([], 1) := fun h => by unfold newD; rw [if_pos h]
  have hgood : ¬ n < 4 → ¬ 400 < n → newD n = (List.replicate n.toNat zeroP, 0) := fun h1 h2 => by unfold newD; rw [if_neg (by omega)]
  generalize newD n = r at hbad hgood ⊢
  refine ⟨fun F Li vs hl0 ht hr => ?_⟩
  have hLi : Li = [] := List.length_eq_zero_iff.1 hl0
  subst hLi
  simp only [Rels, Rel] at hr
  obtain ⟨v, _, rfl, ⟨rfl, hw⟩, rfl⟩ := hr
  have hb : ∀ {F : Frz}, n < 4 ∨ 400 < n → Rel F (inp []) (.tup [.agg (diskC r.1), IC r.2]) (.tuple #[.agg #[.slice none 0 0], .int .i64 1]) := fun h => by
    rw [hbad h]; exact tupDisk nil_sl (.inr rfl)
  refine callsA2_facts (svs := [_]) rfl facts12 rfl rfl (vals_own [_]) ResA.mono' ?_
  intro g2
  refine brn_p (fun h1 => ?_) (fun h1 => ?_)
  · exact ⟨[], [], rfl, .nil, resVal' rfl (hb (.inl h1))⟩
  refine brn_p (fun h2 => ?_) (fun h2 => ?_)
  · exact ⟨[], [], rfl, .nil, resVal' rfl (hb (.inr h2))⟩
  have hok := hgood h1 h2
  intro g4
  refine loopNF n.toNat 5 [] (((none, 0), []) : (Option Addr × Nat) × List Value) (fun _ _ => [])
    (fun k s => [(2, .box g2 24 [.slice none 0 0]), (4, .box g4 24 [.slice s.1.1 k s.1.2]), (22, .row (.slice s.1.1 k s.1.2) 28 1 k s.2)])
    (fun k s F => RelRow F 1 (List.replicate k (pgC zeroP)) s.2) (by simp [RelRow]) rfl trivial (givesR_of ⟨.inl rfl, .inl rfl, .inr ⟨rfl, 28, 1, rfl⟩, trivial⟩) (fun _ _ => ⟨⟨_, rfl⟩, ⟨_, rfl⟩, trivial⟩) ?_
  intro k s F2 jk hle2 hk hinv hre
  refine brn_p (fun hlt => ?_) (fun hge => ?_)
  · have hlt : k < n.toNat := by omega
    intro g20 hre20 g21 F3 hle3 hF21 hre21
    refine appDF 22 k s.2 1 [.slice (some ⟨g20, 0, none⟩) 256 256] (.inl rfl) rfl (.inl (lit_cells hF21)) ?_ (by simp only [maxLen]; omega) (by omega) (fun a c hn hre22 => ?_)
    · intro u hu; cases hu with | head => rfl | tail _ h => cases h
    refine FrzPt.mk ⟨_, _, _, _, _, rfl, fun F4 hle4 hr20 => ?_⟩
    refine Fit.in64 (by omega) (by omega) ?_
    have hp : Rel F4 [] (.sl (bcells zeroP)) (.slice (some ⟨g20, 0, none⟩) 256 256) := by
      refine frow_rel hr20 ?_ (by rw [bcells_len, zero_len]) (by simp [maxLen])
      have : (List.replicate 256 [Value.int .u8 0]).flatten = bvals zeroP := zero_bvals
      rw [this]
      exact RelRow_of_bvals zeroP
    refine ⟨(k + 1, ((a, c), s.2 ++ [.slice (some ⟨g20, 0, none⟩) 256 256])), ⟨hlt, ?_⟩, ⟨rfl, trivial⟩, givesR_of ⟨.inl rfl, .inl rfl, .inl rfl, trivial⟩, nextM hlt⟩
    have e : List.replicate (k + 1) (pgC zeroP) = List.replicate k (pgC zeroP) ++ [pgC zeroP] := List.replicate_succ'
    show RelRow F4 1 (List.replicate (k + 1) (pgC zeroP)) _
    rw [e]
    refine (hinv.mono (Frz.le_trans hle3 hle4)).append ?_
    simp only [RelRow, pgC]
    exact ⟨[_], [], rfl, rfl, rfl, by simp only [Rels]; exact ⟨_, _, rfl, hp, rfl⟩, rfl⟩
  · have hk' : k = n.toNat := by omega
    refine FrzPt.mk ⟨_, _, _, _, _, rfl, fun F3 hle3 hr14 => ?_⟩
    refine ⟨[], [], rfl, .nil, resVal' rfl ?_⟩
    rw [hok]
    refine tupDisk ?_ (.inl rfl)
    have h := frow_rel (L := []) hr14 (hinv.mono hle3) (by simp) (by simp only [maxLen]; omega)
    rw [List.map_replicate, ← hk']
    exact h
end Go.Fr.Try

/- Disk: joins, frames, spaces. -/
set_option linter.unusedVariables false
set_option linter.unusedSimpArgs false
namespace Go.Fr.Try
open Go Go.RowKit Go.Proofs Go.Fr Go.Fr.T
set_option maxRecDepth 10000 in
theorem t40 (l : List (List UInt8)) (hl : l.length ≤ 2 ^ 40) (hb : l.flatten.length ≤ 2 ^ 40) : CallsT P 40 [.sl (l.map pgC)] [] (Ret [.row 5 1 (bcells l.flatten)] (.rw 1000)) := by
  have h57 := t57 l hl hb
  refine callsT_facts Try.func40 facts40 rfl fun hw _ => ?_
  refine callO [] [4] h57 rfl rfl rfl rfl rfl fun _ _ => ?_
  exact retO [4] rfl rfl rfl rfl
theorem word2 {r : List UInt8} (hr : r.length ≤ 65535) (f : UInt8) : [[f], wordB r.length 2, r].flatten = frameB f r := by
  have e : UInt8.ofNat (r.length / 256 % 256) = UInt8.ofNat (r.length / 256) := by
    congr 1; omega
  simp [wordB, frameB, e]
set_option maxRecDepth 10000 in
theorem t41 (r : List UInt8) (f : UInt8) (hr : r.length ≤ 65535) : CallsT P 41 [.sl (bcells r), .int .u8 f.toNat] [] (Ret [.row 5 1 (bcells (frameB f r))] (.rw 1000)) := by
  have h40 := t40 [[f], wordB r.length 2, r] (by simp) (by rw [word2 hr]; simp [frameB]; omega)
  have h50 := t50 r.length 2 (by omega) (by omega)
  rw [word2 hr] at h40
  have hn := bcells_len r
  generalize bcells (frameB f r) = R at h40 ⊢
  generalize wordB r.length 2 = W at h40 h50
  have e : ((bcells r).length : Int) = (r.length : Int) := by rw [hn]
  refine callsT_facts Try.func41 facts41 rfl fun hw _ => ?_
  refine callP h50 (congrArg (fun n => [IC n, IC 2]) e) fun _ => ?_
  refine callO [] [12] h40 rfl rfl rfl rfl rfl fun _ _ => ?_
  exact retO [12] rfl rfl rfl rfl
theorem space_half (d : List (List UInt8)) (h : Nat) : spaceD d h = ((d.drop (h * (d.length / 2) + 1)).take (d.length / 2 - 1)).flatten := rfl
set_option maxRecDepth 10000 in
theorem t37 (d : List (List UInt8)) (f n : Nat) (hf : f + n ≤ d.length) (hn : 1 ≤ n) (hd : d.length ≤ 400) (hp : ∀ p ∈ d, p.length ≤ 65536) :
    CallsT P 37 [.agg (halfC d f n)] [] (Ret [.row 5 1 (bcells ((d.drop (f + 1)).take (n - 1)).flatten)] (.rw 1000)) := by
  have hfl : ((d.drop (f + 1)).take (n - 1)).flatten.length ≤ 400 * 65536 := by
    refine Nat.le_trans (flat_len (c := 65536) fun p hp' => hp p (List.mem_of_mem_drop (List.mem_of_mem_take hp'))) (Nat.mul_le_mul_right _ ?_)
    rw [List.length_take, List.length_drop]; omega
  have h40 := t40 ((d.drop (f + 1)).take (n - 1)) (by rw [List.length_take, List.length_drop]; omega) (by omega)
  have hs : ((d.map pgC).drop (((f + 1 : Nat) : Int)).toNat).take ((((f + n : Nat) : Int)).toNat - (((f + 1 : Nat) : Int)).toNat) = ((d.drop (f + 1)).take (n - 1)).map pgC := by
    have e : ((f + n : Nat) : Int).toNat - ((f + 1 : Nat) : Int).toNat = n - 1 := by omega
    rw [e, Int.toNat_natCast, List.map_take, List.map_drop]
  generalize ((d.drop (f + 1)).take (n - 1)) = l at h40 hs hfl ⊢
  have hm : (d.map pgC).length = d.length := List.length_map _
  refine callsT_facts Try.func37 facts37 rfl fun hw _ => ?_
  refine Fit.to (m := ((f + 1 : Nat) : Int)) (by rw [wrap_i64 (by omega) (by omega)]; omega) ?_
  refine Fit.to (m := ((f + n : Nat) : Int)) (by rw [wrap_i64 (by omega) (by omega)]; omega) ?_
  refine SlcT.mk (by omega) (by omega) (by omega) (fun es he => by obtain ⟨y, _, rfl⟩ := List.mem_map.1 he; rfl) ?_
  refine callO [] [15] h40 rfl rfl (congrArg (fun l => [C.sl l]) hs) rfl rfl fun _ _ => ?_
  exact retO [15] rfl rfl rfl rfl
set_option maxRecDepth 10000 in
theorem t48 (d : List (List UInt8)) (f n : Nat) (b : List UInt8) (v : UInt8) (hb : b.length ≤ 1000) : CallsT P 48 [.sl (bcells b), .int .u8 v.toNat, .own 1000 0] [.box 61 (halfC d f n)] (Ret [.box 61 (halfC d f n)] (.agg (wrC ((f : Int), b ++ [v])))) := by
  have h40 := (t40 [b, [v]] (by simp) (by simp; omega)).give
  have e : [b, [v]].flatten = b ++ [v] := by simp
  rw [e] at h40
  generalize b ++ [v] = R at h40 ⊢
  refine callsT_facts Try.func48 facts48 rfl fun hw _ => ?_
  refine callPD h40 rfl fun _ => ?_
  exact retO [1000] rfl rfl rfl rfl
end Go.Fr.Try

/- Disk: the writes that cover. -/
set_option linter.unusedVariables false
set_option linter.unusedSimpArgs false
namespace Go.Fr.Try
open Go Go.RowKit Go.Proofs Go.Fr Go.Fr.T
/-- bytes laid over others -/
def overlay (s : List UInt8) (at' : Nat) (b : List UInt8) : List UInt8 := s.take at' ++ b.take (s.length - at') ++ s.drop (at' + min b.length (s.length - at'))
theorem overlay_len {s b : List UInt8} {k : Nat} (h : k ≤ s.length) : (overlay s k b).length = s.length := by
  simp [overlay]; omega
/-- the writes of the pages from one on to where bytes end -/
def coverE (first : Nat) (s : List UInt8) (q e k : Nat) : Wri := (((first + (q + k) : Nat) : Int), (s.drop ((q + k) * 256)).take (min 256 (e - (q + k) * 256)))
def coverW (first : Nat) (s : List UInt8) (at' : Nat) (b : List UInt8) : List Wri :=
  (List.range ((at' + min b.length (s.length - at') + 255) / 256 - at' / 256)).map (coverE first (overlay s at' b) (at' / 256) (at' + min b.length (s.length - at')))
theorem splice_overlay {s b : List UInt8} {k : Nat} : splice (bvals s) (k * 1) (bvals (b.take (s.length - k))) = bvals (overlay s k b) := by
  simp only [splice, overlay, bvals, List.map_append, List.map_take, List.map_drop, List.length_take, List.length_map, Nat.mul_one]
  rw [Nat.min_comm]
theorem slcVal_ne {ad : Addr} {c l h : Nat} (hc : c ≠ l) : slcVal (some ad) c ((l : Nat) : Int).toNat ((h : Nat) : Int).toNat 1 = .slice (some (ad.add (l * 1))) (h - l) (c - l) := by
  simp only [slcVal, Int.toNat_natCast, if_neg hc, Option.map_some]
theorem bvals_take {b : List UInt8} {m : Nat} : bvals (b.take m) = (bvals b).take m := by simp [bvals, List.map_take]
theorem wf_nat {n : Nat} (h : n ≤ 9223372036854775807) : (Lit.int .i64 (n : Int)).wf = true := by
  simp only [Lit.wf, Bool.and_eq_true, decide_eq_true_eq]
  exact ⟨by show (-9223372036854775808 : Int) ≤ _; omega, by show _ ≤ (9223372036854775807 : Int); omega⟩
theorem wr_row {F : Frz} {w : Wri} {v : Value} (h1 : (Lit.int .i64 w.1).wf = true) (h2 : Rel F [] (.sl (bcells w.2)) v) : RelRow F 2 [wrC w] [.int .i64 w.1, v] := by
  obtain ⟨a, c, rfl, _⟩ := sl_bytes h2
  simp only [RelRow, wrC]
  refine ⟨[_, _], [], rfl, rfl, rfl, ?_, rfl⟩
  simp only [Rels]
  refine ⟨_, _, rfl, ?_, _, _, rfl, h2, rfl⟩
  simp only [Rel]
  exact ⟨trivial, h1⟩
theorem range_snoc {α : Type} {w : Nat → α} {f : α → List C} {k : Nat} : ((List.range (k + 1)).map w).map f = ((List.range k).map w).map f ++ [f (w k)] := by simp [List.range_succ]
set_option maxRecDepth 10000 in
theorem t39 (d : List (List UInt8)) (f n : Nat) (at' : Nat) (b : List UInt8) (hf : f + n ≤ d.length) (hn : 2 ≤ n) (hd : d.length ≤ 400) (hp : ∀ p ∈ d, p.length ≤ 65536)
    (hat : at' < (((d.drop (f + 1)).take (n - 1)).flatten).length) (hb : b.length ≤ 2 ^ 40) :
    CallsT Try.prog 39 [.agg (halfC d f n), IC at', .sl (bcells b)] [] (Ret [.row 52 2 ((coverW (f + 1) ((d.drop (f + 1)).take (n - 1)).flatten at' b).map wrC)] (.rw 1000)) := by
  have h37 := t37 d f n hf (by omega) hd hp
  have hfl : ((d.drop (f + 1)).take (n - 1)).flatten.length ≤ 400 * 65536 := by
    refine Nat.le_trans (flat_len (c := 65536) fun p hp' => hp p (List.mem_of_mem_drop (List.mem_of_mem_take hp'))) (Nat.mul_le_mul_right _ ?_)
    rw [List.length_take, List.length_drop]; omega
  generalize ((d.drop (f + 1)).take (n - 1)).flatten = s at h37 hfl hat ⊢
  have hol := overlay_len (b := b) (Nat.le_of_lt hat)
  have hsp := splice_overlay (s := s) (b := b) (k := at')
  have hcw : ∀ e q M, e = at' + min b.length (s.length - at') → q = at' / 256 → M = (e + 255) / 256 - q → coverW (f + 1) s at' b = (List.range M).map (coverE (f + 1) (overlay s at' b) q e) := by
    rintro e q M rfl rfl rfl; rfl
  obtain ⟨e, he⟩ : ∃ e, e = at' + min b.length (s.length - at') := ⟨_, rfl⟩
  obtain ⟨q, hq⟩ : ∃ q, q = at' / 256 := ⟨_, rfl⟩
  obtain ⟨M, hM⟩ : ∃ M, M = (e + 255) / 256 - q := ⟨_, rfl⟩
  have hcw := hcw e q M he hq hM
  generalize coverW (f + 1) s at' b = W at hcw ⊢
  subst hcw
  refine ⟨fun F Li vs hl0 ht hr => ?_⟩
  have hLi : Li = [] := List.length_eq_zero_iff.1 hl0
  subst hLi
  simp only [Rels] at hr
  obtain ⟨v0, _, rfl, hv0, v1, _, rfl, hv1, v2, _, rfl, hv2, rfl⟩ := hr
  have hv0' := hv0
  simp only [Rel, halfC, diskC, List.cons_append, List.nil_append, Rels] at hv0'
  obtain ⟨cs, rfl, c0, _, rfl, hc0, c1, _, rfl, ⟨rfl, hw1⟩, c2, _, rfl, ⟨rfl, hw2⟩, rfl⟩ := hv0'
  simp only [Rel] at hv1
  obtain ⟨rfl, hwat⟩ := hv1
  obtain ⟨ab, cb, rfl, hcb, hmb, _⟩ := sl_bytes hv2
  clear hc0
  refine callsA2_facts (svs := [_, _, _]) rfl facts39 rfl rfl (vals_own [_, _, _]) ResA.mono' ?_
  intro g3
  refine callTBRow 12 h37 ⟨_, _, rfl, hv0, rfl⟩ rfl (by omega) fun g12 c F1 hle1 hmx hc => ?_
  refine SlcPt.mk (by omega) (by omega) (by omega) ?_
  refine CopyPt.mk ⟨12, s.length - at', _, _, _, ⟨g12, 0, none⟩, c, c - at', at', b.length, ab, cb, bvals (b.take (s.length - at')), rfl, rfl, ?_, by omega, rfl, ?_, ?_, bvals_ones _, ?_⟩
  · exact slcVal_ne (by omega)
  · rw [bvals_len, List.length_take, Nat.mul_one, Nat.min_comm]
  · exact (src_bytes (hv2.mono hle1)).imp (fun h => bvals_take ▸ fcells_take h) (fun h => ⟨by omega, by rw [bvals_take, h.2]; simp⟩)
  refine Fit.to (m := (e : Int)) (by rw [wrap_i64 (by omega) (by omega)]; omega) ?_
  refine FrzPt.mk ⟨_, _, _, _, _, rfl, fun F2 hle2 hr12 => ?_⟩
  have hs2 : Rel F2 [] (.sl (bcells (overlay s at' b))) (.slice (some ⟨g12, 0, none⟩) s.length c) := by
    have h := hr12
    rw [hsp] at h
    refine frow_rel h (RelRow_of_bvals _) ?_ hmx
    rw [bcells_len, hol]
  clear hr12
  generalize overlay s at' b = S at hs2 hol ⊢
  refine NonZ.mk (by omega) ?_
  refine Fit.to (m := ((q * 256 : Nat) : Int)) (by
    have h1 : (at' : Int).tmod 256 = ((at' % 256 : Nat) : Int) := rfl
    rw [h1, wrap_i64 (by omega) (by omega)]; omega) ?_
  refine LoopPt2.mk ⟨Nat × (Option Addr × Nat) × List Value, (0, (none, 0), []), fun y F => y.1 ≤ M ∧ RelRow F 2 (((List.range y.1).map (coverE (f + 1) S q e)).map wrC) y.2.2, [10, 9], fun y => [.int .i64 (((q + y.1) * 256 : Nat) : Int), .slice y.2.1.1 y.1 y.2.1.2],
    fun y => [(3, .box g3 61 [c0, .int .i64 f, .int .i64 n]), (46, .row (.slice y.2.1.1 y.1 y.2.1.2) 52 2 y.1 y.2.2)], fun y => M - y.1,
    ⟨Nat.zero_le _, by simp [RelRow]⟩, ⟨rfl, rfl, trivial⟩, givesR_of ⟨.inl rfl, .inr ⟨rfl, 52, 2, rfl⟩, trivial⟩, fun _ => ⟨⟨_, rfl⟩, trivial⟩, ?_⟩
  intro y F3 jk hle3 hinv hre
  refine brn_p (fun hlt => ?_) (fun hge => ?_)
  · have hlt : y.1 < M := by omega
    have hpg : (q + y.1) * 256 < e := by omega
    have hM2 : M ≤ 400 * 256 := by omega
    refine Fit.to (m := ((f + 1 : Nat) : Int)) (by rw [wrap_i64 (by omega) (by omega)]; omega) ?_
    refine NonZ.mk (by omega) ?_
    refine Fit.to (m := ((q + y.1 : Nat) : Int)) (by
      have h1 : (((q + y.1) * 256 : Nat) : Int).tdiv 256 = (((q + y.1) * 256 / 256 : Nat) : Int) := rfl
      rw [h1, wrap_i64 (by omega) (by omega)]; omega) ?_
    refine Fit.to (m := ((f + 1 + (q + y.1) : Nat) : Int)) (by rw [wrap_i64 (by omega) (by omega)]; omega) ?_
    refine Fit.to (m := (((q + y.1) * 256 + 256 : Nat) : Int)) (by rw [wrap_i64 (by omega) (by omega)]; omega) ?_
    have hmm : (if (((q + y.1) * 256 + 256 : Nat) : Int) < (e : Int) then (((q + y.1) * 256 + 256 : Nat) : Int) else (e : Int)).toNat = (q + y.1) * 256 + min 256 (e - (q + y.1) * 256) := by
      split <;> omega
    have hmm0 : ((((q + y.1) * 256 : Nat)) : Int).toNat = (q + y.1) * 256 := by omega
    have hmm1 : (((q + y.1) * 256 : Nat) : Int) ≤ (if (((q + y.1) * 256 + 256 : Nat) : Int) < (e : Int) then (((q + y.1) * 256 + 256 : Nat) : Int) else (e : Int)) := by split <;> omega
    have hmm2 : (if (((q + y.1) * 256 + 256 : Nat) : Int) < (e : Int) then (((q + y.1) * 256 + 256 : Nat) : Int) else (e : Int)) ≤ c := by split <;> omega
    refine SlcPt.mk (by omega) hmm1 hmm2 ?_
    have hpart := rel_slc (L' := inp []) (hs2.mono hle3) (l := ((((q + y.1) * 256 : Nat)) : Int).toNat) (h := (if (((q + y.1) * 256 + 256 : Nat) : Int) < (e : Int) then (((q + y.1) * 256 + 256 : Nat) : Int) else (e : Int)).toNat) (by omega) (by omega)
    have hplen : ((S.drop ((((q + y.1) * 256 : Nat)) : Int).toNat).take ((if (((q + y.1) * 256 + 256 : Nat) : Int) < (e : Int) then (((q + y.1) * 256 + 256 : Nat) : Int) else (e : Int)).toNat - ((((q + y.1) * 256 : Nat)) : Int).toNat)).length ≤ 2 ^ 46 := by
      rw [List.length_take]; omega
    have hpe : (S.drop ((((q + y.1) * 256 : Nat)) : Int).toNat).take ((if (((q + y.1) * 256 + 256 : Nat) : Int) < (e : Int) then (((q + y.1) * 256 + 256 : Nat) : Int) else (e : Int)).toNat - ((((q + y.1) * 256 : Nat)) : Int).toNat) = (coverE (f + 1) S q e y.1).2 := by
      rw [hmm, hmm0, Nat.add_sub_cancel_left]; rfl
    refine callTBytesD (t53 _ hplen).give ⟨_, _, rfl, hpart, rfl⟩ fun a' c' F4 hle4 hr4 hre4 => ?_
    intro g45 F5 hle5 hF45 hre5
    refine appDF 46 y.1 y.2.2 1 [.int .i64 ((f + 1 + (q + y.1) : Nat) : Int), .slice a' _ c'] (.inl rfl) rfl (.inl (lit_cells hF45)) ?_ (by simp only [maxLen]; omega) (by omega) (fun a c hn hre46 => ?_)
    · intro u hu
      cases hu with
      | head => rfl
      | tail _ h => cases h with | head => rfl | tail _ h => cases h
    refine Fit.to (m := (((q + (y.1 + 1)) * 256 : Nat) : Int)) (by rw [wrap_i64 (by omega) (by omega)]; omega) ?_
    refine ⟨(y.1 + 1, (a, c), _), ⟨hlt, ?_⟩, ⟨rfl, rfl, trivial⟩, givesR_of ⟨.inl rfl, .inl rfl, trivial⟩, by show M - (y.1 + 1) < M - y.1; omega⟩
    rw [range_snoc]
    refine (hinv.2.mono (Frz.le_trans hle4 hle5)).append ?_
    have hr5 := hr4.mono hle5
    rw [hpe] at hr5
    exact wr_row (w := coverE (f + 1) S q e y.1) (wf_nat (n := f + 1 + (q + y.1)) (by omega)) (by rw [← hpe] at hr5 ⊢; exact hr5)
  · have hk : y.1 = M := by omega
    have hr : RelRow F3 2 (((List.range M).map (coverE (f + 1) S q e)).map wrC) y.2.2 := hk ▸ hinv.2
    exact retRowF 46 hre rfl hr (by simp [hk])
end Go.Fr.Try

/- Disk: applying writes, the plain model. -/
set_option linter.unusedVariables false
set_option linter.unusedSimpArgs false
namespace Go.Fr.Try
open Go Go.RowKit Go.Proofs Go.Fr Go.Fr.T
def setP (d : List (List UInt8)) (w : Wri) : List (List UInt8) := d.modify w.1.toNat (fun p => overlay p 0 w.2)
def cutT (b : List UInt8) (t : Int) : List UInt8 := if 0 ≤ t ∧ t < b.length then b.take t.toNat else b
/-- the last write is torn -/
def cutL : List Wri → Int → List Wri
  | [], _ => []
  | [w], t => [(w.1, cutT w.2 t)]
  | w :: x :: l, t => w :: cutL (x :: l) t
def applyAll (d : List (List UInt8)) (l : List Wri) : List (List UInt8) := l.foldl setP d
def applyD (d : List (List UInt8)) (l : List Wri) (t : Int) : List (List UInt8) := if validD d && !(l.any (badW d)) then applyAll d (cutL l t) else []
theorem cutL_len : ∀ (l : List Wri) (t : Int), (cutL l t).length = l.length
  | [], _ => rfl
  | [_], _ => rfl
  | w :: x :: l, t => by simp [cutL, cutL_len (x :: l) t]
theorem cutL_get : ∀ (l : List Wri) (t : Int) (k : Nat) (w : Wri), l[k]? = some w → (cutL l t)[k]? = some (w.1, if k + 1 = l.length then cutT w.2 t else w.2)
  | [], _, k, w, h => by simp at h
  | [x], t, 0, w, h => by simp at h; subst h; simp [cutL]
  | [x], t, k + 1, w, h => by simp at h
  | x :: y :: l, t, 0, w, h => by simp at h; subst h; simp [cutL]
  | x :: y :: l, t, k + 1, w, h => by
    have := cutL_get (y :: l) t k w (by simpa using h)
    simp only [cutL, List.getElem?_cons_succ, List.length_cons] at this ⊢
    rw [this]
    simp
theorem applyAll_snoc {d : List (List UInt8)} {L : List Wri} {k : Nat} {w : Wri} (h : L[k]? = some w) : applyAll d (L.take (k + 1)) = setP (applyAll d (L.take k)) w := by
  rw [List.take_add_one, h]
  simp [applyAll]
theorem setP_len (d : List (List UInt8)) (w : Wri) : (setP d w).length = d.length := by simp [setP]
theorem setP_page {c : Nat} {d : List (List UInt8)} (h : ∀ p ∈ d, p.length = c) (w : Wri) : ∀ p ∈ setP d w, p.length = c := by
  intro p hp
  obtain ⟨i, hi⟩ := List.getElem?_of_mem hp
  simp only [setP, List.getElem?_modify] at hi
  cases hd : d[i]? with
  | none => rw [hd] at hi; simp at hi
  | some q =>
    have hq := h q (List.mem_of_getElem? hd)
    rw [hd] at hi
    by_cases hw : w.1.toNat = i
    · simp [hw] at hi
      rw [← hi, overlay_len (Nat.zero_le _), hq]
    · simp [hw] at hi
      rw [← hi]; exact hq
theorem applyAll_len : ∀ (l : List Wri) (d : List (List UInt8)), (applyAll d l).length = d.length
  | [], d => rfl
  | w :: l, d => by
    show (applyAll (setP d w) l).length = _
    rw [applyAll_len l, setP_len]
theorem applyAll_page {c : Nat} : ∀ (l : List Wri) (d : List (List UInt8)), (∀ p ∈ d, p.length = c) → ∀ p ∈ applyAll d l, p.length = c
  | [], d, h => h
  | w :: l, d, h => applyAll_page l (setP d w) (setP_page h w)
theorem validD_iff {d : List (List UInt8)} : validD d = true ↔ 4 ≤ d.length ∧ d.length ≤ 400 ∧ ∀ p ∈ d, p.length = 256 := by simp [validD, and_assoc]
theorem badW_any {d : List (List UInt8)} {l : List Wri} (h : l.any (badW d) = false) : ∀ w ∈ l, 0 ≤ w.1 ∧ w.1 < d.length ∧ w.2.length ≤ 256 := by
  intro w hw
  have := List.any_eq_false.1 h w hw
  simp [badW, okW, and_assoc] at this
  omega
theorem setP_get {d : List (List UInt8)} {w : Wri} {p : List UInt8} (hp : d[w.1.toNat]? = some p) : setP d w = d.set w.1.toNat (overlay p 0 w.2) := by
  rw [setP, modify_eqD hp]
where
  modify_eqD {α : Type} {g : α → α} : ∀ {l : List α} {i : Nat} {x : α}, l[i]? = some x → l.modify i g = l.set i (g x)
    | [], i, x, h => by simp at h
    | y :: l, 0, x, h => by simp at h; subst h; rfl
    | y :: l, i + 1, x, h => by
      have := modify_eqD (g := g) (l := l) (i := i) (x := x) (by simpa using h)
      simp [this]
/- rows of pages -/
abbrev pgV (gc : Nat × Nat) : Value := .slice (some ⟨gc.1, 0, none⟩) 256 gc.2
def pgRow (gc : Nat × Nat) (p : List UInt8) : Own := .row (pgV gc) 5 1 256 (bvals p)
def pgRows (G : List (Nat × Nat)) (ps : List (List UInt8)) : List Own := List.zipWith pgRow G ps
theorem pgRows_get {G : List (Nat × Nat)} {ps : List (List UInt8)} {j : Nat} {gc : Nat × Nat} {p : List UInt8} (h1 : G[j]? = some gc) (h2 : ps[j]? = some p) : (pgRows G ps)[j]? = some (pgRow gc p) := by
  simp [pgRows, List.getElem?_zipWith, h1, h2]
theorem pgRows_len {G : List (Nat × Nat)} {ps : List (List UInt8)} (h : G.length = ps.length) : (pgRows G ps).length = ps.length := by
  simp [pgRows, h]
theorem pgRows_snoc {G : List (Nat × Nat)} {ps : List (List UInt8)} {gc : Nat × Nat} {p : List UInt8} (h : G.length = ps.length) : pgRows (G ++ [gc]) (ps ++ [p]) = pgRows G ps ++ [pgRow gc p] := by
  simp [pgRows, List.zipWith_append h]
end Go.Fr.Try
