/- Part of the proofs of the statements of this seat. -/
import Derived.Test.YtmbfinlmjclojaaFW2
import Derived.Test.YtmbfinlmjclojaaDkCode
/- Disk: pages, well-formed disks, numbers. -/
set_option linter.unusedVariables false
set_option linter.unusedSimpArgs false
namespace Go.Fr.Try
open Go Go.RowKit Go.Proofs Go.Fr Go.Fr.T
noncomputable abbrev P : Program := Try.prog
abbrev IC (n : Int) : C := .int .i64 n
def pgC (p : List UInt8) : List C := [.sl (bcells p)]
def diskC (d : List (List UInt8)) : List C := [.sl (d.map pgC)]
def validD (d : List (List UInt8)) : Bool := decide (4 ≤ d.length) && decide (d.length ≤ 400) && d.all fun p => decide (p.length = 256)

theorem t32 (d : List (List UInt8)) : CallsT P 32 [.agg (diskC d)] [] (Ret [] (IC (d.length / 2 : Nat))) := by
  refine callsT_facts Try.func32 facts32 rfl fun hw _ => ?_
  have hl : d.length ≤ 9223372036854775807 := wf_lenM hw.1.1
  refine NonZ.mk (by omega) ?_
  refine Fit.in64 (n := (((d.map pgC).length / 2 : Nat) : Int)) (by omega) (by rw [List.length_map]; omega) ?_
  have e : (((d.map pgC).length / 2 : Nat) : Int) = (d.length / 2 : Nat) := by rw [List.length_map]
  exact retP rfl (congrArg IC e)
theorem t54 (p : List UInt8) : CallsT P 54 [.sl (bcells p)] [] (Ret [] (.bool (decide (p.length ≠ 256)))) := by
  refine callsT_facts Try.func54 facts54 rfl fun hw _ => ?_
  have e : (!decide ((((bcells p).length : Nat) : Int) = 256)) = decide (p.length ≠ 256) := by
    have h1 : (bcells p).length = p.length := by simp [bcells]
    rw [h1]
    by_cases h : p.length = 256
    · simp [h]
    · have : ¬ (p.length : Int) = 256 := by omega
      simp [h, this]
  exact retP rfl (congrArg C.bool e)
/-- the first that a test holds of -/
def idxF {α : Type} (q : α → Bool) : List α → Int
  | [] => -1
  | x :: l => if q x then 0 else if idxF q l < 0 then -1 else idxF q l + 1
theorem idxF_lt {α : Type} (q : α → Bool) : ∀ l : List α, idxF q l < 0 ↔ l.any q = false
  | [] => by simp [idxF]
  | x :: l => by
    simp only [idxF, List.any_cons, Bool.or_eq_false_iff]
    have := idxF_lt q l
    by_cases h : q x
    · simp [h]
    · rw [if_neg h]
      split
      · rename_i h2; simp [h, this.1 h2]
      · rename_i h2
        constructor
        · intro h3; omega
        · intro h3; exact absurd (this.2 h3.2) h2
theorem idxF_ge {α : Type} (q : α → Bool) : ∀ l : List α, -1 ≤ idxF q l
  | [] => by simp [idxF]
  | x :: l => by
    have := idxF_ge q l
    simp only [idxF]
    split
    · omega
    · split <;> omega
theorem idxF_neg {α : Type} {q : α → Bool} {l : List α} (h : idxF q l < 0) : idxF q l = -1 := by have := idxF_ge q l; omega
/-- where the search stands -/
def idxAt {α : Type} (q : α → Bool) (l : List α) (k : Nat) : Int := if idxF q (l.drop k) < 0 then -1 else idxF q (l.drop k) + k
theorem idxAt_0 {α : Type} (q : α → Bool) (l : List α) : idxF q l = idxAt q l 0 := by
  unfold idxAt
  split
  · rename_i h; exact idxF_neg h
  · simp
theorem idxAt_hit {α : Type} {q : α → Bool} {l : List α} {k : Nat} {x : α} (hx : l[k]? = some x) (hq : q x = true) : idxAt q l k = k := by
  obtain ⟨hk, rfl⟩ := List.getElem?_eq_some_iff.1 hx
  simp only [idxAt, List.drop_eq_getElem_cons hk, idxF, hq, if_true]
  rw [if_neg (by omega)]; omega
theorem idxAt_miss {α : Type} {q : α → Bool} {l : List α} {k : Nat} {x : α} (hx : l[k]? = some x) (hq : q x = false) : idxAt q l k = idxAt q l (k + 1) := by
  obtain ⟨hk, rfl⟩ := List.getElem?_eq_some_iff.1 hx
  have := idxF_ge q (l.drop (k + 1))
  simp only [idxAt, List.drop_eq_getElem_cons hk, idxF, hq, Bool.false_eq_true, if_false]
  by_cases h : idxF q (List.drop (k + 1) l) < 0
  · simp only [h, if_true]; omega
  · simp only [h, if_false]; rw [if_neg (by omega)]; omega
theorem idxAt_end {α : Type} {q : α → Bool} {l : List α} {k : Nat} (h : ¬ k < l.length) : idxAt q l k = -1 := by
  simp [idxAt, drop_end h, idxF]
set_option maxRecDepth 10000 in
theorem t58 (d : List (List UInt8)) (f : Nat) (q : List UInt8 → Bool) (hf : ∀ p ∈ d, CallsT P f [.sl (bcells p)] [] (Ret [] (.bool (q p)))) : CallsT P 58 [.sl (d.map pgC), .fn f [] []] [] (Ret [] (IC (idxF q d))) := by
  have h0 := idxAt_0 q d
  generalize idxF q d = r at h0 ⊢
  refine callsT_facts Try.func58 facts58 rfl fun hw _ => ?_
  have hl : d.length ≤ 9223372036854775807 := wf_lenM hw.1
  refine loopN d.length 8 [] () (fun _ => []) (fun _ => []) (fun k _ => r = idxAt q d k) h0 (same_keys rfl) trivial trivial (fun _ => rfl) (fun _ => rfl) ?_
  rintro k s hk hinv _ _ _
  refine brn_p (fun hlt => ?_) (fun hge => ?_)
  · have hlt : k < d.length := by simpa using hlt
    have hx := (drop_cons hlt).choose_spec.1
    refine idxT (f := pgC) hx rfl rfl ?_
    refine callP (hf _ (List.mem_of_getElem? hx)) rfl fun _ => ?_
    refine brn_split (fun hq => ?_) (fun hq => ?_)
    · have e : (k : Int) = r := by rw [hinv, idxAt_hit hx hq]
      exact retP rfl (congrArg IC e)
    · refine Fit.in64 (by omega) (by omega) ?_
      exact ⟨(k + 1, ()), ⟨hlt, by rw [hinv, idxAt_miss hx hq]⟩, ⟨nextI, trivial⟩, trivial, nextM hlt⟩
  · have hge : ¬ k < d.length := by simpa using hge
    have e : (-1 : Int) = r := by rw [hinv, idxAt_end hge]
    exact retP rfl (congrArg IC e)
theorem t46 (d : List (List UInt8)) (f : Nat) (q : List UInt8 → Bool) (hf : ∀ p ∈ d, CallsT P f [.sl (bcells p)] [] (Ret [] (.bool (q p)))) : CallsT P 46 [.sl (d.map pgC), .fn f [] []] [] (Ret [] (.bool (d.any q))) := by
  have h58 := t58 d f q hf
  have h0 := idxF_lt q d
  have h1 := idxF_ge q d
  generalize idxF q d = r at h58 h0 h1
  refine callsT_facts Try.func46 facts46 rfl fun hw _ => ?_
  refine callP h58 rfl fun _ => ?_
  have e : decide ((0 : Int) ≤ r) = d.any q := by
    cases h : d.any q with
    | false => have := h0.2 h; simp; omega
    | true =>
      have : ¬ r < 0 := fun h' => by rw [h0.1 h'] at h; cases h
      simp; omega
  exact retP rfl (congrArg C.bool e)
set_option maxRecDepth 10000 in
theorem t25 (d : List (List UInt8)) : CallsT P 25 [.agg (diskC d)] [] (Ret [] (.bool (validD d))) := by
  have hv : validD d = true ↔ 4 ≤ d.length ∧ d.length ≤ 400 ∧ ∀ p ∈ d, p.length = 256 := by simp [validD, and_assoc]
  generalize validD d = r at hv ⊢
  refine callsT_facts Try.func25 facts25 rfl fun hw _ => ?_
  have hl : d.length ≤ 9223372036854775807 := wf_lenM hw.1.1
  have hm : (d.map pgC).length = d.length := List.length_map _
  refine brn_p (fun h1 => ?_) (fun h1 => ?_)
  · have e : false = r := by cases hr : r; rfl; have := (hv.1 hr).1; omega
    exact retP rfl (congrArg C.bool e)
  refine brn_p (fun h2 => ?_) (fun h2 => ?_)
  · have e : false = r := by cases hr : r; rfl; have := (hv.1 hr).2.1; omega
    exact retP rfl (congrArg C.bool e)
  refine loopN d.length 3 [] () (fun _ => []) (fun _ => [(1, .box 24 (diskC d))]) (fun k _ => ∀ p ∈ d.take k, p.length = 256) (by simp) (same_keys rfl) trivial ⟨.inl ⟨_, rfl, .inl ⟨rfl, rfl⟩⟩, trivial⟩ (fun _ => rfl) (fun _ => rfl) ?_
  rintro k s hk hinv _ _ _
  refine brn_p (fun hlt => ?_) (fun hge => ?_)
  · have hlt : k < d.length := by simpa using hlt
    have hx := (drop_cons hlt).choose_spec.1
    refine idxT (f := pgC) hx rfl rfl ?_
    refine brn_split (fun hq => ?_) (fun hq => ?_)
    · have e : false = r := by
        cases hr : r
        · rfl
        · have := (hv.1 hr).2.2 _ (List.mem_of_getElem? hx)
          simp [bcells, this] at hq
      exact retP rfl (congrArg C.bool e)
    · refine Fit.in64 (by omega) (by omega) ?_
      refine ⟨(k + 1, ()), ⟨hlt, ?_⟩, ⟨nextI, trivial⟩, ⟨.inl ⟨_, rfl, .inl ⟨rfl, rfl⟩⟩, trivial⟩, nextM hlt⟩
      intro p hp
      rw [List.take_add_one, hx] at hp
      rcases List.mem_append.1 hp with hp | hp
      · exact hinv p hp
      · simp only [Option.toList_some, List.mem_singleton] at hp
        subst hp
        simp [bcells] at hq
        omega
  · have hge : ¬ k < d.length := by simpa using hge
    have e : true = r := by
      rw [List.take_of_length_le (by omega)] at hinv
      exact (hv.2 ⟨by omega, by omega, hinv⟩).symm
    exact retP rfl (congrArg C.bool e)
theorem t35 (d : List (List UInt8)) : CallsT P 35 [.agg (diskC d)] [] (Ret [] (.bool (validD d))) := by
  have h46 := t46 d 54 (fun p => decide (p.length ≠ 256)) (fun p _ => t54 p)
  have hv : validD d = true ↔ 4 ≤ d.length ∧ d.length ≤ 400 ∧ (d.any fun p => decide (p.length ≠ 256)) = false := by simp [validD, and_assoc]
  generalize validD d = r at hv ⊢
  generalize (d.any fun p => decide (p.length ≠ 256)) = q at h46 hv
  refine callsT_facts Try.func35 facts35 rfl fun hw _ => ?_
  have hm : (d.map pgC).length = d.length := List.length_map _
  refine brn_p (fun h1 => ?_) (fun h1 => ?_)
  · refine brn_p (fun h2 => ?_) (fun h2 => ?_)
    · refine callP h46 rfl fun _ => ?_
      have e : (!q) = r := by
        cases hq : q
        · rw [hv.2 ⟨by omega, by omega, hq⟩]; rfl
        · cases hr : r
          · rfl
          · rw [(hv.1 hr).2.2] at hq; cases hq
      exact retP rfl (congrArg C.bool e)
    · have e : false = r := by cases hr : r; rfl; have := (hv.1 hr).2.1; omega
      exact retP rfl (congrArg C.bool e)
  · have e : false = r := by cases hr : r; rfl; have := (hv.1 hr).1; omega
    exact retP rfl (congrArg C.bool e)
end Go.Fr.Try

/- Disk: copies of bytes, numbers in bytes. -/
set_option linter.unusedVariables false
set_option linter.unusedSimpArgs false
namespace Go.Fr.Try
open Go Go.RowKit Go.Proofs Go.Fr Go.Fr.T
theorem bcells_len (a : List UInt8) : (bcells a).length = a.length := by simp [bcells]
theorem bcells_sz {a : List UInt8} : ∀ es ∈ bcells a, es.length = 1 := by
  intro es h
  simp only [bcells, List.mem_map] at h
  obtain ⟨b, _, rfl⟩ := h
  rfl
theorem RetT.cast {Lin : List TO} {L : TL} {v : C} {R R' : List TO → C → Prop} (e : R = R') (h : RetT Lin L v R') : RetT Lin L v R := e ▸ h
set_option maxRecDepth 10000 in
theorem t53 (bs : List UInt8) (hb : bs.length ≤ 2 ^ 46) : CallsT P 53 [.sl (bcells bs)] [] (Ret [.row 5 1 (bcells bs)] (.rw 1000)) := by
  refine callsT_facts Try.func53 facts53 rfl fun hw _ => ?_
  refine fun b hb0 => ?_
  refine brn_split (fun h => ?_) (fun h => ?_)
  · have e : bcells bs = [] := Classical.byContradiction fun hne => by have := hb0 hne; subst this; cases h
    exact RetT.cast (by rw [e]) (retN 7 5 1 rfl rfl)
  refine AppT.mk ?_ ?_ ?_ ?_
  · exact bcells_sz
  · show 0 + (bcells bs).length ≤ maxLen
    simp [bcells, maxLen]; omega
  · show (0 + (bcells bs).length) * 1 ≤ _
    simp [bcells]; omega
  exact retO [5] rfl rfl rfl rfl
/-- the number that bytes are -/
def valB (bs : List UInt8) : Nat := bs.foldl (fun n x => n * 256 + x.toNat) 0
theorem valB_from (bs : List UInt8) : ∀ n, bs.foldl (fun n (x : UInt8) => n * 256 + x.toNat) n < (n + 1) * 256 ^ bs.length := by
  induction bs with
  | nil => intro n; simp
  | cons x l ih =>
    intro n
    have h := ih (n * 256 + x.toNat)
    have hx := x.toNat_lt
    simp only [List.foldl_cons, List.length_cons]
    refine Nat.lt_of_lt_of_le h ?_
    rw [Nat.pow_succ, Nat.mul_comm (256 ^ l.length) 256, ← Nat.mul_assoc]
    exact Nat.mul_le_mul_right _ (by omega)
theorem wrap_u64 (n : Int) : IntKind.wrap .u64 n = n % 18446744073709551616 := by
  have h : IntKind.bits .u64 = 64 := rfl
  simp only [IntKind.wrap, h, IntKind.signed]
  simp
theorem wrap64 {n : Nat} (h : n < 18446744073709551616) : IntKind.wrap .u64 (n : Int) = n := by
  rw [wrap_u64]; omega
theorem or256 {m x : Nat} (hx : x < 256) (h : m * 256 + x < 18446744073709551616) : IntKind.wrap .u64 ((BitVec.ofInt 64 ((m * 256 : Nat) : Int) ||| BitVec.ofInt 64 (x : Int)).toNat : Int) = ((m * 256 + x : Nat) : Int) := by
  have e : (BitVec.ofInt 64 ((m * 256 : Nat) : Int) ||| BitVec.ofInt 64 (x : Int)).toNat = m * 256 + x := by
    have q64 : (2 : Nat) ^ 64 = 18446744073709551616 := by decide
    have h1 : (BitVec.ofInt 64 ((m * 256 : Nat) : Int)).toNat = m * 256 := by rw [BitVec.ofInt_natCast, BitVec.toNat_ofNat]; rw [q64]; omega
    have h2 : (BitVec.ofInt 64 (x : Int)).toNat = x := by rw [BitVec.ofInt_natCast, BitVec.toNat_ofNat]; rw [q64]; omega
    rw [BitVec.toNat_or, h1, h2]
    have := Nat.shiftLeft_add_eq_or_of_lt (a := m) (b := x) (i := 8) (by omega)
    rw [Nat.shiftLeft_eq] at this
    exact this.symm
  rw [e, wrap64 h]
theorem Fit.to {k : IntKind} {n m : Int} {K : Int → Prop} (h : k.wrap n = m) (hK : K m) : Fit k n K := ⟨by rw [h]; exact hK⟩
theorem valB_take {bs : List UInt8} {k : Nat} {x : UInt8} (hx : bs[k]? = some x) : valB (bs.take (k + 1)) = valB (bs.take k) * 256 + x.toNat := by
  rw [List.take_add_one, hx]
  simp [valB]
theorem valB_lt {bs : List UInt8} (h : bs.length ≤ 7) : valB bs < 72057594037927936 := by
  have := valB_from bs 0
  have h2 : 256 ^ bs.length ≤ 256 ^ 7 := Nat.pow_le_pow_right (by omega) h
  have h3 : (256 : Nat) ^ 7 = 72057594037927936 := by decide
  unfold valB
  omega
theorem pow8 : (2 : Int) ^ (min (Int.toNat 8) (IntKind.bits .u64)) = 256 := rfl
set_option maxRecDepth 10000 in
theorem t56 (bs : List UInt8) (hb : bs.length ≤ 7) : CallsT P 56 [.sl (bcells bs)] [] (Ret [] (IC (valB bs))) := by
  have hlast := valB_lt hb
  have hstep : ∀ k x, bs[k]? = some x → valB (bs.take (k + 1)) = valB (bs.take k) * 256 + x.toNat := fun k x hx => valB_take hx
  have hbd : ∀ k, valB (bs.take k) < 72057594037927936 := fun k => valB_lt (by simp; omega)
  have hend : ∀ k, ¬ k < bs.length → valB (bs.take k) = valB bs := fun k h => by rw [List.take_of_length_le (by omega)]
  have h0 : valB (bs.take 0) = 0 := rfl
  generalize valB bs = r at hlast hend ⊢
  obtain ⟨V, hV⟩ : ∃ V : Nat → Nat, ∀ k, V k = valB (bs.take k) := ⟨_, fun _ => rfl⟩
  simp only [← hV] at hstep hbd hend h0
  clear hV
  refine callsT_facts Try.func56 facts56 rfl fun hw _ => ?_
  refine loopN bs.length 8 [3] 0 (fun s => [.int .u64 (s : Nat)]) (fun _ => []) (fun k s => s = V k) h0.symm (same_keys rfl) ⟨same_keys rfl, trivial⟩ trivial (fun _ => rfl) (fun _ => rfl) ?_
  rintro k s hk hinv _ _ _
  have hs := hbd k
  rw [← hinv] at hs
  refine brn_p (fun hlt => ?_) (fun hge => ?_)
  · have hlt : k < bs.length := by simpa [bcells] using hlt
    have hx := (drop_cons hlt).choose_spec.1
    have hxl := (drop_cons hlt).choose.toNat_lt
    have hst := hstep k _ hx
    have hb1 := hbd (k + 1)
    refine idxB hx ?_
    refine ⟨by omega, ?_⟩
    refine Fit.to (m := ((s * 256 : Nat) : Int)) (by rw [pow8, wrap_u64]; omega) ?_
    refine Fit.to (wrap64 (by omega)) ?_
    refine Fit.in64 (by omega) (by omega) ?_
    refine ⟨(k + 1, V (k + 1)), ⟨hlt, rfl⟩, ⟨nextI, .inr (.inl ⟨congrArg (C.int .u64) ?_, rfl⟩), trivial⟩, trivial, nextM hlt⟩
    rw [hst, ← hinv]
    exact or256 (by omega) (by rw [hst, ← hinv] at hb1; omega)
  · have hge : ¬ k < bs.length := by simpa [bcells] using hge
    have e := hend k hge
    refine Fit.in64 (by omega) (by omega) ?_
    exact retP rfl (congrArg IC (by rw [hinv, e]))
end Go.Fr.Try

/- Disk: numbers as bytes. -/
set_option linter.unusedVariables false
set_option linter.unusedSimpArgs false
namespace Go.Fr.Try
open Go Go.RowKit Go.Proofs Go.Fr Go.Fr.T
def wordB (n : Nat) : Nat → List UInt8
  | 0 => []
  | k + 1 => UInt8.ofNat (n / 256 ^ k % 256) :: wordB n k
theorem wrap_u8 (n : Int) : IntKind.wrap .u8 n = n % 256 := by
  have h : IntKind.bits .u8 = 8 := rfl
  simp only [IntKind.wrap, h, IntKind.signed]
  simp
theorem sh_u8 (n j : Nat) (hj : j < 4) : IntKind.wrap .u8 ((n : Int).fdiv (2 ^ (min (8 * (j : Int)).toNat (IntKind.bits .u64)))) = ((UInt8.ofNat (n / 256 ^ j % 256)).toNat : Int) := by
  have e : min (8 * (j : Int)).toNat (IntKind.bits .u64) = 8 * j := by
    have h64 : IntKind.bits .u64 = 64 := rfl
    rw [h64]; omega
  have e2 : (2 : Int) ^ (8 * j) = ((256 ^ j : Nat) : Int) := by rw [Int.pow_mul]; simp
  rw [e, e2, wrap_u8, UInt8.toNat_ofNat']
  have e3 : (n : Int).fdiv ((256 ^ j : Nat) : Int) = ((n / 256 ^ j : Nat) : Int) := by
    rw [Int.fdiv_eq_ediv_of_nonneg _ (Int.natCast_nonneg _)]; rfl
  rw [e3]
  omega
theorem bcells_snoc (a : List UInt8) (b : UInt8) : bcells (a ++ [b]) = bcells a ++ [[bcell b]] := by simp [bcells]
set_option maxRecDepth 10000 in
theorem t50 (n k : Nat) (hn : n < 9223372036854775808) (hk : k ≤ 4) : CallsT P 50 [IC n, IC k] [] (Ret [] (.sl (bcells (wordB n k)))) := by
  refine callsT_facts Try.func50 facts50 rfl fun hw _ => ?_
  refine Fit.in64 (by omega) (by omega) ?_
  refine LoopT.mk ⟨Nat × List UInt8, (k, []), fun y => y.1 ≤ k ∧ y.2.length ≤ 4 ∧ y.2.length + y.1 = k ∧ y.2 ++ wordB n y.1 = wordB n k, [6, 5], fun y => [.int .i64 ((y.1 : Int) - 1), .rw 21], fun y => [(21, .row 5 1 (bcells y.2))], fun y => y.1,
    ⟨Nat.le_refl _, by simp, by simp, rfl⟩, ⟨same_keys rfl, .inr (.inr (.inr (.inl ⟨rfl, 21, 5, 1, rfl, rfl, rfl⟩))), trivial⟩, ⟨.inr ⟨rfl, 5, 1, rfl⟩, trivial⟩, fun _ => rfl, fun _ => rfl, ?_⟩
  rintro ⟨j, s⟩ ⟨h1, h2, h2', h3⟩ _ _
  simp only at h1 h2 h2' h3
  refine brn_p (fun hp => ?_) (fun hp => ?_)
  · obtain ⟨i, hi⟩ : ∃ i : Nat, j = i + 1 := ⟨j - 1, by omega⟩
    have hi0 : ((j : Int) - 1) = (i : Int) := by omega
    refine Fit.to (wrap64 (by omega)) ?_
    refine Fit.in64 (by omega) (by omega) ?_
    refine ⟨by omega, ?_⟩
    refine Fit.to (m := ((UInt8.ofNat (n / 256 ^ i % 256)).toNat : Int)) (by rw [hi0]; exact sh_u8 n i (by omega)) ?_
    refine AppT.mk ?_ ?_ ?_ ?_
    · intro es he
      rcases List.mem_cons.1 he with rfl | he
      · rfl
      · cases he
    · show (bcells s).length + 1 ≤ maxLen
      rw [bcells_len]; simp only [maxLen]; omega
    · show ((bcells s).length + 1) * 1 ≤ _
      rw [bcells_len]; omega
    refine Fit.in64 (by omega) (by omega) ?_
    refine ⟨(i, s ++ [UInt8.ofNat (n / 256 ^ i % 256)]), ⟨by omega, by simp; omega, by simp; omega, ?_⟩, ⟨.inr (.inl ⟨congrArg (C.int .i64) (by rw [hi0]), rfl⟩), same_keys rfl, trivial⟩, ⟨.inl ⟨_, rfl, .inl ⟨?_, rfl⟩⟩, trivial⟩, ?_⟩
    · rw [← h3, hi]; simp [wordB]
    · exact congrArg (TO.row 5 1) (bcells_snoc s (UInt8.ofNat (n / 256 ^ i % 256))).symm
    · show i < j; omega
  · have hj : j = 0 := by omega
    rw [hj] at h3
    have e : s = wordB n k := by rw [← h3]; simp [wordB]
    exact retF [21] [] ⟨_, [], rfl, rfl, rfl, rfl, congrArg (fun l => C.sl (bcells l)) e⟩
end Go.Fr.Try

/- Disk: writes. -/
set_option linter.unusedVariables false
set_option linter.unusedSimpArgs false
namespace Go.Fr.Try
open Go Go.RowKit Go.Proofs Go.Fr Go.Fr.T
/-- a write: its page, and its bytes -/
abbrev Wri := Int × List UInt8
def wrC (w : Wri) : List C := [IC w.1, .sl (bcells w.2)]
def okW (d : List (List UInt8)) (w : Wri) : Bool := decide (0 ≤ w.1) && decide (w.1 < d.length) && decide (w.2.length ≤ 256)
theorem t28 (d : List (List UInt8)) (w : Wri) : CallsT P 28 [.agg (diskC d), .agg (wrC w)] [] (Ret [] (.bool (okW d w))) := by
  have hv : okW d w = true ↔ 0 ≤ w.1 ∧ w.1 < d.length ∧ w.2.length ≤ 256 := by simp [okW, and_assoc]
  generalize okW d w = r at hv ⊢
  have hm : (d.map pgC).length = d.length := List.length_map _
  have hn := bcells_len w.2
  refine callsT_facts Try.func28 facts28 rfl fun hw _ => ?_
  refine brn_p (fun h1 => ?_) (fun h1 => ?_)
  · refine brn_p (fun h2 => ?_) (fun h2 => ?_)
    · have e : decide (((bcells w.2).length : Int) ≤ 256) = r := by
        cases hr : r
        · refine decide_eq_false fun h => ?_
          have := hv.2 ⟨h1, by omega, by omega⟩
          rw [hr] at this; cases this
        · have := (hv.1 hr).2.2
          exact decide_eq_true (by omega)
      exact retP rfl (congrArg C.bool e)
    · have e : false = r := by cases hr : r; rfl; have := (hv.1 hr).2.1; omega
      exact retP rfl (congrArg C.bool e)
  · have e : false = r := by cases hr : r; rfl; have := (hv.1 hr).1; omega
    exact retP rfl (congrArg C.bool e)
def bytesW (l : List Wri) : Nat := (l.map fun w => w.2.length).sum
set_option maxRecDepth 10000 in
theorem t26 (l : List Wri) (hb : bytesW l ≤ 2 ^ 46) : CallsT P 26 [.sl (l.map wrC)] [] (Ret [] (IC (bytesW l))) := by
  have hstep : ∀ k x, l[k]? = some x → bytesW (l.take (k + 1)) = bytesW (l.take k) + x.2.length := by
    intro k x hx
    rw [List.take_add_one, hx]
    simp [bytesW]
  have hle : ∀ k, bytesW (l.take k) ≤ bytesW l := by
    intro k
    have : bytesW l = bytesW (l.take k) + bytesW (l.drop k) := by
      conv => lhs; rw [← List.take_append_drop k l]
      simp only [bytesW, List.map_append, List.sum_append]
    omega
  have hend : ∀ k, ¬ k < l.length → bytesW (l.take k) = bytesW l := fun k h => by rw [List.take_of_length_le (by omega)]
  have h0 : bytesW (l.take 0) = 0 := rfl
  generalize bytesW l = r at hle hend hb ⊢
  obtain ⟨V, hV⟩ : ∃ V : Nat → Nat, ∀ k, V k = bytesW (l.take k) := ⟨_, fun _ => rfl⟩
  simp only [← hV] at hstep hle hend h0
  clear hV
  refine callsT_facts Try.func26 facts26 rfl fun hw _ => ?_
  have hl : l.length ≤ 9223372036854775807 := wf_lenM hw.1
  refine loopN l.length 4 [3] 0 (fun s => [.int .i64 (s : Nat)]) (fun _ => []) (fun k s => s = V k) h0.symm (same_keys rfl) ⟨same_keys rfl, trivial⟩ trivial (fun _ => rfl) (fun _ => rfl) ?_
  rintro k s hk hinv _ _ _
  have hs := hle k
  rw [← hinv] at hs
  refine brn_p (fun hlt => ?_) (fun hge => ?_)
  · have hlt : k < l.length := by simpa using hlt
    have hx := (drop_cons hlt).choose_spec.1
    have hst := hstep k _ hx
    have hs1 := hle (k + 1)
    have hn := bcells_len (drop_cons hlt).choose.2
    refine idxT (f := wrC) hx rfl rfl ?_
    refine Fit.in64 (by omega) (by omega) ?_
    refine Fit.in64 (by omega) (by omega) ?_
    refine ⟨(k + 1, V (k + 1)), ⟨hlt, rfl⟩, ⟨nextI, .inr (.inl ⟨congrArg (C.int .i64) ?_, rfl⟩), trivial⟩, trivial, nextM hlt⟩
    rw [hst, ← hinv, hn]
    omega
  · have hge : ¬ k < l.length := by simpa using hge
    have e := hend k hge
    exact retP rfl (congrArg IC (by rw [hinv, e]))
end Go.Fr.Try

/- Disk: comparisons. -/
set_option linter.unusedVariables false
set_option linter.unusedSimpArgs false
namespace Go.Fr.Try
open Go Go.RowKit Go.Proofs Go.Fr Go.Fr.T
theorem streq_bytes (a b : List UInt8) : streq ⟨a.toArray⟩ ⟨b.toArray⟩ = decide (a = b) := by simp [streq]
theorem same_take {α : Type} {a b : List α} (hl : a.length = b.length) (h : ∀ k, k < a.length → a[k]? = b[k]?) : a = b := by
  apply List.ext_getElem?
  intro k
  by_cases hk : k < a.length
  · exact h k hk
  · rw [List.getElem?_eq_none (by omega), List.getElem?_eq_none (by omega)]
set_option maxRecDepth 10000 in
theorem t21 (a b : List (List UInt8)) : CallsT P 21 [.sl (a.map pgC), .sl (b.map pgC)] [] (Ret [] (.bool (decide (a = b)))) := by
  have hv : decide (a = b) = true ↔ a = b := decide_eq_true_iff
  generalize decide (a = b) = r at hv ⊢
  have ha : (a.map pgC).length = a.length := List.length_map _
  have hb : (b.map pgC).length = b.length := List.length_map _
  refine callsT_facts Try.func21 facts21 rfl fun hw _ => ?_
  have hl : a.length ≤ 9223372036854775807 := wf_lenM hw.1
  refine brn_split (fun h1 => ?_) (fun h1 => ?_)
  · have e : false = r := by
      cases hr : r
      · rfl
      · have := hv.1 hr
        subst this
        simp at h1
    exact retP rfl (congrArg C.bool e)
  have hab : a.length = b.length := by simp at h1; omega
  refine loopN a.length 5 [] () (fun _ => []) (fun _ => []) (fun k _ => ∀ j, j < k → a[j]? = b[j]?) (by intro j hj; omega) (same_keys rfl) trivial trivial (fun _ => rfl) (fun _ => rfl) ?_
  rintro k s hk hinv _ _ _
  refine brn_p (fun hlt => ?_) (fun hge => ?_)
  · have hlt : k < a.length := by simpa using hlt
    have hx := (drop_cons hlt).choose_spec.1
    have hltb : k < b.length := by omega
    have hy := (drop_cons hltb).choose_spec.1
    refine idxT (f := pgC) hx rfl rfl ?_
    refine BytesT.mk ⟨_, rfl, ?_⟩
    refine idxT (f := pgC) hy rfl rfl ?_
    refine BytesT.mk ⟨_, rfl, ?_⟩
    refine brn_split (fun hq => ?_) (fun hq => ?_)
    · have e : false = r := by
        cases hr : r
        · rfl
        · have := hv.1 hr
          subst this
          have hxy := Option.some.inj (hx.symm.trans hy)
          rw [streq_bytes, decide_eq_true hxy] at hq
          cases hq
      exact retP rfl (congrArg C.bool e)
    · refine Fit.in64 (by omega) (by omega) ?_
      refine ⟨(k + 1, ()), ⟨hlt, ?_⟩, ⟨nextI, trivial⟩, trivial, nextM hlt⟩
      intro j hj
      by_cases hjk : j < k
      · exact hinv j hjk
      · have : j = k := by omega
        subst this
        rw [hx, hy]
        rw [streq_bytes] at hq
        simpa using hq
  · have hge : ¬ k < a.length := by simpa using hge
    have e : true = r := (hv.2 (same_take hab fun j hj => hinv j (by omega))).symm
    exact retP rfl (congrArg C.bool e)
theorem t17 (a b : List (List UInt8)) : CallsT P 17 [.agg (diskC a), .agg (diskC b)] [] (Ret [] (.bool (decide (a = b)))) := by
  have h := t21 a b
  refine callsT_facts Try.func17 facts17 rfl fun hw _ => ?_
  exact callP h rfl fun _ => retP rfl rfl
set_option maxRecDepth 10000 in
theorem t18 (a b : List Wri) : CallsT P 18 [.sl (a.map wrC), .sl (b.map wrC)] [] (Ret [] (.bool (decide (a = b)))) := by
  have hv : decide (a = b) = true ↔ a = b := decide_eq_true_iff
  generalize decide (a = b) = r at hv ⊢
  have ha : (a.map wrC).length = a.length := List.length_map _
  have hb : (b.map wrC).length = b.length := List.length_map _
  refine callsT_facts Try.func18 facts18 rfl fun hw _ => ?_
  have hl : a.length ≤ 9223372036854775807 := wf_lenM hw.1
  refine brn_split (fun h1 => ?_) (fun h1 => ?_)
  · have e : false = r := by
      cases hr : r
      · rfl
      · have := hv.1 hr
        subst this
        simp at h1
    exact retP rfl (congrArg C.bool e)
  have hab : a.length = b.length := by simp at h1; omega
  refine loopN a.length 5 [] () (fun _ => []) (fun _ => []) (fun k _ => ∀ j, j < k → a[j]? = b[j]?) (by intro j hj; omega) (same_keys rfl) trivial trivial (fun _ => rfl) (fun _ => rfl) ?_
  rintro k s hk hinv _ _ _
  refine brn_p (fun hlt => ?_) (fun hge => ?_)
  · have hlt : k < a.length := by simpa using hlt
    have hx := (drop_cons hlt).choose_spec.1
    have hltb : k < b.length := by omega
    have hy := (drop_cons hltb).choose_spec.1
    have no : r = true → (drop_cons hlt).choose = (drop_cons hltb).choose := by
      intro hr
      have := hv.1 hr
      exact Option.some.inj (hx.symm.trans (by rw [this]; exact hy))
    refine idxT (f := wrC) hx rfl rfl ?_
    refine idxT (f := wrC) hy rfl rfl ?_
    refine brn_split (fun hq => ?_) (fun hq => ?_)
    · have e : false = r := by
        cases hr : r
        · rfl
        · rw [no hr] at hq
          simp at hq
      exact retP rfl (congrArg C.bool e)
    refine idxT (f := wrC) hx rfl rfl ?_
    refine BytesT.mk ⟨_, rfl, ?_⟩
    refine idxT (f := wrC) hy rfl rfl ?_
    refine BytesT.mk ⟨_, rfl, ?_⟩
    refine brn_split (fun hq2 => ?_) (fun hq2 => ?_)
    · have e : false = r := by
        cases hr : r
        · rfl
        · rw [streq_bytes, decide_eq_true (congrArg Prod.snd (no hr))] at hq2
          cases hq2
      exact retP rfl (congrArg C.bool e)
    · refine Fit.in64 (by omega) (by omega) ?_
      refine ⟨(k + 1, ()), ⟨hlt, ?_⟩, ⟨nextI, trivial⟩, trivial, nextM hlt⟩
      intro j hj
      by_cases hjk : j < k
      · exact hinv j hjk
      · have : j = k := by omega
        subst this
        rw [hx, hy]
        rw [streq_bytes] at hq2
        refine congrArg some (Prod.ext ?_ (by simpa using hq2))
        simpa using hq
  · have hge : ¬ k < a.length := by simpa using hge
    have e : true = r := (hv.2 (same_take hab fun j hj => hinv j (by omega))).symm
    exact retP rfl (congrArg C.bool e)
end Go.Fr.Try

/- Disk: generations. -/
set_option linter.unusedVariables false
set_option linter.unusedSimpArgs false
namespace Go.Fr.Try
open Go Go.RowKit Go.Proofs Go.Fr Go.Fr.T
theorem wrap_i64 {n : Int} (h1 : -9223372036854775808 ≤ n) (h2 : n ≤ 9223372036854775807) : IntKind.wrap .i64 n = n := by
  have h := Fit.in64 (n := n) (K := fun m => m = n) h1 h2 rfl
  exact h.out
/-- the generation that a header says; -1 if it isn't valid -/
def genP (p : List UInt8) : Int := if p[4]? = some 1 then (valB (p.take 4) : Int) else -1
set_option maxRecDepth 10000 in
theorem t33 (d : List (List UInt8)) (h : Nat) (p : List UInt8) (hh : h ≤ 1) (hp : d[h * (d.length / 2)]? = some p) (hl : p.length = 256) : CallsT P 33 [.agg (diskC d), IC h] [] (Ret [] (IC (genP p))) := by
  have h32 := t32 d
  match p, hl with
  | b0 :: b1 :: b2 :: b3 :: b4 :: rest, hl =>
  have e : genP (b0 :: b1 :: b2 :: b3 :: b4 :: rest) = if b4 = 1 then ((((b0.toNat * 256 + b1.toNat) * 256 + b2.toNat) * 256 + b3.toNat : Nat) : Int) else -1 := by
    simp [genP, valB]
  generalize genP (b0 :: b1 :: b2 :: b3 :: b4 :: rest) = r at e ⊢
  have u0 := b0.toNat_lt
  have u1 := b1.toNat_lt
  have u2 := b2.toNat_lt
  have u3 := b3.toNat_lt
  have u4 : (b4.toNat : Int) = 1 ↔ b4 = 1 := by
    constructor
    · intro h
      exact UInt8.toNat_inj.1 (by show b4.toNat = 1; omega)
    · rintro rfl; rfl
  have hd : d.length ≤ 9223372036854775807 → h * (d.length / 2) ≤ 9223372036854775807 := by
    intro h1
    have : h * (d.length / 2) ≤ 1 * (d.length / 2) := Nat.mul_le_mul_right _ hh
    omega
  have hc : (h : Int) * ((d.length / 2 : Nat) : Int) = ((h * (d.length / 2) : Nat) : Int) := by simp
  refine callsT_facts Try.func33 facts33 rfl fun hw _ => ?_
  have hlen : d.length ≤ 9223372036854775807 := wf_lenM hw.1.1
  have hd := hd hlen
  refine callPD h32 rfl fun _ => ?_
  refine Fit.to (m := ((h * (d.length / 2) : Nat) : Int)) (by rw [hc]; exact wrap_i64 (by omega) (by omega)) ?_
  refine idxT (f := pgC) hp rfl rfl ?_
  refine idxB (k := 4) (x := b4) rfl ?_
  refine brn_split (fun hq => ?_) (fun hq => ?_)
  · have e' : (-1 : Int) = r := by
      rw [e, if_neg (fun h => by rw [decide_eq_true (u4.2 h)] at hq; cases hq)]
    exact retP rfl (congrArg IC e')
  have hb4 : b4 = 1 := u4.1 (by simpa using hq)
  refine idxB (k := 0) (x := b0) rfl ?_
  refine Fit.in64 (by omega) (by omega) ?_
  refine Fit.in64 (by omega) (by omega) ?_
  refine idxB (k := 1) (x := b1) rfl ?_
  refine Fit.in64 (by omega) (by omega) ?_
  refine Fit.in64 (by omega) (by omega) ?_
  refine Fit.in64 (by omega) (by omega) ?_
  refine idxB (k := 2) (x := b2) rfl ?_
  refine Fit.in64 (by omega) (by omega) ?_
  refine Fit.in64 (by omega) (by omega) ?_
  refine Fit.in64 (by omega) (by omega) ?_
  refine idxB (k := 3) (x := b3) rfl ?_
  refine Fit.in64 (by omega) (by omega) ?_
  refine Fit.in64 (by omega) (by omega) ?_
  have e' : (((b0.toNat : Int) * 256 + b1.toNat) * 256 + b2.toNat) * 256 + b3.toNat = r := by rw [e, if_pos hb4]; omega
  exact retP rfl (congrArg IC e')
theorem t34 (b : Bool) : CallsT P 34 [.bool b] [] (Ret [] (IC (if b then 19 else 0))) := by
  refine callsT_facts Try.func34 facts34 rfl fun hw _ => ?_
  refine brn_split (fun h => ?_) (fun h => ?_)
  · exact retP rfl (congrArg IC (by rw [h]; rfl))
  · exact retP rfl (congrArg IC (by rw [h]; rfl))
/-- the pages of a well-formed disk -/
theorem validD_page {d : List (List UInt8)} (hv : validD d = true) {k : Nat} (hk : k < d.length) : ∃ p, d[k]? = some p ∧ p.length = 256 := by
  simp only [validD, Bool.and_eq_true, List.all_eq_true, decide_eq_true_eq] at hv
  exact ⟨d[k], List.getElem?_eq_getElem hk, hv.2 _ (List.getElem_mem hk)⟩
/-- the header of a half -/
def headP (d : List (List UInt8)) (h : Nat) : List UInt8 := (d[h * (d.length / 2)]?).getD []
def presD (d : List (List UInt8)) : Nat := if genP (headP d 0) < genP (headP d 1) then 1 else 0
theorem headP_ok {d : List (List UInt8)} (hv : validD d = true) {h : Nat} (hh : h ≤ 1) : d[h * (d.length / 2)]? = some (headP d h) ∧ (headP d h).length = 256 := by
  have hl : 4 ≤ d.length := by
    simp only [validD, Bool.and_eq_true, decide_eq_true_eq] at hv
    exact hv.1.1
  have hk : h * (d.length / 2) < d.length := by
    have : h * (d.length / 2) ≤ 1 * (d.length / 2) := Nat.mul_le_mul_right _ hh
    omega
  obtain ⟨p, hp, hl⟩ := validD_page hv hk
  unfold headP
  rw [hp]
  exact ⟨rfl, hl⟩
theorem t29 (d : List (List UInt8)) (hv : validD d = true) : CallsT P 29 [.agg (diskC d)] [] (Ret [] (IC (presD d))) := by
  have h0 := t33 d 0 (headP d 0) (by omega) (headP_ok hv (by omega)).1 (headP_ok hv (by omega)).2
  have h1 := t33 d 1 (headP d 1) (by omega) (headP_ok hv (by omega)).1 (headP_ok hv (by omega)).2
  have e : presD d = if genP (headP d 0) < genP (headP d 1) then 1 else 0 := rfl
  generalize presD d = r at e ⊢
  generalize genP (headP d 0) = g0 at h0 e
  generalize genP (headP d 1) = g1 at h1 e
  refine callsT_facts Try.func29 facts29 rfl fun hw _ => ?_
  refine callPD h1 rfl fun _ => ?_
  refine callPD h0 rfl fun _ => ?_
  refine brn_p (fun h => ?_) (fun h => ?_)
  · exact retP rfl (congrArg IC (by rw [e, if_pos h]; rfl))
  · exact retP rfl (congrArg IC (by rw [e, if_neg h]; rfl))
end Go.Fr.Try

/- Disk: cutting writes. -/
set_option linter.unusedVariables false
set_option linter.unusedSimpArgs false
namespace Go.Fr.Try
open Go Go.RowKit Go.Proofs Go.Fr Go.Fr.T
/-- how many writes are left after so many bytes, and of the last one how many bytes; -1 if all -/
def cutI : List Wri → Nat → Nat × Int
  | [], _ => (0, -1)
  | w :: l, n => if n < w.2.length then (1, (n : Int)) else ((cutI l (n - w.2.length)).1 + 1, (cutI l (n - w.2.length)).2)
set_option maxRecDepth 10000 in
theorem t27 (l : List Wri) (n : Nat) (hn : n ≤ 2 ^ 46) : CallsT P 27 [.sl (l.map wrC), IC n] [] (Ret [] (.tup [.sl ((l.take (cutI l n).1).map wrC), IC (cutI l n).2])) := by
  generalize hr : cutI l n = r
  have hr0 : r = ((cutI (l.drop 0) n).1 + 0, (cutI (l.drop 0) n).2) := by rw [← hr]; rfl
  refine callsT_facts Try.func27 facts27 rfl fun hw _ => ?_
  have hl : l.length ≤ 9223372036854775807 := wf_lenM hw.1
  refine loopN l.length 6 [1] n (fun s => [.int .i64 (s : Nat)]) (fun _ => []) (fun k s => s ≤ 2 ^ 46 ∧ r = ((cutI (l.drop k) s).1 + k, (cutI (l.drop k) s).2)) ⟨hn, hr0⟩ (same_keys rfl) ⟨same_keys rfl, trivial⟩ trivial (fun _ => rfl) (fun _ => rfl) ?_
  rintro k s hk ⟨hs, hinv⟩ _ _ _
  refine brn_p (fun hlt => ?_) (fun hge => ?_)
  · have hlt : k < l.length := by simpa using hlt
    have hx := (drop_cons hlt).choose_spec.1
    have hd := (drop_cons hlt).choose_spec.2
    have hb := bcells_len (drop_cons hlt).choose.2
    rw [hd] at hinv
    refine idxT (f := wrC) hx rfl rfl ?_
    refine brn_p (fun h1 => ?_) (fun h1 => ?_)
    · have hr1 : r = (1 + k, (s : Int)) := by rw [hinv, cutI, if_pos (by omega)]
      refine Fit.in64 (by omega) (by omega) ?_
      refine SlcT.mk (by omega) (by omega) (by rw [List.length_map]; omega) (fun es he => by obtain ⟨y, _, rfl⟩ := List.mem_map.1 he; rfl) ?_
      have e : ((l.map wrC).drop (Int.toNat 0)).take (((k : Int) + 1).toNat - Int.toNat 0) = (l.take r.1).map wrC := by
        have h2 : ((k : Int) + 1).toNat - Int.toNat 0 = r.1 := by rw [hr1]; simp; omega
        rw [h2]
        show (l.map wrC).take r.1 = _
        rw [← List.map_take]
      have e2 : (s : Int) = r.2 := by rw [hr1]
      exact retP rfl (congr (congrArg (fun a b => C.tup [C.sl a, IC b]) e) e2)
    · refine idxT (f := wrC) hx rfl rfl ?_
      refine Fit.in64 (by omega) (by omega) ?_
      refine Fit.in64 (by omega) (by omega) ?_
      refine ⟨(k + 1, s - (drop_cons hlt).choose.2.length), ⟨hlt, by show s - _ ≤ _; omega, ?_⟩, ⟨nextI, .inr (.inl ⟨congrArg (C.int .i64) (by omega), rfl⟩), trivial⟩, trivial, nextM hlt⟩
      rw [hinv, cutI, if_neg (by omega)]
      refine Prod.ext ?_ rfl
      exact Nat.add_right_comm _ 1 k
  · have hge : ¬ k < l.length := by simpa using hge
    rw [drop_end hge] at hinv
    have e : l.map wrC = (l.take r.1).map wrC := by
      rw [hinv]
      show _ = (l.take (0 + k)).map wrC
      rw [List.take_of_length_le (by omega)]
    have e2 : (-1 : Int) = r.2 := by rw [hinv]; rfl
    exact retP rfl (congr (congrArg (fun a b => C.tup [C.sl a, IC b]) e) e2)
end Go.Fr.Try

/- Disk: frames. -/
set_option linter.unusedVariables false
set_option linter.unusedSimpArgs false
namespace Go.Fr.Try
open Go Go.RowKit Go.Proofs Go.Fr Go.Fr.T
def endedB (b : List UInt8) (at' space : Nat) : List UInt8 := if at' + b.length < space then b ++ [0] else b
set_option maxRecDepth 10000 in
theorem t43 (b : List UInt8) (a s : Nat) (hb : b.length ≤ 2 ^ 40) (ha : a ≤ 2 ^ 40) : CallsT P 43 [.sl (bcells b), IC a, IC s] [] (Ret [] (.sl (bcells (endedB b a s)))) := by
  have hr : endedB b a s = if a + b.length < s then b ++ [0] else b := rfl
  generalize endedB b a s = r at hr ⊢
  have hn := bcells_len b
  refine callsT_facts Try.func43 facts43 rfl fun hw _ => ?_
  refine Fit.in64 (by omega) (by omega) ?_
  refine brn_p (fun h => ?_) (fun h => ?_)
  · refine AppT.mk bcells_sz ?_ ?_ ?_
    · show 0 + (bcells b).length ≤ maxLen
      simp only [maxLen]; omega
    · show (0 + (bcells b).length) * 1 ≤ _
      omega
    refine AppT.mk ?_ ?_ ?_ ?_
    · intro es he
      rcases List.mem_cons.1 he with rfl | he
      · rfl
      · cases he
    · show (bcells b).length + 1 ≤ maxLen
      simp only [maxLen]; omega
    · show ((bcells b).length + 1) * 1 ≤ _
      omega
    have e : bcells b ++ [[bcell 0]] = bcells r := by rw [hr, if_pos (by omega), bcells_snoc]
    exact retF [13] [] ⟨_, [], rfl, rfl, rfl, rfl, congrArg C.sl e⟩
  · have e : bcells b = bcells r := by rw [hr, if_neg (by omega)]
    exact retP rfl (congrArg C.sl e)
end Go.Fr.Try

/- Disk: few pages, spaces, frames, searches among writes. -/
set_option linter.unusedVariables false
set_option linter.unusedSimpArgs false
namespace Go.Fr.Try
open Go Go.RowKit Go.Proofs Go.Fr Go.Fr.T
theorem t45 (r : List UInt8) : CallsT P 45 [.sl (bcells r)] [] (Ret [] (.bool (decide (65535 < r.length)))) := by
  refine callsT_facts Try.func45 facts45 rfl fun hw _ => ?_
  have e : decide (((bcells r).length : Int) > 65535) = decide (65535 < r.length) := by
    rw [bcells_len]
    by_cases h : 65535 < r.length
    · rw [decide_eq_true h]; exact decide_eq_true (by omega)
    · rw [decide_eq_false h]; exact decide_eq_false (by omega)
  exact retP rfl (congrArg C.bool e)
def fewD (d l : List (List UInt8)) : Bool := (d.all fun p => decide (p.length ≤ 300)) && (l.all fun r => decide (r.length ≤ 2000)) && decide (d.length ≤ 12) && decide (l.length ≤ 40)
theorem take_all {α : Type} {p : α → Prop} {l : List α} {k : Nat} {x : α} (h : ∀ y ∈ l.take k, p y) (hx : l[k]? = some x) (hp : p x) : ∀ y ∈ l.take (k + 1), p y := by
  intro y hy
  rw [List.take_add_one, hx] at hy
  rcases List.mem_append.1 hy with hy | hy
  · exact h y hy
  · simp only [Option.toList_some, List.mem_singleton] at hy
    subst hy; exact hp
set_option maxRecDepth 10000 in
theorem t10 (d l : List (List UInt8)) : CallsT P 10 [.agg (diskC d), .sl (l.map pgC)] [] (Ret [] (.bool (fewD d l))) := by
  have hv : fewD d l = true ↔ (∀ p ∈ d, p.length ≤ 300) ∧ (∀ r ∈ l, r.length ≤ 2000) ∧ d.length ≤ 12 ∧ l.length ≤ 40 := by simp [fewD, and_assoc]
  generalize fewD d l = r at hv ⊢
  have hm : (d.map pgC).length = d.length := List.length_map _
  have hm2 : (l.map pgC).length = l.length := List.length_map _
  refine callsT_facts Try.func10 facts10 rfl fun hw _ => ?_
  have hd : d.length ≤ 9223372036854775807 := wf_lenM hw.1.1
  have hl : l.length ≤ 9223372036854775807 := wf_lenM hw.2.1
  refine loopN d.length 5 [] () (fun _ => []) (fun _ => [(2, .box 24 (diskC d))]) (fun k _ => ∀ p ∈ d.take k, p.length ≤ 300) (by simp) (same_keys rfl) trivial ⟨.inl ⟨_, rfl, .inl ⟨rfl, rfl⟩⟩, trivial⟩ (fun _ => rfl) (fun _ => rfl) ?_
  rintro k s hk hinv _ _ _
  refine brn_p (fun hlt => ?_) (fun hge => ?_)
  · have hlt : k < d.length := by simpa using hlt
    have hx := (drop_cons hlt).choose_spec.1
    have hn := bcells_len (drop_cons hlt).choose
    refine idxT (f := pgC) hx rfl rfl ?_
    refine brn_p (fun hq => ?_) (fun hq => ?_)
    · have e : false = r := by
        cases hr : r
        · rfl
        · have := (hv.1 hr).1 _ (List.mem_of_getElem? hx)
          omega
      exact retP rfl (congrArg C.bool e)
    · refine Fit.in64 (by omega) (by omega) ?_
      exact ⟨(k + 1, ()), ⟨hlt, take_all hinv hx (by omega)⟩, ⟨nextI, trivial⟩, ⟨.inl ⟨_, rfl, .inl ⟨rfl, rfl⟩⟩, trivial⟩, nextM hlt⟩
  have hge : ¬ k < d.length := by simpa using hge
  rw [List.take_of_length_le (by omega)] at hinv
  refine loopN l.length 6 [] () (fun _ => []) (fun _ => [(2, .box 24 (diskC d))]) (fun k _ => ∀ p ∈ l.take k, p.length ≤ 2000) (by simp) (same_keys rfl) trivial ⟨.inl ⟨_, rfl, .inl ⟨rfl, rfl⟩⟩, trivial⟩ (fun _ => rfl) (fun _ => rfl) ?_
  rintro k s hk hinv2 _ _ _
  refine brn_p (fun hlt => ?_) (fun hge => ?_)
  · have hlt : k < l.length := by simpa using hlt
    have hx := (drop_cons hlt).choose_spec.1
    have hn := bcells_len (drop_cons hlt).choose
    refine idxT (f := pgC) hx rfl rfl ?_
    refine brn_p (fun hq => ?_) (fun hq => ?_)
    · have e : false = r := by
        cases hr : r
        · rfl
        · have := (hv.1 hr).2.1 _ (List.mem_of_getElem? hx)
          omega
      exact retP rfl (congrArg C.bool e)
    · refine Fit.in64 (by omega) (by omega) ?_
      exact ⟨(k + 1, ()), ⟨hlt, take_all hinv2 hx (by omega)⟩, ⟨nextI, trivial⟩, ⟨.inl ⟨_, rfl, .inl ⟨rfl, rfl⟩⟩, trivial⟩, nextM hlt⟩
  have hge2 : ¬ k < l.length := by simpa using hge
  rw [List.take_of_length_le (by omega)] at hinv2
  refine brn_p (fun h1 => ?_) (fun h1 => ?_)
  · have e : decide (((l.map pgC).length : Int) ≤ 40) = r := by
      cases hr : r
      · refine decide_eq_false fun h => ?_
        have := hv.2 ⟨hinv, hinv2, by omega, by omega⟩
        rw [hr] at this; cases this
      · have := (hv.1 hr).2.2.2
        exact decide_eq_true (by omega)
    exact retP rfl (congrArg C.bool e)
  · have e : false = r := by cases hr : r; rfl; have := (hv.1 hr).2.2.1; omega
    exact retP rfl (congrArg C.bool e)
/-- a record's frame -/
def frameB (f : UInt8) (r : List UInt8) : List UInt8 := f :: UInt8.ofNat (r.length / 256) :: UInt8.ofNat (r.length % 256) :: r
set_option maxRecDepth 10000 in
theorem t44 (r : List UInt8) (f : UInt8) (hr : r.length ≤ 65535) : CallsT P 44 [.sl (bcells r), .int .u8 f.toNat] [] (Ret [] (.sl (bcells (frameB f r)))) := by
  have e1 : ((r.length / 256 : Nat) : Int) = ((UInt8.ofNat (r.length / 256)).toNat : Int) := by rw [UInt8.toNat_ofNat']; omega
  have e2 : ((r.length % 256 : Nat) : Int) = ((UInt8.ofNat (r.length % 256)).toNat : Int) := by rw [UInt8.toNat_ofNat']; omega
  have hn := bcells_len r
  have e : [C.int .u8 f.toNat] :: [C.int .u8 ((UInt8.ofNat (r.length / 256)).toNat : Int)] :: [C.int .u8 ((UInt8.ofNat (r.length % 256)).toNat : Int)] :: bcells r = bcells (frameB f r) := by simp [bcells, frameB]
  generalize bcells (frameB f r) = R at e ⊢
  generalize UInt8.ofNat (r.length / 256) = a at e e1
  generalize UInt8.ofNat (r.length % 256) = b at e e2
  refine callsT_facts Try.func44 facts44 rfl fun hw _ => ?_
  refine NonZ.mk (by omega) ?_
  refine Fit.to (m := ((r.length / 256 : Nat) : Int)) (by
    have : ((bcells r).length : Int).tdiv 256 = ((r.length / 256 : Nat) : Int) := by rw [hn]; rfl
    rw [this]; exact wrap_i64 (by omega) (by omega)) ?_
  refine Fit.to (m := (a.toNat : Int)) (by rw [wrap_u8]; omega) ?_
  refine NonZ.mk (by omega) ?_
  refine Fit.to (m := (b.toNat : Int)) (by
    have : ((bcells r).length : Int).tmod 256 = ((r.length % 256 : Nat) : Int) := by rw [hn]; rfl
    rw [this, wrap_u8]; omega) ?_
  refine AppT.mk bcells_sz ?_ ?_ ?_
  · show 3 + (bcells r).length ≤ maxLen
    simp only [maxLen]; omega
  · show (3 + (bcells r).length) * 1 ≤ _
    omega
  exact retF [14] [] ⟨_, [], rfl, rfl, rfl, rfl, congrArg C.sl e⟩
/-- the bytes of a half's space -/
def spaceD (d : List (List UInt8)) (h : Nat) : List UInt8 := ((d.drop (h * (d.length / 2) + 1)).take (d.length / 2 - 1)).flatten
theorem take_flat {l : List (List UInt8)} {k : Nat} {x : List UInt8} (hx : l[k]? = some x) : (l.take (k + 1)).flatten = (l.take k).flatten ++ x := by
  rw [List.take_add_one, hx]; simp
theorem bcells_app (a b : List UInt8) : bcells (a ++ b) = bcells a ++ bcells b := by simp [bcells]
theorem flat_len {c : Nat} : ∀ {l : List (List UInt8)}, (∀ p ∈ l, p.length ≤ c) → l.flatten.length ≤ l.length * c
  | [], _ => by simp
  | p :: l, h => by
    have h1 := h p (List.mem_cons_self ..)
    have h2 := flat_len (c := c) (l := l) fun q hq => h q (List.mem_cons_of_mem _ hq)
    simp only [List.flatten_cons, List.length_append, List.length_cons, Nat.add_mul]
    omega
theorem half_le {h n : Nat} (hh : h ≤ 1) : h * (n / 2) + n / 2 ≤ n := by
  have : h * (n / 2) ≤ 1 * (n / 2) := Nat.mul_le_mul_right _ hh
  omega
set_option maxRecDepth 10000 in
theorem t31 (d : List (List UInt8)) (h : Nat) (hh : h ≤ 1) (hd : 2 ≤ d.length) (hd2 : d.length ≤ 400) (hp : ∀ p ∈ d, p.length ≤ 65536) : CallsT P 31 [.agg (diskC d), IC h] [] (Ret [.row 5 1 (bcells (spaceD d h))] (.rw 1000)) := by
  have h32 := t32 d
  have hb := half_le (n := d.length) hh
  generalize hn : d.length / 2 = n at h32 hb
  have hfl : ∀ k, ((d.drop (h * n + 1)).take k).flatten.length ≤ k * 65536 := by
    intro k
    refine Nat.le_trans (flat_len fun p hp' => hp p (List.mem_of_mem_drop (List.mem_of_mem_take hp'))) (Nat.mul_le_mul_right _ ?_)
    rw [List.length_take]; omega
  have hget : ∀ k x, d[h * n + 1 + k]? = some x → ((d.drop (h * n + 1)).take (k + 1)).flatten = ((d.drop (h * n + 1)).take k).flatten ++ x := by
    intro k x hx
    exact take_flat (by rw [List.getElem?_drop]; exact hx)
  have hend : ((d.drop (h * n + 1)).take (n - 1)).flatten = spaceD d h := by unfold spaceD; rw [hn]
  have h0 : ((d.drop (h * n + 1)).take 0).flatten = [] := rfl
  generalize spaceD d h = r at hend ⊢
  obtain ⟨V, hV⟩ : ∃ V : Nat → List UInt8, ∀ k, V k = ((d.drop (h * n + 1)).take k).flatten := ⟨_, fun _ => rfl⟩
  simp only [← hV] at hfl hget hend h0
  clear hV
  have hc : (h : Int) * (n : Int) = ((h * n : Nat) : Int) := by simp
  refine callsT_facts Try.func31 facts31 rfl fun hw _ => ?_
  refine LoopT.mk ⟨Nat, 0, fun k => k ≤ n - 1, [6, 5], fun k => [.int .i64 ((k : Int) + 1), .rw 24], fun k => [(2, .box 24 (diskC d)), (24, .row 5 1 (bcells (V k)))], fun k => n - k,
    Nat.zero_le _, ⟨same_keys rfl, .inr (.inr (.inr (.inl ⟨rfl, 24, 5, 1, rfl, rfl, congrArg (fun l => some (TO.row 5 1 (bcells l))) h0⟩))), trivial⟩, ⟨.inl ⟨_, rfl, .inl ⟨rfl, rfl⟩⟩, .inr ⟨rfl, 5, 1, congrArg (fun l => TO.row 5 1 (bcells l)) h0⟩, trivial⟩, fun _ => rfl, fun _ => rfl, ?_⟩
  intro k hk _ _
  have hlk := hfl k
  have hV := bcells_len (V k)
  refine callP h32 rfl fun _ => ?_
  refine brn_p (fun hlt => ?_) (fun hge => ?_)
  · have hx : h * n + 1 + k < d.length := by omega
    have hx1 := (drop_cons hx).choose_spec.1
    have hg := hget k _ hx1
    have hpl := hp _ (List.mem_of_getElem? hx1)
    have hpb := bcells_len (drop_cons hx).choose
    refine callPD h32 rfl fun _ => ?_
    refine Fit.to (m := ((h * n : Nat) : Int)) (by rw [hc]; exact wrap_i64 (by omega) (by omega)) ?_
    refine Fit.to (m := ((h * n + 1 + k : Nat) : Int)) (by rw [wrap_i64 (by omega) (by omega)]; omega) ?_
    refine idxT (f := pgC) hx1 rfl rfl ?_
    refine AppT.mk bcells_sz ?_ ?_ ?_
    · show (bcells (V k)).length + (bcells (drop_cons hx).choose).length ≤ maxLen
      simp only [maxLen]; omega
    · show ((bcells (V k)).length + (bcells (drop_cons hx).choose).length) * 1 ≤ _
      omega
    refine Fit.to (m := ((k + 1 : Nat) : Int) + 1) (by rw [wrap_i64 (by omega) (by omega)]; omega) ?_
    refine ⟨k + 1, by omega, ⟨same_keys rfl, same_keys rfl, trivial⟩, ⟨.inl ⟨_, rfl, .inl ⟨rfl, rfl⟩⟩, .inl ⟨_, rfl, .inl ⟨?_, rfl⟩⟩, trivial⟩, by show n - (k + 1) < n - k; omega⟩
    exact congrArg (TO.row 5 1) (by rw [hg, bcells_app])
  · have e : V k = r := by rw [← hend]; congr 1; omega
    exact retO [24] rfl rfl (by rw [e]; rfl) rfl
end Go.Fr.Try
