/- Part of the proofs of the statements of this seat. -/
import Derived.Test.YtgapnemcomkomaaFW2
import Derived.Test.YtgapnemcomkomaaDgCode
/- Digest: folds. -/
set_option linter.unusedVariables false
set_option linter.unusedSimpArgs false
namespace Go.Fr.Try
open Go Go.RowKit Go.Proofs Go.Fr Go.Fr.T

noncomputable abbrev P : Program := Try.prog

def stepN (h x : Int) : Int := (h * 1000003 + x + 1).tmod 2147483647
def foldN (l : List Int) : Int := l.foldl stepN 7
theorem stepN_bd {h x : Int} (h0 : 0 ≤ h) (hx : 0 ≤ x) : 0 ≤ stepN h x ∧ stepN h x < 2147483647 := by
  have : 0 ≤ h * 1000003 + x + 1 := by omega
  rw [stepN, Int.tmod_eq_emod_of_nonneg this]
  exact ⟨Int.emod_nonneg _ (by omega), Int.emod_lt_of_pos _ (by omega)⟩

theorem t40 (b : UInt8) : CallsT P 40 [bcell b] [] (Ret [] (.int .i64 b.toNat)) := by
  refine callsT_facts Try.func40 facts40 rfl fun hw _ => ?_
  refine Fit.in64 (by omega) (by have := b.toNat_lt; omega) ?_
  exact retP rfl rfl

def bytesN (bs : List UInt8) : List Int := bs.map fun b => (b.toNat : Int)
theorem t39 (bs : List UInt8) : CallsT P 39 [.sl (bcells bs), .fn 40 [] []] [] (Ret [] (.int .i64 (foldN (bytesN bs)))) := by
  refine callsT_facts Try.func39 facts39 rfl fun hw _ => ?_
  have hn := wf_lenB hw.1
  refine loopN bs.length 10 [5] 7 (fun h => [.int .i64 h]) (fun _ => []) (fun k h => 0 ≤ h ∧ h < 2147483647 ∧ (bytesN (bs.drop k)).foldl stepN h = foldN (bytesN bs)) ⟨by omega, by omega, rfl⟩
    (same_keys rfl) ⟨same_keys rfl, trivial⟩ trivial (fun _ => rfl) (fun _ => rfl) ?_
  rintro k h hk ⟨h0, h1, hf⟩ hw1 _ hk64
  refine brn_p (fun hlt => ?_) (fun hge => ?_)
  · have hlt : k < bs.length := by simpa [bcells] using hlt
    obtain ⟨b, hb, hd⟩ := drop_cons hlt
    rw [hd] at hf
    obtain ⟨g1, g2⟩ := stepN_bd (x := b.toNat) h0 (by omega)
    have hbl := b.toNat_lt
    refine idxB hb ?_
    refine Fit.in64 (by omega) (by omega) ?_
    refine callP (t40 b) rfl fun _ => ?_
    refine Fit.in64 (by omega) (by omega) ?_
    refine Fit.in64 (by omega) (by omega) ?_
    refine NonZ.mk (by omega) ?_
    refine Fit.in64 (by omega) (by omega) ?_
    exact ⟨(k + 1, stepN h b.toNat), ⟨hlt, g1, g2, hf⟩, ⟨nextI, same_keys rfl, trivial⟩, trivial, nextM hlt⟩
  · have hge : ¬ k < bs.length := by simpa [bcells] using hge
    rw [drop_end hge] at hf
    exact retP rfl (congrArg (C.int .i64) hf)
end Go.Fr.Try

/- Digest: the writer's numbers and texts. -/
set_option linter.unusedVariables false
set_option linter.unusedSimpArgs false
namespace Go.Fr.Try
open Go Go.RowKit Go.Proofs Go.Fr Go.Fr.T Go.Fr.Api

theorem t15 (bs : List UInt8) : CallsT P 15 [.sl (bcells bs)] [] (Ret [] (.int .i64 (foldN (bytesN bs)))) := by
  refine callsT_facts Try.func15 facts15 rfl fun hw _ => ?_
  exact callP (t39 bs) rfl fun _ => retP rfl rfl

theorem Fit.to {k : IntKind} {n m : Int} {K : Int → Prop} (h : k.wrap n = m) (hK : K m) : Fit k n K := ⟨by rw [h]; exact hK⟩
theorem wrap_u64 (n : Int) : IntKind.wrap .u64 n = n % 18446744073709551616 := by
  simp [IntKind.wrap, IntKind.bits, IntKind.signed]
theorem wrap_u8 (n : Int) : IntKind.wrap .u8 n = n % 256 := by
  simp [IntKind.wrap, IntKind.bits, IntKind.signed]
theorem xor_u64 {n : Int} (h0 : 0 ≤ n) (h1 : n < 18446744073709551616) :
    IntKind.wrap .u64 (BitVec.ofInt (IntKind.bits .u64) (if IntKind.signed .u64 then -1 else IntKind.max .u64) ^^^ BitVec.ofInt (IntKind.bits .u64) n).toNat = 18446744073709551615 - n := by
  have e : (if IntKind.signed .u64 then -1 else IntKind.max .u64 : Int) = 18446744073709551615 := by simp [IntKind.max, IntKind.signed, IntKind.bits]
  rw [e, wrap_u64]
  show ((BitVec.ofInt 64 18446744073709551615 ^^^ BitVec.ofInt 64 n).toNat : Int) % _ = _
  rw [show BitVec.ofInt 64 18446744073709551615 = BitVec.allOnes 64 by decide]
  rw [BitVec.allOnes_xor, BitVec.toNat_not, BitVec.toNat_ofInt]
  have : (n % ((2 ^ 64 : Nat) : Int)).toNat = n.toNat := by
    congr 1
    exact Int.emod_eq_of_lt h0 (by simpa using h1)
  rw [this]
  omega

def encN (n : Nat) : List UInt8 := if h : n < 128 then [UInt8.ofNat n] else UInt8.ofNat (128 + n % 128) :: encN (n / 128)
def zig (n : Int) : Nat := if n < 0 then (-2 * n - 1).toNat else (2 * n).toNat
def encI (n : Int) : List UInt8 := encN (zig n)
def encIs (l : List Int) : List UInt8 := l.flatMap encI
def encS (s : ByteArray) : List UInt8 := encI s.size ++ s.data.toList
def encSs (l : List ByteArray) : List UInt8 := l.flatMap encS
theorem two_pow1 : (2 : Int) ^ (min (Int.toNat 1) (IntKind.bits .u64)) = 2 := rfl
theorem u8_hi (m : Nat) : IntKind.wrap .u8 ((128 + (m : Int).tmod 128) % 18446744073709551616) = ((UInt8.ofNat (128 + m % 128)).toNat : Int) := by
  rw [wrap_u8]
  show ((128 + ((m % 128 : Nat) : Int)) % 18446744073709551616) % 256 = _
  rw [UInt8.toNat_ofNat']
  omega
theorem u8_lo (m : Nat) : IntKind.wrap .u8 (m : Int) = ((UInt8.ofNat m).toNat : Int) := by
  rw [wrap_u8, UInt8.toNat_ofNat']
  omega

/-- the program of a writer: none, or one that lies in frozen memory -/
inductive PC : Option Prog → C → Prop
  | nil : PC none .nilp
  | prog (q : Prog) : PC (some q) (.pt (progC q) 0)
/-- the writer's two own blocks -/
def Wr (p : C) (bs : List UInt8) : List TO := [.box 114 [.rw 1001, p], .row 5 1 (bcells bs)]
def WrL (p : C) (bs : List UInt8) : TL := [(1000, .box 114 [.rw 1001, p]), (1001, .row 5 1 (bcells bs))]
theorem bcells_app (a b : List UInt8) : bcells (a ++ b) = bcells a ++ bcells b := by simp [bcells]
theorem encN_len (n : Nat) : 1 ≤ (encN n).length := by rw [encN]; split <;> simp
theorem bcells_len (a : List UInt8) : (bcells a).length = a.length := by simp [bcells]
theorem bcells_sz {a : List UInt8} : ∀ es ∈ bcells a, es.length = 1 := by
  intro es h
  simp only [bcells, List.mem_map] at h
  obtain ⟨b, _, rfl⟩ := h
  rfl
theorem app1 {bs : List UInt8} {b : UInt8} {K : Prop} (h : bs.length + 1 ≤ 140737488355328) (k : K) : AppT (bcells bs) [[bcell b]] 1 1 K :=
  ⟨by simp, by rw [bcells_len]; simp [maxLen]; omega, by rw [bcells_len]; simp; omega, k⟩
theorem bcells_snoc (a : List UInt8) (b : UInt8) : bcells (a ++ [b]) = bcells a ++ [[bcell b]] := by simp [bcells]

theorem t55 {po : Option Prog} {p : C} (hp : PC po p) (bs : List UInt8) (l : List Int) (hb : (bs ++ encIs l).length ≤ 2 ^ 46) : CallsT P 55 [.own 1000 0, .sl (ics l)] (Wr p bs) (Ret (Wr p (bs ++ encIs l)) (.tup [])) := by
  refine callsT_facts Try.func55 facts55 rfl fun hw _ => ?_
  have hn : l.length ≤ 9223372036854775807 := by have := wf_len hw.2.1; simpa [ics] using this
  have hwl : ∀ x ∈ l, -9223372036854775808 ≤ x ∧ x ≤ 9223372036854775807 := by
    intro x hx
    have h1 := hw.2.1
    simp only [Wf] at h1
    exact wf_I (WfS_iff.1 (WfSS_iff.1 h1.2 [IC x] (by simp only [ics, List.mem_map]; exact ⟨x, hx, rfl⟩)) _ (by simp))
  cases hp
  all_goals
    refine loopN l.length 9 [] bs (fun _ => []) (fun s => WrL _ s) (fun k s => s ++ encIs (l.drop k) = bs ++ encIs l) rfl (same_keys rfl) trivial ⟨.inl ⟨_, rfl, .inl ⟨rfl, rfl⟩⟩, .inl ⟨_, rfl, .inl ⟨rfl, rfl⟩⟩, trivial⟩ (fun _ => rfl) (fun _ => rfl) ?_
    rintro k s hk hinv _ _ _
    refine brn_p (fun hlt => ?_) (fun hge => ?_)
    · have hlt : k < l.length := by simpa [ics] using hlt
      obtain ⟨x, hx, hd⟩ := drop_cons hlt
      rw [hd] at hinv
      have hwx := hwl x (List.mem_of_getElem? hx)
      have hlen : s.length + (encI x).length ≤ 2 ^ 46 := by
        rw [← hinv] at hb
        simp only [encIs, List.flatMap_cons, List.length_append] at hb
        omega
      refine idxI hx ?_
      refine Fit.to (wrap_u64 _) ?_
      refine ⟨by omega, ?_⟩
      refine Fit.to (wrap_u64 _) ?_
      refine brn_p (fun hneg => ?_) (fun hpos => ?_)
      all_goals
        refine LoopT.mk ⟨Nat × List UInt8, (zig x, s), fun y => y.1 < 18446744073709551616 ∧ y.2 ++ encN y.1 = s ++ encI x, [6], fun y => [.int .u64 y.1], fun y => WrL _ y.2, fun y => y.1, ⟨?_, rfl⟩, ⟨.inr (.inl ⟨?_, rfl⟩), trivial⟩,
          ⟨.inl ⟨_, rfl, .inl ⟨rfl, rfl⟩⟩, .inl ⟨_, rfl, .inl ⟨rfl, rfl⟩⟩, trivial⟩, fun _ => rfl, fun _ => rfl, ?_⟩
        · show zig x < _
          unfold zig; split <;> omega
        rotate_left
        · rintro ⟨m, done⟩ ⟨hm64, hmi⟩ _ _
          simp only at hmi hm64
          have hdl : done.length + (encN m).length ≤ 2 ^ 46 := by
            have := congrArg List.length hmi
            simp only [List.length_append] at this
            omega
          have h1 := encN_len m
          refine brn_p (fun hm => ?_) (fun hm => ?_)
          · have hm : 128 ≤ m := by have : (128 : Int) ≤ (m : Int) := hm; omega
            have hde : encN m = UInt8.ofNat (128 + m % 128) :: encN (m / 128) := by rw [encN, dif_neg (by omega)]
            refine NonZ.mk (by omega) ?_
            refine Fit.to (wrap_u64 _) ?_
            refine Fit.to (u8_hi m) ?_
            refine app1 (bs := done) (by omega) ?_
            refine NonZ.mk (by omega) ?_
            refine Fit.to (wrap_u64 _) ?_
            refine ⟨(m / 128, done ++ [UInt8.ofNat (128 + m % 128)]), ⟨?_, ?_⟩, ⟨.inr (.inl ⟨?_, rfl⟩), trivial⟩, ⟨.inl ⟨_, rfl, .inl ⟨rfl, rfl⟩⟩, .inl ⟨_, rfl, .inl ⟨?_, rfl⟩⟩, trivial⟩, ?_⟩
            · show m / 128 < _; omega
            · show done ++ [UInt8.ofNat (128 + m % 128)] ++ encN (m / 128) = s ++ encI x
              rw [← hmi, hde]; simp
            · refine congrArg (C.int .u64) ?_
              show ((m / 128 : Nat) : Int) % _ = ((m / 128 : Nat) : Int)
              omega
            · exact congrArg (TO.row 5 1) (bcells_snoc _ _).symm
            · show m / 128 < m; omega
          · have hm : m < 128 := by have : ¬ (128 : Int) ≤ (m : Int) := hm; omega
            have hde : encN m = [UInt8.ofNat m] := by rw [encN, dif_pos hm]
            refine Fit.to (u8_lo m) ?_
            refine app1 (bs := done) (by omega) ?_
            refine Fit.in64 (by omega) (by omega) ?_
            refine ⟨(k + 1, done ++ [UInt8.ofNat m]), ⟨hlt, ?_⟩, ⟨nextI, trivial⟩, ⟨.inl ⟨_, rfl, .inl ⟨rfl, rfl⟩⟩, .inl ⟨_, rfl, .inl ⟨?_, rfl⟩⟩, trivial⟩, nextM hlt⟩
            · show done ++ [UInt8.ofNat m] ++ encIs (l.drop (k + 1)) = bs ++ encIs l
              rw [← hinv, ← hde, hmi]; simp [encIs]
            · exact congrArg (TO.row 5 1) (bcells_snoc _ _).symm
        · refine congrArg (C.int .u64) ?_
          simp only [two_pow1]
          first
            | (rw [xor_u64 (by omega) (by omega)]; unfold zig; rw [if_pos hneg]; omega)
            | (unfold zig; rw [if_neg hpos]; omega)
    · have hge : ¬ k < l.length := by simpa [ics] using hge
      rw [drop_end hge] at hinv
      refine retO [1000, 1001] rfl rfl ?_ rfl
      simp only [encIs, List.flatMap_nil, List.append_nil] at hinv
      subst hinv
      rfl
end Go.Fr.Try

/- Digest: the writer's lists (printed by dglist.py). -/
set_option linter.unusedVariables false
set_option linter.unusedSimpArgs false
namespace Go.Fr.Try
open Go Go.RowKit Go.Proofs Go.Fr Go.Fr.T Go.Fr.Api

def encL {α : Type} (enc : α → List UInt8) (l : List α) : List UInt8 := encI l.length ++ l.flatMap enc
/-- the writer, and the box that a closure holds it by -/
def WrC (p : C) (bs : List UInt8) : List TO := [.box 114 [.rw 1001, p], .row 5 1 (bcells bs), .box 77 [.own 1000 0]]
def WrCL (p : C) (bs : List UInt8) : TL := [(1000, .box 114 [.rw 1001, p]), (1001, .row 5 1 (bcells bs)), (1002, .box 77 [.own 1000 0])]

set_option maxRecDepth 10000 in
theorem t87 {po : Option Prog} {p : C} (hp : PC po p) (bs : List UInt8) (l : List Int) (enc : Int → List UInt8) (hc : ∀ x ∈ l, ∀ s : List UInt8, (s ++ enc x).length ≤ 2 ^ 46 → CallsT P 88 [IC x, .own 1002 0] (WrC p s) (Ret (WrC p (s ++ enc x)) (.tup [])))
    (hb : (bs ++ encL enc l).length ≤ 2 ^ 46) : CallsT P 87 [.own 1000 0, .sl (ics l), .fn 88 [] [.own 1002 0]] (WrC p bs) (Ret (WrC p (bs ++ encL enc l)) (.tup [])) := by
  refine callsT_facts Try.func87 facts87 rfl fun hw _ => ?_
  have hn : l.length ≤ 9223372036854775807 := by have := wf_len hw.2.1; simpa [ics] using this
  have hp' := hp
  cases hp
  all_goals
    refine callO [1000, 1001] [1000, 1001] (t55 hp' bs [((ics l).length : Int)] ?_) rfl rfl rfl rfl rfl fun _ _ => ?_
    · simp only [encL, List.length_append, ics, List.length_map, encIs, List.flatMap_cons, List.flatMap_nil, List.append_nil] at hb ⊢; omega
    refine loopN l.length 15 [] (bs ++ encI l.length) (fun _ => []) (fun s => WrCL _ s) (fun k s => s ++ (l.drop k).flatMap enc = bs ++ encL enc l) (by simp [encL]) (same_keys rfl) trivial ⟨.inl ⟨_, rfl, .inl ⟨rfl, rfl⟩⟩, .inl ⟨_, rfl, .inl ⟨?_, rfl⟩⟩, .inl ⟨_, rfl, .inl ⟨rfl, rfl⟩⟩, trivial⟩ (fun _ => rfl) (fun _ => rfl) ?_
    · show TO.row 5 1 (bcells (bs ++ encIs [((ics l).length : Int)])) = _
      simp [encIs, ics]
    rintro k s hk hinv _ _ _
    refine brn_p (fun hlt => ?_) (fun hge => ?_)
    · have hlt : k < l.length := by simpa [ics] using hlt
      obtain ⟨x, hx, hd⟩ := drop_cons hlt
      rw [hd, List.flatMap_cons] at hinv
      have hsz : (s ++ enc x).length ≤ 2 ^ 46 := by
        rw [← hinv] at hb
        simp only [List.length_append] at hb ⊢
        omega
      refine idxI hx ?_
      refine callO [1000, 1001, 1002] [1000, 1001, 1002] (hc x (List.mem_of_getElem? hx) s hsz) rfl rfl rfl rfl rfl fun _ _ => ?_
      refine Fit.in64 (by omega) (by omega) ?_
      exact ⟨(k + 1, s ++ enc x), ⟨hlt, by rw [← hinv]; simp⟩, ⟨nextI, trivial⟩, ⟨.inl ⟨_, rfl, .inl ⟨rfl, rfl⟩⟩, .inl ⟨_, rfl, .inl ⟨rfl, rfl⟩⟩, .inl ⟨_, rfl, .inl ⟨rfl, rfl⟩⟩, trivial⟩, nextM hlt⟩
    · have hge : ¬ k < l.length := by simpa [ics] using hge
      rw [drop_end hge] at hinv
      refine retO [1000, 1001, 1002] rfl rfl ?_ rfl
      simp only [List.flatMap_nil, List.append_nil] at hinv
      subst hinv
      rfl

set_option maxRecDepth 10000 in
theorem t81 {po : Option Prog} {p : C} (hp : PC po p) (bs : List UInt8) (l : List Bound) (enc : Bound → List UInt8) (hc : ∀ x ∈ l, ∀ s : List UInt8, (s ++ enc x).length ≤ 2 ^ 46 → CallsT P 82 [.agg (boundC x), .own 1002 0] (WrC p s) (Ret (WrC p (s ++ enc x)) (.tup [])))
    (hb : (bs ++ encL enc l).length ≤ 2 ^ 46) : CallsT P 81 [.own 1000 0, .sl (l.map boundC), .fn 82 [] [.own 1002 0]] (WrC p bs) (Ret (WrC p (bs ++ encL enc l)) (.tup [])) := by
  refine callsT_facts Try.func81 facts81 rfl fun hw _ => ?_
  have hn : l.length ≤ 9223372036854775807 := by have := wf_len hw.2.1; simpa [ics] using this
  have hp' := hp
  cases hp
  all_goals
    refine callO [1000, 1001] [1000, 1001] (t55 hp' bs [((l.map boundC).length : Int)] ?_) rfl rfl rfl rfl rfl fun _ _ => ?_
    · simp only [encL, List.length_append, List.length_map, List.length_map, encIs, List.flatMap_cons, List.flatMap_nil, List.append_nil] at hb ⊢; omega
    refine loopN l.length 15 [] (bs ++ encI l.length) (fun _ => []) (fun s => WrCL _ s) (fun k s => s ++ (l.drop k).flatMap enc = bs ++ encL enc l) (by simp [encL]) (same_keys rfl) trivial ⟨.inl ⟨_, rfl, .inl ⟨rfl, rfl⟩⟩, .inl ⟨_, rfl, .inl ⟨?_, rfl⟩⟩, .inl ⟨_, rfl, .inl ⟨rfl, rfl⟩⟩, trivial⟩ (fun _ => rfl) (fun _ => rfl) ?_
    · show TO.row 5 1 (bcells (bs ++ encIs [((l.map boundC).length : Int)])) = _
      simp [encIs, ics]
    rintro k s hk hinv _ _ _
    refine brn_p (fun hlt => ?_) (fun hge => ?_)
    · have hlt : k < l.length := by simpa [ics] using hlt
      obtain ⟨x, hx, hd⟩ := drop_cons hlt
      rw [hd, List.flatMap_cons] at hinv
      have hsz : (s ++ enc x).length ≤ 2 ^ 46 := by
        rw [← hinv] at hb
        simp only [List.length_append] at hb ⊢
        omega
      refine idxT hx rfl rfl ?_
      refine callO [1000, 1001, 1002] [1000, 1001, 1002] (hc x (List.mem_of_getElem? hx) s hsz) rfl rfl rfl rfl rfl fun _ _ => ?_
      refine Fit.in64 (by omega) (by omega) ?_
      exact ⟨(k + 1, s ++ enc x), ⟨hlt, by rw [← hinv]; simp⟩, ⟨nextI, trivial⟩, ⟨.inl ⟨_, rfl, .inl ⟨rfl, rfl⟩⟩, .inl ⟨_, rfl, .inl ⟨rfl, rfl⟩⟩, .inl ⟨_, rfl, .inl ⟨rfl, rfl⟩⟩, trivial⟩, nextM hlt⟩
    · have hge : ¬ k < l.length := by simpa [ics] using hge
      rw [drop_end hge] at hinv
      refine retO [1000, 1001, 1002] rfl rfl ?_ rfl
      simp only [List.flatMap_nil, List.append_nil] at hinv
      subst hinv
      rfl

set_option maxRecDepth 10000 in
theorem t58 {po : Option Prog} {p : C} (hp : PC po p) (bs : List UInt8) (l : List Ty) (enc : Ty → List UInt8) (hc : ∀ x ∈ l, ∀ s : List UInt8, (s ++ enc x).length ≤ 2 ^ 46 → CallsT P 45 [.own 1000 0, .agg (tyC x)] (Wr p s) (Ret (Wr p (s ++ enc x)) (.tup [])))
    (hb : (bs ++ encL enc l).length ≤ 2 ^ 46) : CallsT P 58 [.own 1000 0, .sl (l.map tyC), .fn 45 [.own 1000 0] []] (Wr p bs) (Ret (Wr p (bs ++ encL enc l)) (.tup [])) := by
  refine callsT_facts Try.func58 facts58 rfl fun hw _ => ?_
  have hn : l.length ≤ 9223372036854775807 := by have := wf_len hw.2.1; simpa [ics] using this
  have hp' := hp
  cases hp
  all_goals
    refine callO [1000, 1001] [1000, 1001] (t55 hp' bs [((l.map tyC).length : Int)] ?_) rfl rfl rfl rfl rfl fun _ _ => ?_
    · simp only [encL, List.length_append, List.length_map, List.length_map, encIs, List.flatMap_cons, List.flatMap_nil, List.append_nil] at hb ⊢; omega
    refine loopN l.length 15 [] (bs ++ encI l.length) (fun _ => []) (fun s => WrL _ s) (fun k s => s ++ (l.drop k).flatMap enc = bs ++ encL enc l) (by simp [encL]) (same_keys rfl) trivial ⟨.inl ⟨_, rfl, .inl ⟨rfl, rfl⟩⟩, .inl ⟨_, rfl, .inl ⟨?_, rfl⟩⟩, trivial⟩ (fun _ => rfl) (fun _ => rfl) ?_
    · show TO.row 5 1 (bcells (bs ++ encIs [((l.map tyC).length : Int)])) = _
      simp [encIs, ics]
    rintro k s hk hinv _ _ _
    refine brn_p (fun hlt => ?_) (fun hge => ?_)
    · have hlt : k < l.length := by simpa [ics] using hlt
      obtain ⟨x, hx, hd⟩ := drop_cons hlt
      rw [hd, List.flatMap_cons] at hinv
      have hsz : (s ++ enc x).length ≤ 2 ^ 46 := by
        rw [← hinv] at hb
        simp only [List.length_append] at hb ⊢
        omega
      refine idxTy hx ?_
      refine callO [1000, 1001] [1000, 1001] (hc x (List.mem_of_getElem? hx) s hsz) rfl rfl ?_ rfl rfl fun _ _ => ?_
      · simp only [tyC_eq]; rfl
      refine Fit.in64 (by omega) (by omega) ?_
      exact ⟨(k + 1, s ++ enc x), ⟨hlt, by rw [← hinv]; simp⟩, ⟨nextI, trivial⟩, ⟨.inl ⟨_, rfl, .inl ⟨rfl, rfl⟩⟩, .inl ⟨_, rfl, .inl ⟨rfl, rfl⟩⟩, trivial⟩, nextM hlt⟩
    · have hge : ¬ k < l.length := by simpa [ics] using hge
      rw [drop_end hge] at hinv
      refine retO [1000, 1001] rfl rfl ?_ rfl
      simp only [List.flatMap_nil, List.append_nil] at hinv
      subst hinv
      rfl

set_option maxRecDepth 10000 in
theorem t74 {po : Option Prog} {p : C} (hp : PC po p) (bs : List UInt8) (l : List Ins) (enc : Ins → List UInt8) (hc : ∀ x ∈ l, ∀ s : List UInt8, (s ++ enc x).length ≤ 2 ^ 46 → CallsT P 75 [.agg (insC x), .own 1002 0] (WrC p s) (Ret (WrC p (s ++ enc x)) (.tup [])))
    (hb : (bs ++ encL enc l).length ≤ 2 ^ 46) : CallsT P 74 [.own 1000 0, .sl (l.map insC), .fn 75 [] [.own 1002 0]] (WrC p bs) (Ret (WrC p (bs ++ encL enc l)) (.tup [])) := by
  refine callsT_facts Try.func74 facts74 rfl fun hw _ => ?_
  have hn : l.length ≤ 9223372036854775807 := by have := wf_len hw.2.1; simpa [ics] using this
  have hp' := hp
  cases hp
  all_goals
    refine callO [1000, 1001] [1000, 1001] (t55 hp' bs [((l.map insC).length : Int)] ?_) rfl rfl rfl rfl rfl fun _ _ => ?_
    · simp only [encL, List.length_append, List.length_map, List.length_map, encIs, List.flatMap_cons, List.flatMap_nil, List.append_nil] at hb ⊢; omega
    refine loopN l.length 15 [] (bs ++ encI l.length) (fun _ => []) (fun s => WrCL _ s) (fun k s => s ++ (l.drop k).flatMap enc = bs ++ encL enc l) (by simp [encL]) (same_keys rfl) trivial ⟨.inl ⟨_, rfl, .inl ⟨rfl, rfl⟩⟩, .inl ⟨_, rfl, .inl ⟨?_, rfl⟩⟩, .inl ⟨_, rfl, .inl ⟨rfl, rfl⟩⟩, trivial⟩ (fun _ => rfl) (fun _ => rfl) ?_
    · show TO.row 5 1 (bcells (bs ++ encIs [((l.map insC).length : Int)])) = _
      simp [encIs, ics]
    rintro k s hk hinv _ _ _
    refine brn_p (fun hlt => ?_) (fun hge => ?_)
    · have hlt : k < l.length := by simpa [ics] using hlt
      obtain ⟨x, hx, hd⟩ := drop_cons hlt
      rw [hd, List.flatMap_cons] at hinv
      have hsz : (s ++ enc x).length ≤ 2 ^ 46 := by
        rw [← hinv] at hb
        simp only [List.length_append] at hb ⊢
        omega
      refine idxT hx rfl rfl ?_
      refine callO [1000, 1001, 1002] [1000, 1001, 1002] (hc x (List.mem_of_getElem? hx) s hsz) rfl rfl rfl rfl rfl fun _ _ => ?_
      refine Fit.in64 (by omega) (by omega) ?_
      exact ⟨(k + 1, s ++ enc x), ⟨hlt, by rw [← hinv]; simp⟩, ⟨nextI, trivial⟩, ⟨.inl ⟨_, rfl, .inl ⟨rfl, rfl⟩⟩, .inl ⟨_, rfl, .inl ⟨rfl, rfl⟩⟩, .inl ⟨_, rfl, .inl ⟨rfl, rfl⟩⟩, trivial⟩, nextM hlt⟩
    · have hge : ¬ k < l.length := by simpa [ics] using hge
      rw [drop_end hge] at hinv
      refine retO [1000, 1001, 1002] rfl rfl ?_ rfl
      simp only [List.flatMap_nil, List.append_nil] at hinv
      subst hinv
      rfl

set_option maxRecDepth 10000 in
theorem t72 {po : Option Prog} {p : C} (hp : PC po p) (bs : List UInt8) (l : List Block) (enc : Block → List UInt8) (hc : ∀ x ∈ l, ∀ s : List UInt8, (s ++ enc x).length ≤ 2 ^ 46 → CallsT P 73 [.agg (blockC x), .own 1002 0] (WrC p s) (Ret (WrC p (s ++ enc x)) (.tup [])))
    (hb : (bs ++ encL enc l).length ≤ 2 ^ 46) : CallsT P 72 [.own 1000 0, .sl (l.map blockC), .fn 73 [] [.own 1002 0]] (WrC p bs) (Ret (WrC p (bs ++ encL enc l)) (.tup [])) := by
  refine callsT_facts Try.func72 facts72 rfl fun hw _ => ?_
  have hn : l.length ≤ 9223372036854775807 := by have := wf_len hw.2.1; simpa [ics] using this
  have hp' := hp
  cases hp
  all_goals
    refine callO [1000, 1001] [1000, 1001] (t55 hp' bs [((l.map blockC).length : Int)] ?_) rfl rfl rfl rfl rfl fun _ _ => ?_
    · simp only [encL, List.length_append, List.length_map, List.length_map, encIs, List.flatMap_cons, List.flatMap_nil, List.append_nil] at hb ⊢; omega
    refine loopN l.length 15 [] (bs ++ encI l.length) (fun _ => []) (fun s => WrCL _ s) (fun k s => s ++ (l.drop k).flatMap enc = bs ++ encL enc l) (by simp [encL]) (same_keys rfl) trivial ⟨.inl ⟨_, rfl, .inl ⟨rfl, rfl⟩⟩, .inl ⟨_, rfl, .inl ⟨?_, rfl⟩⟩, .inl ⟨_, rfl, .inl ⟨rfl, rfl⟩⟩, trivial⟩ (fun _ => rfl) (fun _ => rfl) ?_
    · show TO.row 5 1 (bcells (bs ++ encIs [((l.map blockC).length : Int)])) = _
      simp [encIs, ics]
    rintro k s hk hinv _ _ _
    refine brn_p (fun hlt => ?_) (fun hge => ?_)
    · have hlt : k < l.length := by simpa [ics] using hlt
      obtain ⟨x, hx, hd⟩ := drop_cons hlt
      rw [hd, List.flatMap_cons] at hinv
      have hsz : (s ++ enc x).length ≤ 2 ^ 46 := by
        rw [← hinv] at hb
        simp only [List.length_append] at hb ⊢
        omega
      refine idxT hx rfl rfl ?_
      refine callO [1000, 1001, 1002] [1000, 1001, 1002] (hc x (List.mem_of_getElem? hx) s hsz) rfl rfl rfl rfl rfl fun _ _ => ?_
      refine Fit.in64 (by omega) (by omega) ?_
      exact ⟨(k + 1, s ++ enc x), ⟨hlt, by rw [← hinv]; simp⟩, ⟨nextI, trivial⟩, ⟨.inl ⟨_, rfl, .inl ⟨rfl, rfl⟩⟩, .inl ⟨_, rfl, .inl ⟨rfl, rfl⟩⟩, .inl ⟨_, rfl, .inl ⟨rfl, rfl⟩⟩, trivial⟩, nextM hlt⟩
    · have hge : ¬ k < l.length := by simpa [ics] using hge
      rw [drop_end hge] at hinv
      refine retO [1000, 1001, 1002] rfl rfl ?_ rfl
      simp only [List.flatMap_nil, List.append_nil] at hinv
      subst hinv
      rfl

set_option maxRecDepth 10000 in
theorem t66 {po : Option Prog} {p : C} (hp : PC po p) (bs : List UInt8) (l : List Fun) (enc : Fun → List UInt8) (hc : ∀ x ∈ l, ∀ s : List UInt8, (s ++ enc x).length ≤ 2 ^ 46 → CallsT P 34 [.own 1000 0, .agg (funC x)] (Wr p s) (Ret (Wr p (s ++ enc x)) (.tup [])))
    (hb : (bs ++ encL enc l).length ≤ 2 ^ 46) : CallsT P 66 [.own 1000 0, .sl (l.map funC), .fn 34 [.own 1000 0] []] (Wr p bs) (Ret (Wr p (bs ++ encL enc l)) (.tup [])) := by
  refine callsT_facts Try.func66 facts66 rfl fun hw _ => ?_
  have hn : l.length ≤ 9223372036854775807 := by have := wf_len hw.2.1; simpa [ics] using this
  have hp' := hp
  cases hp
  all_goals
    refine callO [1000, 1001] [1000, 1001] (t55 hp' bs [((l.map funC).length : Int)] ?_) rfl rfl rfl rfl rfl fun _ _ => ?_
    · simp only [encL, List.length_append, List.length_map, List.length_map, encIs, List.flatMap_cons, List.flatMap_nil, List.append_nil] at hb ⊢; omega
    refine loopN l.length 15 [] (bs ++ encI l.length) (fun _ => []) (fun s => WrL _ s) (fun k s => s ++ (l.drop k).flatMap enc = bs ++ encL enc l) (by simp [encL]) (same_keys rfl) trivial ⟨.inl ⟨_, rfl, .inl ⟨rfl, rfl⟩⟩, .inl ⟨_, rfl, .inl ⟨?_, rfl⟩⟩, trivial⟩ (fun _ => rfl) (fun _ => rfl) ?_
    · show TO.row 5 1 (bcells (bs ++ encIs [((l.map funC).length : Int)])) = _
      simp [encIs, ics]
    rintro k s hk hinv _ _ _
    refine brn_p (fun hlt => ?_) (fun hge => ?_)
    · have hlt : k < l.length := by simpa [ics] using hlt
      obtain ⟨x, hx, hd⟩ := drop_cons hlt
      rw [hd, List.flatMap_cons] at hinv
      have hsz : (s ++ enc x).length ≤ 2 ^ 46 := by
        rw [← hinv] at hb
        simp only [List.length_append] at hb ⊢
        omega
      refine idxT hx rfl rfl ?_
      refine callO [1000, 1001] [1000, 1001] (hc x (List.mem_of_getElem? hx) s hsz) rfl rfl rfl rfl rfl fun _ _ => ?_
      refine Fit.in64 (by omega) (by omega) ?_
      exact ⟨(k + 1, s ++ enc x), ⟨hlt, by rw [← hinv]; simp⟩, ⟨nextI, trivial⟩, ⟨.inl ⟨_, rfl, .inl ⟨rfl, rfl⟩⟩, .inl ⟨_, rfl, .inl ⟨rfl, rfl⟩⟩, trivial⟩, nextM hlt⟩
    · have hge : ¬ k < l.length := by simpa [ics] using hge
      rw [drop_end hge] at hinv
      refine retO [1000, 1001] rfl rfl ?_ rfl
      simp only [List.flatMap_nil, List.append_nil] at hinv
      subst hinv
      rfl

set_option maxRecDepth 10000 in
theorem t56 {po : Option Prog} {p : C} (hp : PC po p) (bs : List UInt8) (l : List Variant) (enc : Variant → List UInt8) (hc : ∀ x ∈ l, ∀ s : List UInt8, (s ++ enc x).length ≤ 2 ^ 46 → CallsT P 57 [.agg (variantC x), .own 1002 0] (WrC p s) (Ret (WrC p (s ++ enc x)) (.tup [])))
    (hb : (bs ++ encL enc l).length ≤ 2 ^ 46) : CallsT P 56 [.own 1000 0, .sl (l.map variantC), .fn 57 [] [.own 1002 0]] (WrC p bs) (Ret (WrC p (bs ++ encL enc l)) (.tup [])) := by
  refine callsT_facts Try.func56 facts56 rfl fun hw _ => ?_
  have hn : l.length ≤ 9223372036854775807 := by have := wf_len hw.2.1; simpa [ics] using this
  have hp' := hp
  cases hp
  all_goals
    refine callO [1000, 1001] [1000, 1001] (t55 hp' bs [((l.map variantC).length : Int)] ?_) rfl rfl rfl rfl rfl fun _ _ => ?_
    · simp only [encL, List.length_append, List.length_map, List.length_map, encIs, List.flatMap_cons, List.flatMap_nil, List.append_nil] at hb ⊢; omega
    refine loopN l.length 15 [] (bs ++ encI l.length) (fun _ => []) (fun s => WrCL _ s) (fun k s => s ++ (l.drop k).flatMap enc = bs ++ encL enc l) (by simp [encL]) (same_keys rfl) trivial ⟨.inl ⟨_, rfl, .inl ⟨rfl, rfl⟩⟩, .inl ⟨_, rfl, .inl ⟨?_, rfl⟩⟩, .inl ⟨_, rfl, .inl ⟨rfl, rfl⟩⟩, trivial⟩ (fun _ => rfl) (fun _ => rfl) ?_
    · show TO.row 5 1 (bcells (bs ++ encIs [((l.map variantC).length : Int)])) = _
      simp [encIs, ics]
    rintro k s hk hinv _ _ _
    refine brn_p (fun hlt => ?_) (fun hge => ?_)
    · have hlt : k < l.length := by simpa [ics] using hlt
      obtain ⟨x, hx, hd⟩ := drop_cons hlt
      rw [hd, List.flatMap_cons] at hinv
      have hsz : (s ++ enc x).length ≤ 2 ^ 46 := by
        rw [← hinv] at hb
        simp only [List.length_append] at hb ⊢
        omega
      refine idxT hx rfl rfl ?_
      refine callO [1000, 1001, 1002] [1000, 1001, 1002] (hc x (List.mem_of_getElem? hx) s hsz) rfl rfl rfl rfl rfl fun _ _ => ?_
      refine Fit.in64 (by omega) (by omega) ?_
      exact ⟨(k + 1, s ++ enc x), ⟨hlt, by rw [← hinv]; simp⟩, ⟨nextI, trivial⟩, ⟨.inl ⟨_, rfl, .inl ⟨rfl, rfl⟩⟩, .inl ⟨_, rfl, .inl ⟨rfl, rfl⟩⟩, .inl ⟨_, rfl, .inl ⟨rfl, rfl⟩⟩, trivial⟩, nextM hlt⟩
    · have hge : ¬ k < l.length := by simpa [ics] using hge
      rw [drop_end hge] at hinv
      refine retO [1000, 1001, 1002] rfl rfl ?_ rfl
      simp only [List.flatMap_nil, List.append_nil] at hinv
      subst hinv
      rfl

set_option maxRecDepth 10000 in
theorem t51 {po : Option Prog} {p : C} (hp : PC po p) (bs : List UInt8) (l : List Api.Data) (enc : Api.Data → List UInt8) (hc : ∀ x ∈ l, ∀ s : List UInt8, (s ++ enc x).length ≤ 2 ^ 46 → CallsT P 54 [.agg (dataC x), .own 1002 0] (WrC p s) (Ret (WrC p (s ++ enc x)) (.tup [])))
    (hb : (bs ++ encL enc l).length ≤ 2 ^ 46) : CallsT P 51 [.own 1000 0, .sl (l.map dataC), .fn 54 [] [.own 1002 0]] (WrC p bs) (Ret (WrC p (bs ++ encL enc l)) (.tup [])) := by
  refine callsT_facts Try.func51 facts51 rfl fun hw _ => ?_
  have hn : l.length ≤ 9223372036854775807 := by have := wf_len hw.2.1; simpa [ics] using this
  have hp' := hp
  cases hp
  all_goals
    refine callO [1000, 1001] [1000, 1001] (t55 hp' bs [((l.map dataC).length : Int)] ?_) rfl rfl rfl rfl rfl fun _ _ => ?_
    · simp only [encL, List.length_append, List.length_map, List.length_map, encIs, List.flatMap_cons, List.flatMap_nil, List.append_nil] at hb ⊢; omega
    refine loopN l.length 15 [] (bs ++ encI l.length) (fun _ => []) (fun s => WrCL _ s) (fun k s => s ++ (l.drop k).flatMap enc = bs ++ encL enc l) (by simp [encL]) (same_keys rfl) trivial ⟨.inl ⟨_, rfl, .inl ⟨rfl, rfl⟩⟩, .inl ⟨_, rfl, .inl ⟨?_, rfl⟩⟩, .inl ⟨_, rfl, .inl ⟨rfl, rfl⟩⟩, trivial⟩ (fun _ => rfl) (fun _ => rfl) ?_
    · show TO.row 5 1 (bcells (bs ++ encIs [((l.map dataC).length : Int)])) = _
      simp [encIs, ics]
    rintro k s hk hinv _ _ _
    refine brn_p (fun hlt => ?_) (fun hge => ?_)
    · have hlt : k < l.length := by simpa [ics] using hlt
      obtain ⟨x, hx, hd⟩ := drop_cons hlt
      rw [hd, List.flatMap_cons] at hinv
      have hsz : (s ++ enc x).length ≤ 2 ^ 46 := by
        rw [← hinv] at hb
        simp only [List.length_append] at hb ⊢
        omega
      refine idxT hx rfl rfl ?_
      refine callO [1000, 1001, 1002] [1000, 1001, 1002] (hc x (List.mem_of_getElem? hx) s hsz) rfl rfl rfl rfl rfl fun _ _ => ?_
      refine Fit.in64 (by omega) (by omega) ?_
      exact ⟨(k + 1, s ++ enc x), ⟨hlt, by rw [← hinv]; simp⟩, ⟨nextI, trivial⟩, ⟨.inl ⟨_, rfl, .inl ⟨rfl, rfl⟩⟩, .inl ⟨_, rfl, .inl ⟨rfl, rfl⟩⟩, .inl ⟨_, rfl, .inl ⟨rfl, rfl⟩⟩, trivial⟩, nextM hlt⟩
    · have hge : ¬ k < l.length := by simpa [ics] using hge
      rw [drop_end hge] at hinv
      refine retO [1000, 1001, 1002] rfl rfl ?_ rfl
      simp only [List.flatMap_nil, List.append_nil] at hinv
      subst hinv
      rfl

set_option maxRecDepth 10000 in
theorem t59 {po : Option Prog} {p : C} (hp : PC po p) (bs : List UInt8) (l : List Impl) (enc : Impl → List UInt8) (hc : ∀ x ∈ l, ∀ s : List UInt8, (s ++ enc x).length ≤ 2 ^ 46 → CallsT P 62 [.agg (implC x), .own 1002 0] (WrC p s) (Ret (WrC p (s ++ enc x)) (.tup [])))
    (hb : (bs ++ encL enc l).length ≤ 2 ^ 46) : CallsT P 59 [.own 1000 0, .sl (l.map implC), .fn 62 [] [.own 1002 0]] (WrC p bs) (Ret (WrC p (bs ++ encL enc l)) (.tup [])) := by
  refine callsT_facts Try.func59 facts59 rfl fun hw _ => ?_
  have hn : l.length ≤ 9223372036854775807 := by have := wf_len hw.2.1; simpa [ics] using this
  have hp' := hp
  cases hp
  all_goals
    refine callO [1000, 1001] [1000, 1001] (t55 hp' bs [((l.map implC).length : Int)] ?_) rfl rfl rfl rfl rfl fun _ _ => ?_
    · simp only [encL, List.length_append, List.length_map, List.length_map, encIs, List.flatMap_cons, List.flatMap_nil, List.append_nil] at hb ⊢; omega
    refine loopN l.length 15 [] (bs ++ encI l.length) (fun _ => []) (fun s => WrCL _ s) (fun k s => s ++ (l.drop k).flatMap enc = bs ++ encL enc l) (by simp [encL]) (same_keys rfl) trivial ⟨.inl ⟨_, rfl, .inl ⟨rfl, rfl⟩⟩, .inl ⟨_, rfl, .inl ⟨?_, rfl⟩⟩, .inl ⟨_, rfl, .inl ⟨rfl, rfl⟩⟩, trivial⟩ (fun _ => rfl) (fun _ => rfl) ?_
    · show TO.row 5 1 (bcells (bs ++ encIs [((l.map implC).length : Int)])) = _
      simp [encIs, ics]
    rintro k s hk hinv _ _ _
    refine brn_p (fun hlt => ?_) (fun hge => ?_)
    · have hlt : k < l.length := by simpa [ics] using hlt
      obtain ⟨x, hx, hd⟩ := drop_cons hlt
      rw [hd, List.flatMap_cons] at hinv
      have hsz : (s ++ enc x).length ≤ 2 ^ 46 := by
        rw [← hinv] at hb
        simp only [List.length_append] at hb ⊢
        omega
      refine idxT hx rfl rfl ?_
      refine callO [1000, 1001, 1002] [1000, 1001, 1002] (hc x (List.mem_of_getElem? hx) s hsz) rfl rfl rfl rfl rfl fun _ _ => ?_
      refine Fit.in64 (by omega) (by omega) ?_
      exact ⟨(k + 1, s ++ enc x), ⟨hlt, by rw [← hinv]; simp⟩, ⟨nextI, trivial⟩, ⟨.inl ⟨_, rfl, .inl ⟨rfl, rfl⟩⟩, .inl ⟨_, rfl, .inl ⟨rfl, rfl⟩⟩, .inl ⟨_, rfl, .inl ⟨rfl, rfl⟩⟩, trivial⟩, nextM hlt⟩
    · have hge : ¬ k < l.length := by simpa [ics] using hge
      rw [drop_end hge] at hinv
      refine retO [1000, 1001, 1002] rfl rfl ?_ rfl
      simp only [List.flatMap_nil, List.append_nil] at hinv
      subst hinv
      rfl

end Go.Fr.Try

/- Digest: texts, elements, types. -/
set_option linter.unusedVariables false
set_option linter.unusedSimpArgs false
namespace Go.Fr.Try
open Go Go.RowKit Go.Proofs Go.Fr Go.Fr.T Go.Fr.Api

theorem appS1 {bs : List UInt8} {s : ByteArray} {K : Prop} (h : bs.length + s.size ≤ 2 ^ 46) (k : K) : AppT (bcells bs) (bcells s.data.toList) 1 1 K := by
  have hl : (bcells s.data.toList).length = s.size := by simp [bcells]
  exact ⟨bcells_sz, by rw [bcells_len, hl]; simp [maxLen]; omega, by rw [bcells_len, hl]; simp; omega, k⟩
theorem size_toList (s : ByteArray) : s.data.toList.length = s.size := by simp

set_option maxRecDepth 10000 in
theorem t50 {po : Option Prog} {p : C} (hp : PC po p) (bs : List UInt8) (l : List ByteArray) (hb : (bs ++ encSs l).length ≤ 2 ^ 46) : CallsT P 50 [.own 1000 0, .sl (scs l)] (Wr p bs) (Ret (Wr p (bs ++ encSs l)) (.tup [])) := by
  refine callsT_facts Try.func50 facts50 rfl fun hw _ => ?_
  have hn : l.length ≤ 9223372036854775807 := by have := wf_len hw.2.1; simpa [scs] using this
  have hp' := hp
  cases hp
  all_goals
    refine loopN l.length 8 [] bs (fun _ => []) (fun s => WrL _ s) (fun k s => s ++ encSs (l.drop k) = bs ++ encSs l) rfl (same_keys rfl) trivial ⟨.inl ⟨_, rfl, .inl ⟨rfl, rfl⟩⟩, .inl ⟨_, rfl, .inl ⟨rfl, rfl⟩⟩, trivial⟩ (fun _ => rfl) (fun _ => rfl) ?_
    rintro k s hk hinv _ _ _
    refine brn_p (fun hlt => ?_) (fun hge => ?_)
    · have hlt : k < l.length := by simpa [scs] using hlt
      obtain ⟨x, hx, hd⟩ := drop_cons hlt
      rw [hd] at hinv
      have hsz : s.length + (encI x.size).length + x.size ≤ 2 ^ 46 := by
        rw [← hinv] at hb
        simp only [encSs, List.flatMap_cons, encS, List.length_append, size_toList] at hb
        omega
      refine idxS hx ?_
      refine callO [1000, 1001] [1000, 1001] (t55 hp' s [(x.size : Int)] ?_) rfl rfl rfl rfl rfl fun _ _ => ?_
      · simp only [encIs, List.flatMap_cons, List.flatMap_nil, List.append_nil, List.length_append]; omega
      refine appS1 ?_ ?_
      · simp only [encIs, List.flatMap_cons, List.flatMap_nil, List.append_nil, List.length_append]; omega
      refine Fit.in64 (by omega) (by omega) ?_
      refine ⟨(k + 1, s ++ encS x), ⟨hlt, by rw [← hinv]; simp [encSs]⟩, ⟨nextI, trivial⟩, ⟨.inl ⟨_, rfl, .inl ⟨rfl, rfl⟩⟩, .inl ⟨_, rfl, .inl ⟨?_, rfl⟩⟩, trivial⟩, nextM hlt⟩
      refine congrArg (TO.row 5 1) ?_
      simp [encS, encIs, bcells]
    · have hge : ¬ k < l.length := by simpa [scs] using hge
      rw [drop_end hge] at hinv
      refine retO [1000, 1001] rfl rfl ?_ rfl
      simp only [encSs, List.flatMap_nil, List.append_nil] at hinv
      subst hinv
      rfl

def elem {α : Type} (l : List α) (i : Int) : Option α := if i < 0 then none else l[i.toNat]?
theorem elem_some {α : Type} {l : List α} {i : Int} {x : α} (h : elem l i = some x) : ¬ i < 0 ∧ ¬ (l.length : Int) ≤ i ∧ l[i.toNat]? = some x := by
  unfold elem at h
  split at h
  · cases h
  · have := (List.getElem?_eq_some_iff.1 h).1
    exact ⟨by assumption, by omega, h⟩
theorem elem_none {α : Type} {l : List α} {i : Int} (h : elem l i = none) : i < 0 ∨ (¬ i < 0 ∧ (l.length : Int) ≤ i) := by
  unfold elem at h
  split at h
  · exact .inl (by assumption)
  · have := List.getElem?_eq_none_iff.1 h
    exact .inr ⟨by assumption, by omega⟩
theorem idxE {α : Type} {f : α → List C} {l : List α} {i : Int} {sz : Nat} {x : α} {es : List C} {K : List C → Prop} (h0 : ¬ i < 0) (hx : l[i.toNat]? = some x) (he : f x = es) (hl : lenC? es sz = true) (h : K es) : IdxT (l.map f) i sz K :=
  ⟨es, by omega, by simp [hx, he], hl, h⟩
theorem t48s (l : List ByteArray) (i : Int) (s : ByteArray) (h : elem l i = some s) : CallsT P 48 [.sl (scs l), IC i] [] (Ret [] (.tup [.str s, .bool true])) := by
  refine callsT_facts Try.func48 facts48 rfl fun hw _ => ?_
  obtain ⟨h1, h2, h3⟩ := elem_some h
  refine brn_p (fun h => absurd h h1) (fun _ => ?_)
  refine brn_p (fun h => absurd h (by simpa [scs] using h2)) (fun _ => ?_)
  refine idxE h1 h3 rfl rfl ?_
  exact retP rfl rfl
theorem t48n (l : List ByteArray) (i : Int) (h : elem l i = none) : CallsT P 48 [.sl (scs l), IC i] [] (Ret [] (.tup [.str ⟨#[]⟩, .bool false])) := by
  refine callsT_facts Try.func48 facts48 rfl fun hw _ => ?_
  rcases elem_none h with h1 | ⟨h1, h2⟩
  · refine brn_p (fun _ => ?_) (fun h => absurd h1 h)
    exact retP rfl rfl
  · refine brn_p (fun h => absurd h h1) (fun _ => ?_)
    refine brn_p (fun _ => ?_) (fun h => absurd (by simpa [scs] using h2) h)
    exact retP rfl rfl
def zeroD : Api.Data := ⟨⟨#[]⟩, 0, 0, [], 0⟩
theorem t89s (l : List Api.Data) (i : Int) (s : Api.Data) (h : elem l i = some s) : CallsT P 89 [.sl (l.map dataC), IC i] [] (Ret [] (.tup [.agg (dataC s), .bool true])) := by
  refine callsT_facts Try.func89 facts89 rfl fun hw _ => ?_
  obtain ⟨h1, h2, h3⟩ := elem_some h
  refine brn_p (fun h => absurd h h1) (fun _ => ?_)
  refine brn_p (fun h => absurd h (by simpa using h2)) (fun _ => ?_)
  refine idxE h1 h3 rfl rfl ?_
  exact retP rfl rfl
theorem t89n (l : List Api.Data) (i : Int) (h : elem l i = none) : CallsT P 89 [.sl (l.map dataC), IC i] [] (Ret [] (.tup [.agg (dataC zeroD), .bool false])) := by
  refine callsT_facts Try.func89 facts89 rfl fun hw _ => ?_
  rcases elem_none h with h1 | ⟨h1, h2⟩
  · refine brn_p (fun _ => ?_) (fun h => absurd h1 h)
    exact retP rfl rfl
  · refine brn_p (fun h => absurd h h1) (fun _ => ?_)
    refine brn_p (fun _ => ?_) (fun h => absurd (by simpa using h2) h)
    exact retP rfl rfl

def nm (l : List ByteArray) (i : Int) : ByteArray := (elem l i).getD ⟨#[]⟩
def encName (po : Option Prog) (k i : Int) : Option (List UInt8) :=
  match po with
  | none => none
  | some q => if k = 2 then (elem q.datas i).map fun d => encSs [nm q.modules d.module, d.name] else none
mutual
def encTy (po : Option Prog) : Ty → List UInt8
  | .mk k i l => encI k ++ ((encName po k i).getD (encI i) ++ (encI l.length ++ encTys po l))
def encTys (po : Option Prog) : List Ty → List UInt8
  | [] => []
  | t :: l => encTy po t ++ encTys po l
end
theorem encTys_flat (po : Option Prog) : ∀ l : List Ty, encTys po l = l.flatMap (encTy po)
  | [] => rfl
  | t :: l => by simp only [encTys, List.flatMap_cons, encTys_flat po l]
theorem encTy_eq (po : Option Prog) (t : Ty) : encTy po t = encI t.kind ++ ((encName po t.kind t.id).getD (encI t.id) ++ encL (encTy po) t.args) := by
  cases t
  simp only [encTy, encL, encTys_flat, Ty.kind, Ty.id, Ty.args]

theorem t48 (l : List ByteArray) (i : Int) : ∃ b, CallsT P 48 [.sl (scs l), IC i] [] (Ret [] (.tup [.str (nm l i), .bool b])) := by
  unfold nm
  cases h : elem l i with
  | some s => exact ⟨_, t48s l i s h⟩
  | none => exact ⟨_, t48n l i h⟩
end Go.Fr.Try

/- Digest: named types. -/
set_option linter.unusedVariables false
set_option linter.unusedSimpArgs false
namespace Go.Fr.Try
open Go Go.RowKit Go.Proofs Go.Fr Go.Fr.T Go.Fr.Api

set_option maxRecDepth 10000 in
theorem t80 {po : Option Prog} {p : C} (hp : PC po p) (bs : List UInt8) (t : Ty) (hb : (bs ++ (encName po t.kind t.id).getD []).length ≤ 2 ^ 46) :
    CallsT P 80 [.own 1000 0, .agg (tyC t)] (Wr p bs) (Ret (Wr p (bs ++ (encName po t.kind t.id).getD [])) (.bool (encName po t.kind t.id).isSome)) := by
  rw [tyC_eq]
  have hp' := hp
  have none_case : ∀ (e : encName po t.kind t.id = none), p = .nilp ∨ (∃ q, po = some q ∧ p = .pt (progC q) 0 ∧ (¬ t.kind = 2 ∨ (t.kind = 2 ∧ elem q.datas t.id = none))) →
      CallsT P 80 [.own 1000 0, .agg [IC t.kind, IC t.id, .sl (t.args.map tyC)]] (Wr p bs) (Ret (Wr p bs) (.bool false)) := by
    rintro e (rfl | ⟨q, rfl, rfl, hk⟩)
    · refine callsT_facts Try.func80 facts80 rfl fun hw _ => ?_
      exact retO [1000, 1001] rfl rfl rfl rfl
    · refine callsT_facts Try.func80 facts80 rfl fun hw _ => ?_
      rcases hk with hk | ⟨hk, hd⟩
      · refine brn_split (fun h => ?_) (fun h => absurd (by simpa using h) hk)
        exact retO [1000, 1001] rfl rfl rfl rfl
      · refine brn_split (fun h => absurd hk (by simpa using h)) (fun h => ?_)
        refine callPD (t89n _ _ hd) rfl fun _ => ?_
        exact retO [1000, 1001] rfl rfl rfl rfl
  cases hp with
  | nil =>
    have := none_case rfl (.inl rfl)
    simpa [encName] using this
  | prog q =>
    by_cases hk : t.kind = 2
    · cases hd : elem q.datas t.id with
      | none =>
        have e : encName (some q) t.kind t.id = none := by simp [encName, hk, hd]
        have := none_case e (.inr ⟨q, rfl, rfl, .inr ⟨hk, hd⟩⟩)
        rw [e]
        simpa using this
      | some d =>
        have e : encName (some q) t.kind t.id = some (encSs [nm q.modules d.module, d.name]) := by simp [encName, hk, hd]
        rw [e] at hb ⊢
        have hx := t48 q.modules d.module
        obtain ⟨b, hm⟩ := hx
        refine callsT_facts Try.func80 facts80 rfl fun hw _ => ?_
        refine brn_split (fun h => absurd hk (by simpa using h)) (fun h => ?_)
        refine callPD (t89s _ _ d hd) rfl fun _ => ?_
        refine callPD hm rfl fun _ => ?_
        refine callO [1000, 1001] [1000, 1001] (t50 hp' bs [nm q.modules d.module, d.name] hb) rfl rfl rfl rfl rfl fun _ _ => ?_
        exact retO [1000, 1001] rfl rfl rfl rfl
    · have e : encName (some q) t.kind t.id = none := by simp [encName, hk]
      have := none_case e (.inr ⟨q, rfl, rfl, .inl hk⟩)
      rw [e]
      simpa using this
end Go.Fr.Try

/- Digest: types, signatures, functions (printed by dg6.py). -/
set_option linter.unusedVariables false
set_option linter.unusedSimpArgs false
namespace Go.Fr.Try
open Go Go.RowKit Go.Proofs Go.Fr Go.Fr.T Go.Fr.Api

def encTrait (po : Option Prog) (n : Int) : List UInt8 := match po with | none => encIs [n] | some q => encSs [nm q.traits n]
theorem t63 {po : Option Prog} {p : C} (hp : PC po p) (bs : List UInt8) (n : Int) (hb : (bs ++ encTrait po n).length ≤ 2 ^ 46) : CallsT P 63 [.own 1000 0, IC n] (Wr p bs) (Ret (Wr p (bs ++ encTrait po n)) (.tup [])) := by
  have hp' := hp
  cases hp with
  | nil =>
    refine callsT_facts Try.func63 facts63 rfl fun hw _ => ?_
    refine callO [1000, 1001] [1000, 1001] (t55 hp' bs [n] hb) rfl rfl rfl rfl rfl fun _ _ => ?_
    exact retO [1000, 1001] rfl rfl rfl rfl
  | prog q =>
    have hx := t48 q.traits n
    obtain ⟨b, hm⟩ := hx
    refine callsT_facts Try.func63 facts63 rfl fun hw _ => ?_
    refine callP hm rfl fun _ => ?_
    refine callO [1000, 1001] [1000, 1001] (t50 hp' bs [nm q.traits n] hb) rfl rfl rfl rfl rfl fun _ _ => ?_
    exact retO [1000, 1001] rfl rfl rfl rfl
def encBound (po : Option Prog) (b : Bound) : List UInt8 := encIs [b.param] ++ encTrait po b.trait
theorem t82 {po : Option Prog} {p : C} (hp : PC po p) (b : Bound) (bs : List UInt8) (hb : (bs ++ encBound po b).length ≤ 2 ^ 46) : CallsT P 82 [.agg (boundC b), .own 1002 0] (WrC p bs) (Ret (WrC p (bs ++ encBound po b)) (.tup [])) := by
  have e : bs ++ encBound po b = bs ++ encIs [b.param] ++ encTrait po b.trait := by simp [encBound]
  rw [e] at hb ⊢
  refine callsT_facts Try.func82 facts82 rfl fun hw _ => ?_
  have hp' := hp
  cases hp
  all_goals
    refine callO [1000, 1001] [1000, 1001] (t55 hp' bs [b.param] (by simp only [List.length_append] at hb ⊢; omega)) rfl rfl rfl rfl rfl fun _ _ => ?_
    refine callO [1000, 1001] [1000, 1001] (t63 hp' _ b.trait hb) rfl rfl rfl rfl rfl fun _ _ => ?_
    exact retO [1000, 1001, 1002] rfl rfl rfl rfl
theorem t64 {po : Option Prog} {p : C} (hp : PC po p) (bs : List UInt8) (l : List Bound) (hb : (bs ++ encL (encBound po) l).length ≤ 2 ^ 46) : CallsT P 64 [.own 1000 0, .sl (l.map boundC)] (Wr p bs) (Ret (Wr p (bs ++ encL (encBound po) l)) (.tup [])) := by
  refine callsT_facts Try.func64 facts64 rfl fun hw _ => ?_
  have hp' := hp
  cases hp
  all_goals
    refine callO [1000, 1001, 2] [1000, 1001, 2] (t81 hp' bs l (encBound _) (fun x _ s hs => t82 hp' x s hs) hb) rfl rfl rfl rfl rfl fun _ _ => ?_
    exact retO [1000, 1001] rfl rfl rfl rfl
theorem t88 {po : Option Prog} {p : C} (hp : PC po p) (n : Int) (bs : List UInt8) (hb : (bs ++ encI n).length ≤ 2 ^ 46) : CallsT P 88 [IC n, .own 1002 0] (WrC p bs) (Ret (WrC p (bs ++ encI n)) (.tup [])) := by
  have e : bs ++ encI n = bs ++ encIs [n] := by simp [encIs]
  rw [e] at hb ⊢
  refine callsT_facts Try.func88 facts88 rfl fun hw _ => ?_
  have hp' := hp
  cases hp
  all_goals
    refine callO [1000, 1001] [1000, 1001] (t55 hp' bs [n] hb) rfl rfl rfl rfl rfl fun _ _ => ?_
    exact retO [1000, 1001, 1002] rfl rfl rfl rfl
theorem t71 {po : Option Prog} {p : C} (hp : PC po p) (bs : List UInt8) (l : List Int) (hb : (bs ++ encL encI l).length ≤ 2 ^ 46) : CallsT P 71 [.own 1000 0, .sl (ics l)] (Wr p bs) (Ret (Wr p (bs ++ encL encI l)) (.tup [])) := by
  refine callsT_facts Try.func71 facts71 rfl fun hw _ => ?_
  have hp' := hp
  cases hp
  all_goals
    refine callO [1000, 1001, 2] [1000, 1001, 2] (t87 hp' bs l encI (fun x _ s hs => t88 hp' x s hs) hb) rfl rfl rfl rfl rfl fun _ _ => ?_
    exact retO [1000, 1001] rfl rfl rfl rfl
set_option maxRecDepth 10000 in
theorem t45 {po : Option Prog} {p : C} (hp : PC po p) : ∀ (t : Ty) (bs : List UInt8) (hb : (bs ++ encTy po t).length ≤ 2 ^ 46), CallsT P 45 [.own 1000 0, .agg (tyC t)] (Wr p bs) (Ret (Wr p (bs ++ encTy po t)) (.tup []))
  | .mk k i l, bs, hb => by
    have ih : ∀ x ∈ l, ∀ s : List UInt8, (s ++ encTy po x).length ≤ 2 ^ 46 → CallsT P 45 [.own 1000 0, .agg (tyC x)] (Wr p s) (Ret (Wr p (s ++ encTy po x)) (.tup [])) := fun x hx s hs => t45 hp x s hs
    have h80 := t80 hp (bs ++ encIs [k]) (.mk k i l)
    rw [tyC_eq] at h80 ⊢
    simp only [Ty.kind, Ty.id, Ty.args] at h80 ⊢
    cases hn : encName po k i with
    | none =>
      have e : bs ++ encTy po (.mk k i l) = bs ++ encIs [k] ++ encIs [i] ++ encL (encTy po) l := by rw [encTy_eq]; simp [encIs, Ty.kind, Ty.id, Ty.args, hn]
      rw [e] at hb ⊢
      rw [hn] at h80
      simp only [Option.getD_none, Option.isSome_none, List.append_nil] at h80
      generalize encTy po = E at ih hb ⊢
      refine callsT_facts Try.func45 facts45 rfl fun hw _ => ?_
      have hp' := hp
      cases hp
      all_goals
        refine callO [1000, 1001] [1000, 1001] (t55 hp' bs [k] (by simp only [List.length_append] at hb ⊢; omega)) rfl rfl rfl rfl rfl fun _ _ => ?_
        refine callO [1000, 1001] [1000, 1001] (h80 (by simp only [List.length_append] at hb ⊢; omega)) rfl rfl rfl rfl rfl fun _ _ => ?_
        refine callO [1000, 1001] [1000, 1001] (t55 hp' (bs ++ encIs [k]) [i] (by simp only [List.length_append] at hb ⊢; omega)) rfl rfl rfl rfl rfl fun _ _ => ?_
        refine callO [1000, 1001] [1000, 1001] (t58 hp' (bs ++ encIs [k] ++ encIs [i]) l E ih hb) rfl rfl rfl rfl rfl fun _ _ => ?_
        exact retO [1000, 1001] rfl rfl rfl rfl
    | some b =>
      have e : bs ++ encTy po (.mk k i l) = bs ++ encIs [k] ++ b ++ encL (encTy po) l := by rw [encTy_eq]; simp [encIs, Ty.kind, Ty.id, Ty.args, hn]
      rw [e] at hb ⊢
      rw [hn] at h80
      simp only [Option.getD_some, Option.isSome_some] at h80
      generalize encTy po = E at ih hb ⊢
      refine callsT_facts Try.func45 facts45 rfl fun hw _ => ?_
      have hp' := hp
      cases hp
      all_goals
        refine callO [1000, 1001] [1000, 1001] (t55 hp' bs [k] (by simp only [List.length_append] at hb ⊢; omega)) rfl rfl rfl rfl rfl fun _ _ => ?_
        refine callO [1000, 1001] [1000, 1001] (h80 (by simp only [List.length_append] at hb ⊢; omega)) rfl rfl rfl rfl rfl fun _ _ => ?_
        refine callO [1000, 1001] [1000, 1001] (t58 hp' (bs ++ encIs [k] ++ b) l E ih hb) rfl rfl rfl rfl rfl fun _ _ => ?_
        exact retO [1000, 1001] rfl rfl rfl rfl
termination_by t => SizeOf.sizeOf t
decreasing_by
  have := List.sizeOf_lt_of_mem hx
  simp only [Ty.mk.sizeOf_spec]
  omega
def mn (n : Nat) (a : Int) : Int := if (n : Int) < a then (n : Int) else a
def mx0 (m : Int) : Int := if m > 0 then m else 0
theorem mn_wf {n : Nat} {a : Int} (h1 : (Lit.int .i64 a).wf = true) (h2 : n ≤ 9223372036854775807) : (Lit.int .i64 (mn n a)).wf = true := by
  unfold mn
  split
  · exact (wf_iff _ _).2 ⟨by show (-9223372036854775808 : Int) ≤ _; omega, by show _ ≤ (9223372036854775807 : Int); omega⟩
  · exact h1
theorem mx0_wf {m : Int} (h1 : (Lit.int .i64 m).wf = true) : (Lit.int .i64 (mx0 m)).wf = true := by
  unfold mx0
  split
  · exact h1
  · rfl
theorem mx0_bd {n : Nat} {a : Int} : 0 ≤ mx0 (mn n a) ∧ mx0 (mn n a) ≤ n := by
  unfold mx0 mn
  constructor
  · split <;> omega
  · split <;> (try split) <;> omega
theorem mx0_eq (n : Nat) (a : Int) : (mx0 (mn n a)).toNat = (max 0 (min a n)).toNat := by
  unfold mx0 mn
  congr 1
  rw [Int.max_def, Int.min_def]
  split <;> split <;> split <;> (try split) <;> omega
def argsOf (f : Fun) : List Ty := f.locals.take (max 0 (min f.arity f.locals.length)).toNat
def encSig (po : Option Prog) (f : Fun) : List UInt8 := encSs [f.name] ++ (encIs [f.params] ++ (encL (encBound po) f.bounds ++ (encIs [f.arity] ++ (encL (encTy po) (argsOf f) ++ (encTy po f.result ++ encL encI f.ties)))))
theorem tyC_len (t : Ty) : (tyC t).length = 3 := by rw [tyC_eq]; rfl
set_option maxRecDepth 10000 in
theorem t34 {po : Option Prog} {p : C} (hp : PC po p) (f : Fun) (bs : List UInt8) (hb : (bs ++ encSig po f).length ≤ 2 ^ 46) : CallsT P 34 [.own 1000 0, .agg (funC f)] (Wr p bs) (Ret (Wr p (bs ++ encSig po f)) (.tup [])) := by
  have e : bs ++ encSig po f = bs ++ encSs [f.name] ++ encIs [f.params] ++ encL (encBound po) f.bounds ++ encIs [f.arity] ++ encL (encTy po) (argsOf f) ++ encTy po f.result ++ encL encI f.ties := by simp [encSig]
  rw [e] at hb ⊢
  have h45 : ∀ (x : Ty) (s : List UInt8), (s ++ encTy po x).length ≤ 2 ^ 46 → CallsT P 45 [.own 1000 0, .agg (tyC x)] (Wr p s) (Ret (Wr p (s ++ encTy po x)) (.tup [])) := fun x s hs => t45 hp x s hs
  generalize encTy po = E at h45 hb ⊢
  refine callsT_facts Try.func34 facts34 rfl fun hw _ => ?_
  have hwa : (Lit.int .i64 f.arity).wf = true := hw.2.1.2.2.2.2.1
  have hwl : Wf (.sl (f.locals.map tyC)) := hw.2.1.2.2.2.2.2.2.2.2.1
  have hn := wf_lenM hwl
  have hn' : (f.locals.map tyC).length ≤ 9223372036854775807 := by rw [List.length_map]; exact hn
  have hm1 := mn_wf hwa hn'
  have hm2 := mx0_wf hm1
  have hbd := mx0_bd (n := (f.locals.map tyC).length) (a := f.arity)
  have hsl : ((f.locals.map tyC).drop (Int.toNat 0)).take ((mx0 (mn (f.locals.map tyC).length f.arity)).toNat - Int.toNat 0) = (argsOf f).map tyC := by
    show ((f.locals.map tyC).drop 0).take ((mx0 (mn (f.locals.map tyC).length f.arity)).toNat - 0) = _
    rw [mx0_eq, argsOf, List.map_take, List.length_map]
    rfl
  have hsz : ∀ es ∈ f.locals.map tyC, es.length = 3 := by
    intro es he
    obtain ⟨t, _, rfl⟩ := List.mem_map.1 he
    exact tyC_len t
  have hres : (C.agg [IC f.result.kind, IC f.result.id, .sl (f.result.args.map tyC)]) = .agg (tyC f.result) := by rw [tyC_eq]
  have hp' := hp
  cases hp
  all_goals
    refine callO [1000, 1001] [1000, 1001] (t50 hp' bs [f.name] (by simp only [List.length_append] at hb ⊢; omega)) rfl rfl rfl rfl rfl fun _ _ => ?_
    refine callO [1000, 1001] [1000, 1001] (t55 hp' _ [f.params] (by simp only [List.length_append] at hb ⊢; omega)) rfl rfl rfl rfl rfl fun _ _ => ?_
    refine callO [1000, 1001] [1000, 1001] (t64 hp' _ f.bounds (by simp only [List.length_append] at hb ⊢; omega)) rfl rfl rfl rfl rfl fun _ _ => ?_
    refine callO [1000, 1001] [1000, 1001] (t55 hp' _ [f.arity] (by simp only [List.length_append] at hb ⊢; omega)) rfl rfl rfl rfl rfl fun _ _ => ?_
    refine ⟨hm1, ?_⟩
    refine ⟨hm2, ?_⟩
    refine SlcT.mk (Int.le_refl 0) hbd.1 hbd.2 hsz ?_
    refine callO [1000, 1001] [1000, 1001] (t58 hp' _ (argsOf f) E (fun x _ s hs => h45 x s hs) (by simp only [List.length_append] at hb ⊢; omega)) rfl rfl (congrArg (fun z => [C.own 1000 0, .sl z, .fn 45 [.own 1000 0] []]) hsl) rfl rfl fun _ _ => ?_
    refine callO [1000, 1001] [1000, 1001] (h45 f.result _ (by simp only [List.length_append] at hb ⊢; omega)) rfl rfl (congrArg (fun z => [C.own 1000 0, z]) hres) rfl rfl fun _ _ => ?_
    refine callO [1000, 1001] [1000, 1001] (t71 hp' _ f.ties hb) rfl rfl rfl rfl rfl fun _ _ => ?_
    exact retO [1000, 1001] rfl rfl rfl rfl
def encIns (po : Option Prog) (x : Ins) : List UInt8 := encIs [x.op, x.dst, x.a, x.b, x.n] ++ (encL encI x.args ++ encL (encTy po) x.types)
theorem t75 {po : Option Prog} {p : C} (hp : PC po p) (x : Ins) (bs : List UInt8) (hb : (bs ++ encIns po x).length ≤ 2 ^ 46) : CallsT P 75 [.agg (insC x), .own 1002 0] (WrC p bs) (Ret (WrC p (bs ++ encIns po x)) (.tup [])) := by
  have e : bs ++ encIns po x = bs ++ encIs [x.op, x.dst, x.a, x.b, x.n] ++ encL encI x.args ++ encL (encTy po) x.types := by simp [encIns]
  rw [e] at hb ⊢
  have h45 : ∀ (x : Ty) (s : List UInt8), (s ++ encTy po x).length ≤ 2 ^ 46 → CallsT P 45 [.own 1000 0, .agg (tyC x)] (Wr p s) (Ret (Wr p (s ++ encTy po x)) (.tup [])) := fun x s hs => t45 hp x s hs
  generalize encTy po = E at h45 hb ⊢
  refine callsT_facts Try.func75 facts75 rfl fun hw _ => ?_
  have hp' := hp
  cases hp
  all_goals
    refine callO [1000, 1001] [1000, 1001] (t55 hp' bs [x.op, x.dst, x.a, x.b, x.n] (by simp only [List.length_append] at hb ⊢; omega)) rfl rfl rfl rfl rfl fun _ _ => ?_
    refine callO [1000, 1001] [1000, 1001] (t71 hp' _ x.args (by simp only [List.length_append] at hb ⊢; omega)) rfl rfl rfl rfl rfl fun _ _ => ?_
    refine callO [1000, 1001] [1000, 1001] (t58 hp' _ x.types E (fun x _ s hs => h45 x s hs) hb) rfl rfl rfl rfl rfl fun _ _ => ?_
    exact retO [1000, 1001, 1002] rfl rfl rfl rfl
def encBlock (po : Option Prog) (b : Block) : List UInt8 := encL (encIns po) b.code ++ (encIs [b.fin.kind, b.fin.a] ++ encL encI b.fin.targets)
theorem t73 {po : Option Prog} {p : C} (hp : PC po p) (x : Block) (bs : List UInt8) (hb : (bs ++ encBlock po x).length ≤ 2 ^ 46) : CallsT P 73 [.agg (blockC x), .own 1002 0] (WrC p bs) (Ret (WrC p (bs ++ encBlock po x)) (.tup [])) := by
  have e : bs ++ encBlock po x = bs ++ encL (encIns po) x.code ++ encIs [x.fin.kind, x.fin.a] ++ encL encI x.fin.targets := by simp [encBlock]
  rw [e] at hb ⊢
  have h75 : ∀ (x : Ins) (s : List UInt8), (s ++ encIns po x).length ≤ 2 ^ 46 → CallsT P 75 [.agg (insC x), .own 1002 0] (WrC p s) (Ret (WrC p (s ++ encIns po x)) (.tup [])) := fun x s hs => t75 hp x s hs
  generalize encIns po = E at h75 hb ⊢
  refine callsT_facts Try.func73 facts73 rfl fun hw _ => ?_
  have hp' := hp
  cases hp
  all_goals
    refine callO [1000, 1001, 1002] [1000, 1001, 1002] (t74 hp' bs x.code E (fun x _ s hs => h75 x s hs) (by simp only [List.length_append] at hb ⊢; omega)) rfl rfl rfl rfl rfl fun _ _ => ?_
    refine callO [1000, 1001] [1000, 1001] (t55 hp' _ [x.fin.kind, x.fin.a] (by simp only [List.length_append] at hb ⊢; omega)) rfl rfl rfl rfl rfl fun _ _ => ?_
    refine callO [1000, 1001] [1000, 1001] (t71 hp' _ x.fin.targets hb) rfl rfl rfl rfl rfl fun _ _ => ?_
    exact retO [1000, 1001, 1002] rfl rfl rfl rfl
def encFun (po : Option Prog) (f : Fun) : List UInt8 := encSig po f ++ (encL (encTy po) f.locals ++ encL (encBlock po) f.blocks)
theorem t36 {po : Option Prog} {p : C} (hp : PC po p) (f : Fun) (bs : List UInt8) (hb : (bs ++ encFun po f).length ≤ 2 ^ 46) : CallsT P 36 [.own 1000 0, .agg (funC f)] (Wr p bs) (Ret (Wr p (bs ++ encFun po f)) (.tup [])) := by
  have e : bs ++ encFun po f = bs ++ encSig po f ++ encL (encTy po) f.locals ++ encL (encBlock po) f.blocks := by simp [encFun]
  rw [e] at hb ⊢
  have h45 : ∀ (x : Ty) (s : List UInt8), (s ++ encTy po x).length ≤ 2 ^ 46 → CallsT P 45 [.own 1000 0, .agg (tyC x)] (Wr p s) (Ret (Wr p (s ++ encTy po x)) (.tup [])) := fun x s hs => t45 hp x s hs
  have h73 : ∀ (x : Block) (s : List UInt8), (s ++ encBlock po x).length ≤ 2 ^ 46 → CallsT P 73 [.agg (blockC x), .own 1002 0] (WrC p s) (Ret (WrC p (s ++ encBlock po x)) (.tup [])) := fun x s hs => t73 hp x s hs
  generalize encTy po = E at h45 hb ⊢
  generalize encBlock po = B at h73 hb ⊢
  refine callsT_facts Try.func36 facts36 rfl fun hw _ => ?_
  have hp' := hp
  cases hp
  all_goals
    refine callO [1000, 1001] [1000, 1001] (t34 hp' f bs (by simp only [List.length_append] at hb ⊢; omega)) rfl rfl rfl rfl rfl fun _ _ => ?_
    refine callO [1000, 1001] [1000, 1001] (t58 hp' _ f.locals E (fun x _ s hs => h45 x s hs) (by simp only [List.length_append] at hb ⊢; omega)) rfl rfl rfl rfl rfl fun _ _ => ?_
    refine callO [1000, 1001, 2] [1000, 1001, 2] (t72 hp' _ f.blocks B (fun x _ s hs => h73 x s hs) hb) rfl rfl rfl rfl rfl fun _ _ => ?_
    exact retO [1000, 1001] rfl rfl rfl rfl
end Go.Fr.Try
