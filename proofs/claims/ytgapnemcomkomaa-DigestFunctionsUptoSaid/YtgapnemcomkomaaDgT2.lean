/- Digest: the writer's numbers and texts. -/
import Derived.Test.YtgapnemcomkomaaTlApi
import Derived.Test.YtgapnemcomkomaaDgT1
set_option linter.unusedVariables false
set_option linter.unusedSimpArgs false
namespace Go.Fr.Try
open Go Go.RowKit Go.Proofs Go.Fr Go.Fr.T Go.Fr.Api

theorem t15 (bs : List UInt8) : CallsT P 15 [.sl (bcells bs)] [] (Ret [] (.int .i64 (foldN (bytesN bs)))) := by
  refine callsT_facts Try.func15 facts15 rfl fun hw _ => ?_
  exact callP (t39 bs) rfl fun _ => retP rfl rfl

theorem Fit.to {k : IntKind} {n m : Int} {K : Int → Prop} (h : k.wrap n = m) (hK : K m) : Fit k n K := ⟨by rw [h]; exact hK⟩
theorem wrap_u64 (n : Int) : IntKind.wrap .u64 n = n % 18446744073709551616 := by
  simp [IntKind.wrap, IntKind.bits, IntKind.signed]
theorem wrap_u8 (n : Int) : IntKind.wrap .u8 n = n % 256 := by
  simp [IntKind.wrap, IntKind.bits, IntKind.signed]
theorem xor_u64 {n : Int} (h0 : 0 ≤ n) (h1 : n < 18446744073709551616) :
    IntKind.wrap .u64 (BitVec.ofInt (IntKind.bits .u64) (if IntKind.signed .u64 then -1 else IntKind.max .u64) ^^^ BitVec.ofInt (IntKind.bits .u64) n).toNat = 18446744073709551615 - n := by
  have e : (if IntKind.signed .u64 then -1 else IntKind.max .u64 : Int) = 18446744073709551615 := by simp [IntKind.max, IntKind.signed, IntKind.bits]
  rw [e, wrap_u64]
  show ((BitVec.ofInt 64 18446744073709551615 ^^^ BitVec.ofInt 64 n).toNat : Int) % _ = _
  rw [show BitVec.ofInt 64 18446744073709551615 = BitVec.allOnes 64 by decide]
  rw [BitVec.allOnes_xor, BitVec.toNat_not, BitVec.toNat_ofInt]
  have : (n % ((2 ^ 64 : Nat) : Int)).toNat = n.toNat := by
    congr 1
    exact Int.emod_eq_of_lt h0 (by simpa using h1)
  rw [this]
  omega

def encN (n : Nat) : List UInt8 := if h : n < 128 then [UInt8.ofNat n] else UInt8.ofNat (128 + n % 128) :: encN (n / 128)
def zig (n : Int) : Nat := if n < 0 then (-2 * n - 1).toNat else (2 * n).toNat
def encI (n : Int) : List UInt8 := encN (zig n)
def encIs (l : List Int) : List UInt8 := l.flatMap encI
def encS (s : ByteArray) : List UInt8 := encI s.size ++ s.data.toList
def encSs (l : List ByteArray) : List UInt8 := l.flatMap encS
theorem two_pow1 : (2 : Int) ^ (min (Int.toNat 1) (IntKind.bits .u64)) = 2 := rfl
theorem u8_hi (m : Nat) : IntKind.wrap .u8 ((128 + (m : Int).tmod 128) % 18446744073709551616) = ((UInt8.ofNat (128 + m % 128)).toNat : Int) := by
  rw [wrap_u8]
  show ((128 + ((m % 128 : Nat) : Int)) % 18446744073709551616) % 256 = _
  rw [UInt8.toNat_ofNat']
  omega
theorem u8_lo (m : Nat) : IntKind.wrap .u8 (m : Int) = ((UInt8.ofNat m).toNat : Int) := by
  rw [wrap_u8, UInt8.toNat_ofNat']
  omega

/-- the program of a writer: none, or one that lies in frozen memory -/
inductive PC : Option Prog → C → Prop
  | nil : PC none .nilp
  | prog (q : Prog) : PC (some q) (.pt (progC q) 0)
/-- the writer's two own blocks -/
def Wr (p : C) (bs : List UInt8) : List TO := [.box 114 [.rw 1001, p], .row 5 1 (bcells bs)]
def WrL (p : C) (bs : List UInt8) : TL := [(1000, .box 114 [.rw 1001, p]), (1001, .row 5 1 (bcells bs))]
theorem bcells_app (a b : List UInt8) : bcells (a ++ b) = bcells a ++ bcells b := by simp [bcells]
theorem encN_len (n : Nat) : 1 ≤ (encN n).length := by rw [encN]; split <;> simp
theorem bcells_len (a : List UInt8) : (bcells a).length = a.length := by simp [bcells]
theorem bcells_sz {a : List UInt8} : ∀ es ∈ bcells a, es.length = 1 := by
  intro es h
  simp only [bcells, List.mem_map] at h
  obtain ⟨b, _, rfl⟩ := h
  rfl
theorem app1 {bs : List UInt8} {b : UInt8} {K : Prop} (h : bs.length + 1 ≤ 140737488355328) (k : K) : AppT (bcells bs) [[bcell b]] 1 1 K :=
  ⟨by simp, by rw [bcells_len]; simp [maxLen]; omega, by rw [bcells_len]; simp; omega, k⟩
theorem bcells_snoc (a : List UInt8) (b : UInt8) : bcells (a ++ [b]) = bcells a ++ [[bcell b]] := by simp [bcells]

theorem t55 {po : Option Prog} {p : C} (hp : PC po p) (bs : List UInt8) (l : List Int) (hb : (bs ++ encIs l).length ≤ 2 ^ 46) : CallsT P 55 [.own 1000 0, .sl (ics l)] (Wr p bs) (Ret (Wr p (bs ++ encIs l)) (.tup [])) := by
  refine callsT_facts Try.func55 facts55 rfl fun hw _ => ?_
  have hn : l.length ≤ 9223372036854775807 := by have := wf_len hw.2.1; simpa [ics] using this
  have hwl : ∀ x ∈ l, -9223372036854775808 ≤ x ∧ x ≤ 9223372036854775807 := by
    intro x hx
    have h1 := hw.2.1
    simp only [Wf] at h1
    exact wf_I (WfS_iff.1 (WfSS_iff.1 h1.2 [IC x] (by simp only [ics, List.mem_map]; exact ⟨x, hx, rfl⟩)) _ (by simp))
  cases hp
  all_goals
    refine loopN l.length 9 [] bs (fun _ => []) (fun s => WrL _ s) (fun k s => s ++ encIs (l.drop k) = bs ++ encIs l) rfl (same_keys rfl) trivial ⟨.inl ⟨_, rfl, .inl ⟨rfl, rfl⟩⟩, .inl ⟨_, rfl, .inl ⟨rfl, rfl⟩⟩, trivial⟩ (fun _ => rfl) (fun _ => rfl) ?_
    rintro k s hk hinv _ _ _
    refine brn_p (fun hlt => ?_) (fun hge => ?_)
    · have hlt : k < l.length := by simpa [ics] using hlt
      obtain ⟨x, hx, hd⟩ := drop_cons hlt
      rw [hd] at hinv
      have hwx := hwl x (List.mem_of_getElem? hx)
      have hlen : s.length + (encI x).length ≤ 2 ^ 46 := by
        rw [← hinv] at hb
        simp only [encIs, List.flatMap_cons, List.length_append] at hb
        omega
      refine idxI hx ?_
      refine Fit.to (wrap_u64 _) ?_
      refine ⟨by omega, ?_⟩
      refine Fit.to (wrap_u64 _) ?_
      refine brn_p (fun hneg => ?_) (fun hpos => ?_)
      all_goals
        refine LoopT.mk ⟨Nat × List UInt8, (zig x, s), fun y => y.1 < 18446744073709551616 ∧ y.2 ++ encN y.1 = s ++ encI x, [6], fun y => [.int .u64 y.1], fun y => WrL _ y.2, fun y => y.1, ⟨?_, rfl⟩, ⟨.inr (.inl ⟨?_, rfl⟩), trivial⟩,
          ⟨.inl ⟨_, rfl, .inl ⟨rfl, rfl⟩⟩, .inl ⟨_, rfl, .inl ⟨rfl, rfl⟩⟩, trivial⟩, fun _ => rfl, fun _ => rfl, ?_⟩
        · show zig x < _
          unfold zig; split <;> omega
        rotate_left
        · rintro ⟨m, done⟩ ⟨hm64, hmi⟩ _ _
          simp only at hmi hm64
          have hdl : done.length + (encN m).length ≤ 2 ^ 46 := by
            have := congrArg List.length hmi
            simp only [List.length_append] at this
            omega
          have h1 := encN_len m
          refine brn_p (fun hm => ?_) (fun hm => ?_)
          · have hm : 128 ≤ m := by have : (128 : Int) ≤ (m : Int) := hm; omega
            have hde : encN m = UInt8.ofNat (128 + m % 128) :: encN (m / 128) := by rw [encN, dif_neg (by omega)]
            refine NonZ.mk (by omega) ?_
            refine Fit.to (wrap_u64 _) ?_
            refine Fit.to (u8_hi m) ?_
            refine app1 (bs := done) (by omega) ?_
            refine NonZ.mk (by omega) ?_
            refine Fit.to (wrap_u64 _) ?_
            refine ⟨(m / 128, done ++ [UInt8.ofNat (128 + m % 128)]), ⟨?_, ?_⟩, ⟨.inr (.inl ⟨?_, rfl⟩), trivial⟩, ⟨.inl ⟨_, rfl, .inl ⟨rfl, rfl⟩⟩, .inl ⟨_, rfl, .inl ⟨?_, rfl⟩⟩, trivial⟩, ?_⟩
            · show m / 128 < _; omega
            · show done ++ [UInt8.ofNat (128 + m % 128)] ++ encN (m / 128) = s ++ encI x
              rw [← hmi, hde]; simp
            · refine congrArg (C.int .u64) ?_
              show ((m / 128 : Nat) : Int) % _ = ((m / 128 : Nat) : Int)
              omega
            · exact congrArg (TO.row 5 1) (bcells_snoc _ _).symm
            · show m / 128 < m; omega
          · have hm : m < 128 := by have : ¬ (128 : Int) ≤ (m : Int) := hm; omega
            have hde : encN m = [UInt8.ofNat m] := by rw [encN, dif_pos hm]
            refine Fit.to (u8_lo m) ?_
            refine app1 (bs := done) (by omega) ?_
            refine Fit.in64 (by omega) (by omega) ?_
            refine ⟨(k + 1, done ++ [UInt8.ofNat m]), ⟨hlt, ?_⟩, ⟨nextI, trivial⟩, ⟨.inl ⟨_, rfl, .inl ⟨rfl, rfl⟩⟩, .inl ⟨_, rfl, .inl ⟨?_, rfl⟩⟩, trivial⟩, nextM hlt⟩
            · show done ++ [UInt8.ofNat m] ++ encIs (l.drop (k + 1)) = bs ++ encIs l
              rw [← hinv, ← hde, hmi]; simp [encIs]
            · exact congrArg (TO.row 5 1) (bcells_snoc _ _).symm
        · refine congrArg (C.int .u64) ?_
          simp only [two_pow1]
          first
            | (rw [xor_u64 (by omega) (by omega)]; unfold zig; rw [if_pos hneg]; omega)
            | (unfold zig; rw [if_neg hpos]; omega)
    · have hge : ¬ k < l.length := by simpa [ics] using hge
      rw [drop_end hge] at hinv
      refine retO [1000, 1001] rfl rfl ?_ rfl
      simp only [encIs, List.flatMap_nil, List.append_nil] at hinv
      subst hinv
      rfl
end Go.Fr.Try
