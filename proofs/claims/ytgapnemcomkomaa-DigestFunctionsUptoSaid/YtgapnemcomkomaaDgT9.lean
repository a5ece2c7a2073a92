/- Digest: the fixed examples. -/
import Derived.Test.YtgapnemcomkomaaDgT8
set_option linter.unusedVariables false
set_option linter.unusedSimpArgs false
namespace Go.Fr.Try
open Go Go.RowKit Go.Proofs Go.Fr Go.Fr.T Go.Fr.Api

def f0 : Fun := ⟨⟨#[102]⟩, 0, 0, [], 1, tyInt, [tyInt], [], []⟩
def f1 : Fun := ⟨⟨#[102]⟩, 0, 0, [], 1, tyInt, [tyInt, tyInt], [], []⟩
def p0 : Prog := ⟨[⟨#[97]⟩], [], [], [], [], [], [f1], 0⟩
def tyV : Ty := .mk 9 (-1) []
theorem encN_lt {n : Nat} (h : n < 128) : encN n = [UInt8.ofNat n] := by rw [encN, dif_pos h]
theorem size1 (b : UInt8) : (ByteArray.size ⟨#[b]⟩ : Nat) = 1 := rfl
theorem v_tyInt (po : Option Prog) : encTy po tyInt = [2, 0, 0] := by
  cases po <;> simp [encTy, encTys, encName, tyInt, encI, zig, encN_lt] <;> decide
theorem v_tyV : encTy none tyV = [18, 1, 0] := by
  simp [encTy, encTys, encName, tyV, encI, zig, encN_lt] <;> decide
theorem a0 : argsOf f0 = [tyInt] := rfl
theorem a1 : argsOf f1 = [tyInt] := rfl
theorem v_sig0 : encSig none f0 = [2, 102, 0, 0, 2, 2, 2, 0, 0, 2, 0, 0, 0] := by
  simp only [encSig, a0]
  simp [encSs, encS, encIs, encL, encI, zig, encN_lt, f0, v_tyInt, size1] <;> decide
theorem v_sig1 (po : Option Prog) : encSig po f1 = [2, 102, 0, 0, 2, 2, 2, 0, 0, 2, 0, 0, 0] := by
  simp only [encSig, a1]
  simp [encSs, encS, encIs, encL, encI, zig, encN_lt, f1, v_tyInt, size1] <;> decide
theorem v_fun0 : encFun none f0 = [2, 102, 0, 0, 2, 2, 2, 0, 0, 2, 0, 0, 0, 2, 2, 0, 0, 0] := by
  simp only [encFun, v_sig0]
  simp [encL, encI, zig, encN_lt, f0, v_tyInt] <;> decide
theorem v_fun1 : encFun none f1 = [2, 102, 0, 0, 2, 2, 2, 0, 0, 2, 0, 0, 0, 4, 2, 0, 0, 2, 0, 0, 0] := by
  simp only [encFun, v_sig1]
  simp [encL, encI, zig, encN_lt, f1, v_tyInt] <;> decide
theorem v_mod : encModule p0 ⟨#[97]⟩ 0 = [2, 97, 0, 0, 2, 2, 102, 0, 0, 2, 2, 2, 0, 0, 2, 0, 0, 0] := by
  have h : (p0.funcs.filter fun x => decide (x.module = 0)) = [f1] := rfl
  simp only [encModule, h]
  simp [encL, v_sig1, encSs, encS, encI, zig, encN_lt, p0, size1] <;> decide
theorem d0 : digM p0 0 = 1624842418 := by
  show foldN (bytesN (encModule p0 ⟨#[97]⟩ 0)) = _
  rw [v_mod]; rfl
theorem d1 : digM p0 1 = 0 := rfl

theorem h13_0 : CallsT P 13 [.agg (funC f0)] [] (Ret [] (.tup [.int .i64 1381056169, .int .i64 18088938])) := by
  have h := t13 f0 (by rw [v_fun0]; decide)
  rw [v_sig0, v_fun0] at h
  exact h
theorem h13_1 : CallsT P 13 [.agg (funC f1)] [] (Ret [] (.tup [.int .i64 1381056169, .int .i64 721228548])) := by
  have h := t13 f1 (by rw [v_fun1]; decide)
  rw [v_sig1, v_fun1] at h
  exact h
theorem h15_0 : CallsT P 15 [.sl (bcells [])] [] (Ret [] (.int .i64 7)) := t15 []
theorem h15_1 : CallsT P 15 [.sl (bcells [0])] [] (Ret [] (.int .i64 7000022)) := t15 [0]
theorem h17_0 : CallsT P 17 [.sl (ics [0])] [] (Ret [] (.int .i64 7000022)) := t17 [0]
theorem h17_1 : CallsT P 17 [.sl (ics [-1])] [] (Ret [] (.int .i64 7000021)) := t17 [-1]
theorem h20_0 : CallsT P 20 [.agg (tyC tyInt)] [] (Ret [] (.sl (bcells [2, 0, 0]))) := by
  have h := t20 tyInt (by rw [v_tyInt]; decide)
  rw [v_tyInt] at h
  exact h
theorem h20_1 : CallsT P 20 [.agg (tyC tyV)] [] (Ret [] (.sl (bcells [18, 1, 0]))) := by
  have h := t20 tyV (by rw [v_tyV]; decide)
  rw [v_tyV] at h
  exact h
theorem h19_0 : CallsT P 19 [.sl (bcells [2, 0, 0]), .sl (bcells [2, 0, 0])] [] (Ret [] (.bool true)) := t19 [2, 0, 0] [2, 0, 0]
theorem h19_1 : CallsT P 19 [.sl (bcells [18, 1, 0]), .sl (bcells [18, 1, 0])] [] (Ret [] (.bool true)) := t19 [18, 1, 0] [18, 1, 0]
theorem h22_0 : CallsT P 22 [.agg (progC p0), IC 0] [] (Ret [] (.int .i64 1624842418)) := by
  have h := t22 p0 0 (fun name hn => by
    have : name = ⟨#[97]⟩ := by
      have h2 : elem p0.modules 0 = some ⟨#[97]⟩ := rfl
      rw [h2] at hn
      injection hn with hn
      exact hn.symm
    subst this
    rw [v_mod]; decide) (by decide) (by decide) (by decide)
  rw [d0] at h
  exact h
theorem h22_1 : CallsT P 22 [.agg (progC p0), IC 1] [] (Ret [] (.int .i64 0)) := by
  have h := t22 p0 1 (fun name hn => by
    have h2 : elem p0.modules 1 = none := rfl
    rw [h2] at hn
    cases hn) (by decide) (by decide) (by decide)
  rw [d1] at h
  exact h
theorem brn_y {p : Prop} [Decidable p] {A B : Prop} (h : p) (k : A) : brn (decide p) A B := by simp only [h, decide_true]; exact k
theorem brn_n {p : Prop} [Decidable p] {A B : Prop} (h : ¬ p) (k : A) : brn (!decide p) A B := by simp only [h, decide_false]; exact k
set_option maxRecDepth 20000 in
theorem t9 : CallsT P 9 [] [] (Ret [] (.bool true)) := by
  refine callsT_facts Try.func9 facts9 rfl fun hw _ => ?_
  refine callP t30 rfl fun _ => ?_
  refine callP t30 rfl fun _ => ?_
  refine callP h13_0 rfl fun _ => ?_
  refine callPD t30 rfl fun _ => ?_
  refine ⟨Nat.zero_lt_one, ?_, AppT.mk ?_ ?_ ?_ ?_⟩
  · intro es h
    rcases List.mem_cons.1 h with rfl | h
    · rfl
    · cases h
  · intro es h
    rcases List.mem_cons.1 h with rfl | h
    · rfl
    · cases h
  · show 1 + 1 ≤ maxLen
    decide
  · show (1 + 1) * 40 ≤ _
    decide
  refine callF [20] [] [] h13_1 ⟨[], rfl, rfl, rfl, rfl, rfl, fun _ _ => ?_⟩
  refine callPD h15_0 rfl fun _ => ?_
  refine callPD h15_1 rfl fun _ => ?_
  refine callPD h17_0 rfl fun _ => ?_
  refine callPD h17_1 rfl fun _ => ?_
  refine callPD t30 rfl fun _ => ?_
  refine callPD h20_0 rfl fun _ => ?_
  refine callPD h19_0 rfl fun _ => ?_
  refine callPD h20_1 rfl fun _ => ?_
  refine callPD h19_1 rfl fun _ => ?_
  refine callPD h22_0 rfl fun _ => ?_
  refine callPD h22_1 rfl fun _ => ?_
  refine callPD h22_1 rfl fun _ => ?_
  exact retP rfl rfl
end Go.Fr.Try
