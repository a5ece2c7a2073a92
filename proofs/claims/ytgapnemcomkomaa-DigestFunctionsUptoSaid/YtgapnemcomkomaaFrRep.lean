/- Data in frozen memory: what a row of cells stands for. -/
import Derived.Test.YtgapnemcomkomaaFrFn
set_option linter.unusedVariables false
set_option linter.unusedSimpArgs false
namespace Go.Fr
open Go Go.RowKit

/-- data without addresses -/
inductive G where
  | int (k : IntKind) (n : Int)
  | bool (b : Bool)
  | str (s : ByteArray)
  | sl (sz : Nat) (l : List G)
  | st (l : List G)

mutual
def Rd (F : Frz) : G → List Value → Prop
  | .int k n, cs => cs = [.int k n] ∧ (Lit.int k n).wf = true
  | .bool b, cs => cs = [.bool b]
  | .str s, cs => cs = [.string s]
  | .sl sz l, cs => ∃ a c, cs = [.slice a l.length c] ∧ l.length ≤ c ∧ c ≤ maxLen ∧ (a = none → l = [] ∧ c = 0) ∧ RdSl F a sz 0 l
  | .st l, cs => RdAll F l cs
def RdSl (F : Frz) (a : Option Addr) (sz : Nat) : Nat → List G → Prop
  | _, [] => True
  | i, x :: l => (∃ es, es.length = sz ∧ FCells F a (i * sz) es ∧ Rd F x es) ∧ RdSl F a sz (i + 1) l
def RdAll (F : Frz) : List G → List Value → Prop
  | [], cs => cs = []
  | x :: l, cs => ∃ c1 c2, cs = c1 ++ c2 ∧ Rd F x c1 ∧ RdAll F l c2
end

mutual
theorem Rd.mono {F F' : Frz} (hle : F.le F') : ∀ {g : G} {cs : List Value}, Rd F g cs → Rd F' g cs
  | .int k n, cs, h => h
  | .bool b, cs, h => h
  | .str s, cs, h => h
  | .sl sz l, cs, h => by
    simp only [Rd] at h ⊢
    obtain ⟨a, c, h1, h2, h3, h4, h5⟩ := h
    exact ⟨a, c, h1, h2, h3, h4, RdSl.mono hle h5⟩
  | .st l, cs, h => by
    simp only [Rd] at h ⊢
    exact RdAll.mono hle h
theorem RdSl.mono {F F' : Frz} (hle : F.le F') {a : Option Addr} {sz : Nat} : ∀ {i : Nat} {l : List G}, RdSl F a sz i l → RdSl F' a sz i l
  | _, [], h => by simp only [RdSl]
  | i, x :: l, h => by
    simp only [RdSl] at h ⊢
    obtain ⟨⟨es, h1, h2, h3⟩, h4⟩ := h
    exact ⟨⟨es, h1, h2.mono hle, Rd.mono hle h3⟩, RdSl.mono hle h4⟩
theorem RdAll.mono {F F' : Frz} (hle : F.le F') : ∀ {l : List G} {cs : List Value}, RdAll F l cs → RdAll F' l cs
  | [], cs, h => by simp only [RdAll] at h ⊢; exact h
  | x :: l, cs, h => by
    simp only [RdAll] at h ⊢
    obtain ⟨c1, c2, h1, h2, h3⟩ := h
    exact ⟨c1, c2, h1, Rd.mono hle h2, RdAll.mono hle h3⟩
end

/-- the elements of a list, one by one -/
theorem RdSl_iff {F : Frz} {a : Option Addr} {sz : Nat} : ∀ {l : List G} {i : Nat}, RdSl F a sz i l ↔ ∀ j x, l[j]? = some x → ∃ es, es.length = sz ∧ FCells F a ((i + j) * sz) es ∧ Rd F x es
  | [], i => by simp [RdSl]
  | x :: l, i => by
    simp only [RdSl, RdSl_iff (l := l)]
    constructor
    · rintro ⟨h1, h2⟩ j y hy
      cases j with
      | zero => simp only [List.getElem?_cons_zero, Option.some.injEq] at hy; subst hy; simpa using h1
      | succ j =>
        simp only [List.getElem?_cons_succ] at hy
        have := h2 j y hy
        rwa [show i + 1 + j = i + (j + 1) by omega] at this
    · intro h
      refine ⟨by simpa using h 0 x (by simp), fun j y hy => ?_⟩
      have := h (j + 1) y (by simpa using hy)
      rwa [show i + (j + 1) = i + 1 + j by omega] at this

/-- a slice in frozen memory whose elements stand for a list -/
structure Sl (F : Frz) (sz : Nat) (l : List G) (a : Option Addr) (c : Nat) : Prop where
  cap : l.length ≤ c
  max : c ≤ maxLen
  nil : a = none → l = [] ∧ c = 0
  elems : ∀ j x, l[j]? = some x → ∃ es, es.length = sz ∧ FCells F a (j * sz) es ∧ Rd F x es
theorem Sl.mono {F F' : Frz} {sz : Nat} {l : List G} {a : Option Addr} {c : Nat} (h : Sl F sz l a c) (hle : F.le F') : Sl F' sz l a c :=
  ⟨h.cap, h.max, h.nil, fun j x hx => let ⟨es, h1, h2, h3⟩ := h.elems j x hx; ⟨es, h1, h2.mono hle, h3.mono hle⟩⟩
theorem Rd_sl {F : Frz} {sz : Nat} {l : List G} {cs : List Value} : Rd F (.sl sz l) cs ↔ ∃ a c, cs = [.slice a l.length c] ∧ Sl F sz l a c := by
  simp only [Rd]
  constructor
  · rintro ⟨a, c, h1, h2, h3, h4, h5⟩
    exact ⟨a, c, h1, h2, h3, h4, fun j x hx => by have := RdSl_iff.1 h5 j x hx; simpa using this⟩
  · rintro ⟨a, c, h1, h2⟩
    exact ⟨a, c, h1, h2.cap, h2.max, h2.nil, RdSl_iff.2 fun j x hx => by have := h2.elems j x hx; simpa using this⟩
theorem Sl.ne {F : Frz} {sz : Nat} {l : List G} {a : Option Addr} {c : Nat} (h : Sl F sz l a c) (hl : l ≠ []) : a ≠ none := fun e => hl (h.nil e).1
/-- an element is loaded -/
theorem Sl.load {F F' : Frz} {L : Loc} {sz : Nat} {l : List G} {a : Option Addr} {c : Nat} {j : Nat} {x : G} {K : List Value → Prop} (h : Sl F sz l a c) (hle : F.le F') (hx : l[j]? = some x)
    (hK : ∀ es, es.length = sz → Rd F' x es → K es) : LoadPt F' L a (j * sz) sz K := by
  obtain ⟨es, h1, h2, h3⟩ := h.elems j x hx
  exact ⟨es, h1, .inl (h2.mono hle), hK es h1 (h3.mono hle)⟩
theorem Sl.loadD {F F' : Frz} {sz : Nat} {l : List G} {a : Option Addr} {c : Nat} {j : Nat} {x : G} {K : List Value → Prop} (h : Sl F sz l a c) (hle : F.le F') (hx : l[j]? = some x)
    (hK : ∀ es, es.length = sz → Rd F' x es → K es) : LoadDPt F' a (j * sz) sz K := by
  obtain ⟨es, h1, h2, h3⟩ := h.elems j x hx
  exact ⟨es, h1, .inl (h2.mono hle), hK es h1 (h3.mono hle)⟩

/- helpers of walks -/
theorem brn_split {b : Bool} {A B : Prop} (h : b = true → A) (k : b = false → B) : brn b A B := by cases b; exact k rfl; exact h rfl
theorem brn_p {p : Prop} [Decidable p] {A B : Prop} (h : p → A) (k : ¬ p → B) : brn (decide p) A B := by
  by_cases hp : p
  · simp only [hp, decide_true]; exact h hp
  · simp only [hp, decide_false]; exact k hp
theorem Fit.in64 {n : Int} {K : Int → Prop} (h1 : -9223372036854775808 ≤ n) (h2 : n ≤ 9223372036854775807) (h : K n) : Fit .i64 n K := by
  refine ⟨?_⟩
  have : IntKind.wrap .i64 n = n := by
    simp only [IntKind.wrap, IntKind.bits, IntKind.signed, Bool.true_and, decide_eq_true_eq, ge_iff_le, Nat.reduceSub, Int.reducePow]
    split <;> omega
  rw [this]; exact h
/-- the contract of what only computes -/
def Retv (x : Value) : Frz → List Own → Value → Prop := fun _ Lo v => Lo = [] ∧ v = x
theorem Retv.mono {x : Value} : ∀ F G L v, Frz.le F G → Retv x F L v → Retv x G L v := fun _ _ _ _ _ h => h
theorem call0 {P : Program} {f : Nat} {l : List Value} {F : Frz} {L : Loc} {x : Value} {K : Frz → Loc → Value → Prop} (h : CallsA P f l.toArray F [] (Retv x)) (k : ∀ F', F.le F' → K F' L x) : CallPt P f l F L K := by
  refine CallPt.mk ⟨[], [], [], _, rfl, List.nodup_nil, List.nodup_nil, fun _ h => (by cases h), h, ?_⟩
  rintro v F' Lo hF ⟨rfl, rfl⟩
  exact ⟨rfl, fun _ _ _ _ h => (by cases h), k F' hF⟩
theorem call0D {P : Program} {f : Nat} {l : List Value} {F : Frz} {L : Loc} {x : Value} {d : Option Nat} {K : Frz → Loc → Value → Prop} (h : CallsA P f l.toArray F [] (Retv x)) (k : ∀ F', F.le F' → K F' L x) : CallDPt P f l F L d K := by
  refine .frz _ h ?_
  rintro v F' Lo hF ⟨rfl, rfl⟩
  exact ⟨rfl, fun _ => k F' hF⟩
/-- a call that hands back a value that something is said of -/
def Retp (p : Frz → Value → Prop) : Frz → List Own → Value → Prop := fun F Lo v => Lo = [] ∧ p F v
theorem call1 {P : Program} {f : Nat} {l : List Value} {F : Frz} {L : Loc} {p : Frz → Value → Prop} {K : Frz → Loc → Value → Prop} (h : CallsA P f l.toArray F [] (Retp p)) (k : ∀ F' v, F.le F' → p F' v → K F' L v) : CallPt P f l F L K := by
  refine CallPt.mk ⟨[], [], [], _, rfl, List.nodup_nil, List.nodup_nil, fun _ h => (by cases h), h, ?_⟩
  rintro v F' Lo hF ⟨rfl, hp⟩
  exact ⟨rfl, fun _ _ _ _ h => (by cases h), k F' v hF hp⟩
theorem call1D {P : Program} {f : Nat} {l : List Value} {F : Frz} {L : Loc} {p : Frz → Value → Prop} {d : Option Nat} {K : Frz → Loc → Value → Prop} (h : CallsA P f l.toArray F [] (Retp p)) (k : ∀ F' v, F.le F' → p F' v → K F' L v) : CallDPt P f l F L d K := by
  refine .frz _ h ?_
  rintro v F' Lo hF ⟨rfl, hp⟩
  exact ⟨rfl, fun _ => k F' v hF hp⟩
theorem ret0 {F : Frz} {L : Loc} {x v : Value} (h : v = x) : RetPt F L v (Retv x) := ⟨[], [], rfl, List.nodup_nil, rfl, h⟩
theorem ret1 {F : Frz} {L : Loc} {p : Frz → Value → Prop} {v : Value} (h : p F v) : RetPt F L v (Retp p) := ⟨[], [], rfl, List.nodup_nil, rfl, h⟩
theorem wf_i64 {n : Int} (h : (Lit.int .i64 n).wf = true) : -9223372036854775808 ≤ n ∧ n ≤ 9223372036854775807 := by
  simpa [Lit.wf, IntKind.min, IntKind.max, IntKind.bits, IntKind.signed] using h
end Go.Fr
