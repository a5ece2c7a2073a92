/- From the model's operations to the simplified ones. -/
import Derived.Test.YtgapnemcomkomaaFrSt
import Derived.Lib.AppendStr
import Derived.Laws.BytesString
set_option linter.unusedVariables false
set_option linter.unusedSimpArgs false
namespace Go.Fr
open Go Go.RowKit

def lowX : Operand → Option X
  | .tmp t => some (.t t)
  | .const v => some (.c v)
  | .func f => some (.fn f)
  | .global _ => none
def lowXs : List Operand → Option (List X)
  | [] => some []
  | o :: l => match lowX o, lowXs l with
    | some x, some xs => some (x :: xs)
    | _, _ => none
def lowXo : Option Operand → Option (Option X)
  | none => some none
  | some o => match lowX o with | some x => some (some x) | none => none
def isAggD : TypeDesc → Bool
  | .struct _ | .array _ _ => true
  | _ => false
def zOf (i : TypeInfo) : Option (List Value) := match i.zero with | some z => some z.cells.toList | none => none
def lowParts (P : Program) (fs : Array Field) : List (Nat × Operand) → Option (List (Nat × Nat × X))
  | [] => some []
  | (i, o) :: l => match fs[i]?, lowX o, lowParts P fs l with
    | some f, some x, some ps => match P.info? f.type with
      | some j => some ((f.offset, j.size, x) :: ps)
      | none => none
    | _, _, _ => none

def lowOp (P : Program) (own : Bool) (o : Op) : Option SOp :=
  match o with
  | .move x | .assign x => match lowX x with | some x => some (.mov x) | none => none
  | .pick c a b => match lowX c, lowX a, lowX b with | some c, some a, some b => some (.pick c a b) | _, _, _ => none
  | .box t x => match lowX x with | some x => some (match own with | true => .boxF t x | false => .box t x) | none => none
  | .alloc t => match P.info? t with
    | some i => match zOf i with | some z => some (.alloc t z) | none => none
    | none => none
  | .buildSlice t n ps => match P.underlying t, lowXs (ps.toList.map (·.2)) with
    | some (.slice e), some xs => match P.info? e with
      | some i => match decide (ps.toList.map (·.1) = List.range n), decide (n * i.size ≤ 2 ^ 24 ∧ n ≤ 2 ^ 24), i.zero with
        | true, true, some _ => some (match own with | true => .mkR e n i.size xs | false => .mkF e n i.size xs)
        | _, _, _ => none
      | none => none
    | _, _ => none
  | .build t ps => match P.underlying t, P.info? t with
    | some (.struct fs), some i => match zOf i, lowParts P fs ps.toList with
      | some z, some l => match fs.toList.all (fun f => (P.info? f.type).isSome), l.all (fun p => Nat.ble (p.1 + p.2.1) z.length) with
        | true, true => some (.build z l)
        | _, _ => none
      | _, _ => none
    | _, _ => none
  | .load t a => match P.underlying t, P.info? t, lowX a with
    | some d, some i, some x => some (match isAggD d with | true => .load true i.size x | false => .load false 1 x)
    | _, _, _ => none
  | .store t a x => match P.info? t, lowX a, lowX x with
    | some i, some a, some x => match decide (i.size = 0) with | true => none | false => some (.store i.size a x)
    | _, _, _ => none
  | .nilCheck x => match lowX x with | some x => some (.nilck x) | none => none
  | .binOp op t x y _ => match P.underlying t, lowX x, lowX y with
    | some d, some x, some y => match d, op with
      | .bool, .eql => some (.eqB false x y)
      | .bool, .neq => some (.eqB true x y)
      | .pointer _, .eql => some (.eqP false x y)
      | .pointer _, .neq => some (.eqP true x y)
      | .slice _, .eql => some (.eqS false x y)
      | .slice _, .neq => some (.eqS true x y)
      | .func .., .eql => some (.eqF false x y)
      | .func .., .neq => some (.eqF true x y)
      | .int _, _ | .string, _ => some (.bin op x y)
      | _, _ => none
    | _, _, _ => none
  | .unOp op _ x => match lowX x with | some x => some (.un op x) | none => none
  | .convert s t x => match P.underlying s, P.underlying t, lowX x with
    | some (.int _), some (.int k), some x => some (.conv k x)
    | some (.slice e), some .string, some x => match P.underlying e with
      | some (.int .u8) => some (.b2s x)
      | _ => none
    | some .string, some (.slice e), some x => match P.underlying e with
      | some (.int .u8) => some (.s2b e x)
      | _ => none
    | _, _, _ => none
  | .makeFunc (.func f) fi ca => match lowXs fi.toList, lowXs ca.toList with
    | some fi, some ca => some (.mkfn f fi ca)
    | _, _ => none
  | .makeSlice t l c => match P.underlying t, lowX l, lowX c with
    | some (.slice e), some l, some c => match P.info? e with
      | some i => match i.zero with
        | some z => match decide (z.cells.size = i.size), decide (0 < i.size) with
          | true, true => some (.makeS e i.size i.bytes z.cells.toList l c)
          | _, _ => none
        | none => none
      | none => none
    | _, _, _ => none
  | .slice t x lo hi none => match P.underlying t, lowX x, lowXo lo, lowXo hi with
    | some (.slice e), some x, some lo, some hi => match P.info? e with
      | some i => some (.slc i.size x lo hi)
      | none => none
    | some .string, some x, some lo, some hi => some (.slcS x lo hi)
    | _, _, _, _ => none
  | .fieldAddr t x f => match P.underlying t, lowX x with
    | some (.struct fs), some x => match fs[f]? with
      | some f => match P.info? f.type with
        | some i => match decide (i.size = 0) with | true => none | false => some (.fieldA f.offset x)
        | none => none
      | none => none
    | _, _ => none
  | .field t x f => match P.underlying t, lowX x with
    | some (.struct fs), some x => match fs[f]? with
      | some f => match P.underlying f.type, P.info? f.type with
        | some d, some i => match isAggD d with
          | true => some (.fieldV true f.offset i.size x)
          | false => some (.fieldV false f.offset 1 x)
        | _, _ => none
      | none => none
    | _, _ => none
  | .indexAddr t x i => match P.underlying t, lowX x, lowX i with
    | some (.slice e), some x, some i => match P.info? e with
      | some j => some (.idxA j.size x i)
      | none => none
    | _, _, _ => none
  | .index t x i => match P.underlying t, lowX x, lowX i with
    | some .string, some x, some i => some (.idxS x i)
    | _, _, _ => none
  | .extract x i => match lowX x with | some x => some (.extr x i) | none => none
  | .call c => match lowXs c.args.toList with
    | none => none
    | some args => match c.callee with
      | .value (.func f) => match P.funcs[f]? with
        | some fn => match fn.name == "runtime.NumGoroutine", fn.body.isSome with
          | false, true => some (.call f args)
          | _, _ => none
        | none => none
      | .value f => match lowX f with | some x => some (.callV x args) | none => none
      | .builtin b => match b, args, c.argTypes.toList with
        | .len, [x], [t] => match P.underlying t with
          | some (.slice _) => some (.len x)
          | some .string => some (.lenS x)
          | _ => none
        | .cap, [x], [t] => match P.underlying t with
          | some (.slice _) => some (.capa x)
          | _ => none
        | .max, args, _ => some (.mm true args)
        | .min, args, _ => some (.mm false args)
        | .append, [s, x], [t, t'] => match P.underlying t, P.underlying t' with
          | some (.slice e), some (.slice _) => match P.info? e with
            | some i => match i.zero with
              | some z => match decide (t = t'), decide (z.cells.size = i.size), decide (0 < i.size) with
                | true, true, true => some (.app e i.size i.bytes z.cells.toList s x)
                | _, _, _ => none
              | none => none
            | none => none
          | some (.slice e), some .string => match P.info? e with
            | some i => match i.zero with
              | some (.int .u8 z) => match decide (z = 0), decide (i.size = 1), decide (i.bytes = 1) with
                | true, true, true => some (.appS e s x)
                | _, _, _ => none
              | _ => none
            | none => none
          | _, _ => none
        | .copy, [s, x], [t, t'] => match P.underlying t, P.underlying t' with
          | some (.slice e), some (.slice _) => match P.info? e with
            | some i => match decide (t = t'), decide (0 < i.size) with
              | true, true => none
              | _, _ => none
            | none => none
          | _, _ => none
        | _, _, _ => none
      | _ => none
  | _ => none

/-- a slot's content: what it stands for lies in the frame, and an own pointer names a box that is there -/
structure EnvOk (L : Loc) (ρ : Env) (a : Act) : Prop where
  eq : ∀ t, a.tmps.getD t undef = conc L (ρ t)
  own : ∀ t k off, ρ t = .own k off → ∃ g ty cs, L.get k = some (.box g ty cs)
  el : ∀ t ad j, ρ t = .el ad j → ad ≠ none

theorem lowX_eval {y : Operand} {x : X} (h : lowX y = some x) {L : Loc} {ρ : Env} {a : Act} (he : EnvOk L ρ a) : a.eval y = val L ρ x := by
  cases y <;> simp only [lowX, Option.some.injEq, reduceCtorEq] at h <;> subst h
  · exact he.eq _
  · rfl
  · rfl
theorem lowX_own {y : Operand} {x : X} (h : lowX y = some x) {L : Loc} {ρ : Env} {a : Act} (he : EnvOk L ρ a) {k off : Nat} (e : ev ρ x = .own k off) : ∃ g ty cs, L.get k = some (.box g ty cs) := by
  cases y <;> simp only [lowX, Option.some.injEq, reduceCtorEq] at h <;> subst h
  · exact he.own _ _ _ e
  · cases e
  · cases e
theorem lowX_el {y : Operand} {x : X} (h : lowX y = some x) {L : Loc} {ρ : Env} {a : Act} (he : EnvOk L ρ a) {ad : Option Addr} {j : Nat} (e : ev ρ x = .el ad j) : ad ≠ none := by
  cases y <;> simp only [lowX, Option.some.injEq, reduceCtorEq] at h <;> subst h
  · exact he.el _ _ _ e
  · cases e
  · cases e
theorem lowXs_eval : ∀ {ys : List Operand} {xs : List X}, lowXs ys = some xs → ∀ {L : Loc} {ρ : Env} {a : Act}, EnvOk L ρ a → ys.map a.eval = evals L ρ xs := by
  intro ys
  induction ys with
  | nil => intro xs h L ρ a he; simp only [lowXs, Option.some.injEq] at h; subst h; rfl
  | cons y ys ih =>
    intro xs h L ρ a he
    simp only [lowXs] at h
    split at h
    · rename_i x xs' h1 h2
      injection h with h
      subst h
      simp only [List.map_cons, evals, lowX_eval h1 he, ih h2 he]
    · cases h

/-- what an operation leads to -/
def Next1 (F : Frz) (L : Loc) (w : World) (a : Act) (K : Kont) (a' : Act) (w' : World) : Prop :=
  ∃ F' L' ρ', St F' L' w' ∧ EnvOk L' ρ' a' ∧ a'.tmps.size = a.tmps.size ∧ a'.defers = a.defers ∧ Step F L w F' L' w' ∧ K F' L' ρ'

theorem getD_put (a : Act) (d : Option Nat) (v : Value) (hd : ∀ k, d = some k → k < a.tmps.size) (t : Nat) :
    (a.put d v).tmps.getD t undef = match d with | some k => if t = k then v else a.tmps.getD t undef | none => a.tmps.getD t undef := by
  cases d with
  | none => rfl
  | some k =>
    have := hd k rfl
    simp only [Act.put, Array.getD_eq_getD_getElem?, Array.getElem?_setIfInBounds]
    by_cases h : t = k
    · subst h; simp [this]
    · rw [if_neg (by omega), if_neg h]

theorem put_eq (d : Option Nat) (x : SV) (ρ : Env) (t : Nat) : put d x ρ t = match d with | some k => if t = k then x else ρ t | none => ρ t := by
  cases d with
  | none => rfl
  | some k =>
    simp only [put]
    cases h : Nat.beq t k with
    | true => have := Nat.eq_of_beq_eq_true h; simp [this]
    | false => have := beq_f h; simp [this]

/-- a slot is written, and the own list goes on to one that has the boxes still -/
theorem EnvOk.put {L L' : Loc} {ρ : Env} {a : Act} (he : EnvOk L ρ a) {d : Option Nat} {v : Value} {x : SV} (hd : ∀ k, d = some k → k < a.tmps.size)
    (hv : conc L' x = v) (ho : ∀ k off, x = .own k off → ∃ g ty cs, L'.get k = some (.box g ty cs)) (hl : ∀ ad j, x = .el ad j → ad ≠ none)
    (hk : ∀ k g ty cs, L.get k = some (.box g ty cs) → ∃ cs', L'.get k = some (.box g ty cs')) : EnvOk L' (put d x ρ) (a.put d v) := by
  have old : ∀ t, a.tmps.getD t undef = conc L' (ρ t) := by
    intro t
    rw [he.eq t]
    cases e : ρ t with
    | v x => rfl
    | el a j => rfl
    | own k off =>
      obtain ⟨g, ty, cs, hg⟩ := he.own t k off e
      obtain ⟨cs', hg'⟩ := hk k g ty cs hg
      simp only [conc, hg, hg']
  refine ⟨fun t => ?_, fun t k off e => ?_, fun t ad j e => ?_⟩
  · rw [getD_put a d v hd, put_eq]
    cases d with
    | none => exact old t
    | some k =>
      simp only []
      split
      · exact hv.symm
      · exact old t
  · rw [put_eq] at e
    have oldo : ∀ k off, ρ t = .own k off → ∃ g ty cs, L'.get k = some (.box g ty cs) := by
      intro k off e
      obtain ⟨g, ty, cs, hg⟩ := he.own t k off e
      obtain ⟨cs', hg'⟩ := hk k g ty cs hg
      exact ⟨g, ty, cs', hg'⟩
    cases d with
    | none => exact oldo k off e
    | some k' =>
      simp only [] at e
      split at e
      · exact ho k off e
      · exact oldo k off e
  · rw [put_eq] at e
    cases d with
    | none => exact he.el t ad j e
    | some k' =>
      simp only [] at e
      split at e
      · exact hl ad j e
      · exact he.el t ad j e

theorem size_put (a : Act) (d : Option Nat) (v : Value) : (a.put d v).tmps.size = a.tmps.size := by cases d <;> simp [Act.put]
theorem defers_put (a : Act) (d : Option Nat) (v : Value) : (a.put d v).defers = a.defers := by cases d <;> rfl

section
variable {P : Program} {F : Frz} {L : Loc} {ρ : Env} {a : Act} {w : World} {K : Kont} {o : Oper} {Q : Exit → Act → World → Prop}

/-- an operation that hands back a value and leaves the world -/
theorem wp_val (hs : St F L w) (he : EnvOk L ρ a) (hd : ∀ k, o.dst = some k → k < a.tmps.size) {v : Value} {x : SV}
    (hr : (execOp a.eval o).run P w = .ok (.value v) w) (hv : conc L x = v) (ho : ∀ k off, x = .own k off → ∃ g ty cs, L.get k = some (.box g ty cs)) (hl : ∀ ad j, x = .el ad j → ad ≠ none)
    (hK : K F L (put o.dst x ρ)) : o.wp P a w (Next1 F L w a K) Q := by
  unfold Oper.wp
  rw [hr]
  exact ⟨F, L, _, hs, he.put hd hv ho hl (fun k g ty cs e => ⟨cs, e⟩), size_put _ _ _, defers_put _ _ _, Step.refl _ _ _, hK⟩
/-- a value, and another world -/
theorem wp_val' (he : EnvOk L ρ a) (hd : ∀ k, o.dst = some k → k < a.tmps.size) {v : Value} {x : SV} {w' : World} {F' : Frz} {L' : Loc}
    (hr : (execOp a.eval o).run P w = .ok (.value v) w') (hs : St F' L' w') (hst : Step F L w F' L' w') (hv : conc L' x = v) (ho : ∀ k off, x = .own k off → ∃ g ty cs, L'.get k = some (.box g ty cs)) (hl : ∀ ad j, x = .el ad j → ad ≠ none)
    (hk : ∀ k g ty cs, L.get k = some (.box g ty cs) → ∃ cs', L'.get k = some (.box g ty cs')) (hK : K F' L' (put o.dst x ρ)) : o.wp P a w (Next1 F L w a K) Q := by
  unfold Oper.wp
  rw [hr]
  exact ⟨F', L', _, hs, he.put hd hv ho hl hk, size_put _ _ _, defers_put _ _ _, hst, hK⟩
theorem wp_skip' (he : EnvOk L ρ a) (hd : ∀ k, o.dst = some k → k < a.tmps.size) {w' : World} {F' : Frz} {L' : Loc}
    (hr : (execOp a.eval o).run P w = .ok .skip w') (hs : St F' L' w') (hst : Step F L w F' L' w')
    (hk : ∀ k g ty cs, L.get k = some (.box g ty cs) → ∃ cs', L'.get k = some (.box g ty cs')) (hK : K F' L' (put o.dst (.v undef) ρ)) : o.wp P a w (Next1 F L w a K) Q := by
  unfold Oper.wp
  rw [hr]
  exact ⟨F', L', _, hs, he.put hd rfl (fun _ _ e => by cases e) (fun _ _ e => by cases e) hk, size_put _ _ _, defers_put _ _ _, hst, hK⟩
end
end Go.Fr
