/- Each simplified operation says of the model's operation what it does. -/
import Derived.Test.YtgapnemcomkomaaFrLow
set_option linter.unusedVariables false
set_option linter.unusedSimpArgs false
namespace Go.Fr
open Go Go.RowKit

section
variable {P : Program} {F : Frz} {L : Loc} {ρ : Env} {a : Act} {w : World} {K : Kont} {o : Oper} {Q : Exit → Act → World → Prop}

theorem noOwn {v : Value} {L : Loc} : ∀ k off, SV.v v = .own k off → ∃ g ty cs, L.get k = some (.box g ty cs) := fun _ _ e => by cases e
theorem noEl {v : Value} : ∀ ad j, SV.v v = .el ad j → ad ≠ none := fun _ _ e => by cases e
theorem boxKeep (L : Loc) : ∀ k g ty cs, L.get k = some (.box g ty cs) → ∃ cs', L.get k = some (.box g ty cs') := fun k g ty cs e => ⟨cs, e⟩

theorem val_v {x : X} {v : Value} {L : Loc} {ρ : Env} (h : ev ρ x = .v v) : val L ρ x = v := by simp only [val, h, conc]

theorem op_mov {y : Operand} {x : X} (hs : St F L w) (he : EnvOk L ρ a) (hd : ∀ k, o.dst = some k → k < a.tmps.size)
    (ho : o.op = .move y ∨ o.op = .assign y) (hx : lowX y = some x) (hK : evalOp P (.mov x) o.dst F L ρ K) : o.wp P a w (Next1 F L w a K) Q := by
  refine wp_val hs he hd (v := a.eval y) (x := ev ρ x) ?_ (lowX_eval hx he).symm (fun k off e => lowX_own hx he e) (fun ad j e => lowX_el hx he e) hK
  rcases ho with ho | ho <;> simp only [execOp, ho] <;> rfl

theorem op_pick {c y z : Operand} {c' y' z' : X} (hs : St F L w) (he : EnvOk L ρ a) (hd : ∀ k, o.dst = some k → k < a.tmps.size)
    (ho : o.op = .pick c y z) (hc : lowX c = some c') (hy : lowX y = some y') (hz : lowX z = some z') (hK : evalOp P (.pick c' y' z') o.dst F L ρ K) : o.wp P a w (Next1 F L w a K) Q := by
  have ec := lowX_eval hc he
  simp only [evalOp, outV] at hK
  split at hK
  · rename_i h
    refine wp_val hs he hd (v := a.eval y) (x := ev ρ y') ?_ (lowX_eval hy he).symm (fun k off e => lowX_own hy he e) (fun ad j e => lowX_el hy he e) hK
    simp only [execOp, ho, ec, val, h, conc]
    simp [asBool]
  · rename_i h
    refine wp_val hs he hd (v := a.eval z) (x := ev ρ z') ?_ (lowX_eval hz he).symm (fun k off e => lowX_own hz he e) (fun ad j e => lowX_el hz he e) hK
    simp only [execOp, ho, ec, val, h, conc]
    simp [asBool]
  · exact hK.elim

theorem heap_new (w : World) (o : Obj) : (w.alloc o).heap[w.heap.size]? = some o := heap_alloc_new w o
theorem new_free {F : Frz} {L : Loc} {w : World} (hs : St F L w) : F w.heap.size = none ∧ ¬ L.owns w.heap.size := by
  refine ⟨?_, fun h => ?_⟩
  · cases h : F w.heap.size with
    | none => rfl
    | some _ => have := hs.frz_lt (b := w.heap.size) (by rw [h]; simp); omega
  · have := hs.own_lt h; omega
theorem St.alloc (hs : St F L w) (o : Obj) : St F L (w.alloc o) := hs.keep fun b hb => Below.heap_alloc w o b hb

/-- a new own block -/
theorem alloc_own (hs : St F L w) {k : Nat} (hk : L.get k = none) {cs : Array Value} {t : TypeId} {e : Own} (hb : e.blk = some w.heap.size) (hok : e.ok (w.alloc (.cells cs t))) :
    St F (L.set k e) (w.alloc (.cells cs t)) ∧ Step F L w F (L.set k e) (w.alloc (.cells cs t)) ∧
      (∀ j g ty xs, L.get j = some (.box g ty xs) → ∃ cs', (L.set k e).get j = some (.box g ty cs')) := by
  obtain ⟨h1, h2⟩ := new_free hs
  refine ⟨(hs.alloc _).put hk hok fun g hg => ?_, ?_, fun j g ty xs ej => ?_⟩
  · rw [hb] at hg; injection hg with hg; subst hg; exact ⟨h1, h2⟩
  · refine Step.mk' (Frz.le_refl F) (World.grownBy_alloc w _ none) (fun b hb => .inl hb) fun b ho => ?_
    rcases Loc.owns_set ho with h | h
    · rw [hb] at h; injection h with h; exact .inr (by omega)
    · exact .inl h
  · rw [Loc.get_set]
    split
    · rename_i hjk; subst hjk; rw [hk] at ej; cases ej
    · exact ⟨xs, ej⟩

theorem op_box {y : Operand} {x : X} {t : TypeId} (hs : St F L w) (he : EnvOk L ρ a) (hd : ∀ k, o.dst = some k → k < a.tmps.size)
    (ho : o.op = .box t y) (hx : lowX y = some x) (hK : evalOp P (.box t x) o.dst F L ρ K) : o.wp P a w (Next1 F L w a K) Q := by
  simp only [evalOp, outV] at hK
  split at hK
  case h_2 => exact hK.elim
  rename_i _ k hdst
  split at hK
  case h_2 => exact hK.elim
  rename_i _ hk
  have hK := hK w.heap.size
  have hcells : (Value.cells (a.eval y)).toList = vcells (val L ρ x) := by
    rw [lowX_eval hx he]; cases val L ρ x <;> rfl
  obtain ⟨h1, h2, h3⟩ := alloc_own hs hk (cs := (a.eval y).cells) (t := t) (e := .box w.heap.size t (vcells (val L ρ x))) rfl
    (by show _ = _; rw [heap_new, ← hcells])
  refine wp_val' he hd (v := .pointer (some ⟨w.heap.size, 0, none⟩)) (x := .own k 0) ?_ h1 h2 ?_ ?_ (fun _ _ e => by cases e) h3 hK
  · simp [execOp, ho, Instr.box, newVar, newRow]
  · simp only [conc, Loc.get_set, if_true]
  · rintro k' off e
    injection e with e1 e2
    subst e1
    exact ⟨_, _, _, by rw [Loc.get_set, if_pos rfl]⟩

theorem op_alloc {t : TypeId} {i : TypeInfo} {zs : List Value} (hs : St F L w) (he : EnvOk L ρ a) (hd : ∀ k, o.dst = some k → k < a.tmps.size)
    (ho : o.op = .alloc t) (hi : P.info? t = some i) (hz : zOf i = some zs) (hK : evalOp P (.alloc t zs) o.dst F L ρ K) : o.wp P a w (Next1 F L w a K) Q := by
  simp only [evalOp, outV] at hK
  split at hK
  case h_2 => exact hK.elim
  rename_i _ k hdst
  split at hK
  case h_2 => exact hK.elim
  rename_i _ hk
  have hK := hK w.heap.size
  unfold zOf at hz
  split at hz
  case h_2 => cases hz
  rename_i z hz1
  injection hz with hz
  obtain ⟨h1, h2, h3⟩ := alloc_own hs hk (cs := z.cells) (t := t) (e := .box w.heap.size t zs) rfl
    (by show _ = _; rw [heap_new, ← hz])
  refine wp_val' he hd (v := .pointer (some ⟨w.heap.size, 0, none⟩)) (x := .own k 0) ?_ h1 h2 ?_ ?_ (fun _ _ e => by cases e) h3 hK
  · simp [execOp, ho, Instr.alloc, zeroValue, typeInfo, hi, hz1, newVar, newRow]
  · simp only [conc, Loc.get_set, if_true]
  · rintro k' off e
    injection e with e1 e2
    subst e1
    exact ⟨_, _, _, by rw [Loc.get_set, if_pos rfl]⟩

/- buildSlice, build -/
theorem len?_eq : ∀ {l : List Value} {n : Nat}, len? l n = true → l.length = n
  | [], 0, _ => rfl
  | _ :: l, n + 1, h => by simp only [len?] at h; simp [len?_eq h]
  | [], _ + 1, h => by simp [len?] at h
  | _ :: _, 0, h => by simp [len?] at h

theorem splice_get {cs vs : List Value} {off : Nat} (h : off + vs.length ≤ cs.length) (n : Nat) :
    (splice cs off vs)[n]? = if n < off then cs[n]? else if n < off + vs.length then vs[n - off]? else cs[n]? := by
  unfold splice
  have hl : (cs.take off).length = off := by simp; omega
  by_cases h1 : n < off
  · rw [if_pos h1, List.append_assoc, List.getElem?_append_left (by omega), List.getElem?_take_of_lt h1]
  · rw [if_neg h1]
    by_cases h2 : n < off + vs.length
    · rw [if_pos h2, List.append_assoc, List.getElem?_append_right (by omega), List.getElem?_append_left (by omega), hl]
    · rw [if_neg h2, List.append_assoc, List.getElem?_append_right (by omega), List.getElem?_append_right (by omega), hl, List.getElem?_drop]
      congr 1
      omega

theorem setMany (vs : List Value) : ∀ (off j : Nat) (cells : Array Value), off + j + vs.length ≤ cells.size →
    ((vs.zipIdx j).foldl (fun cs (c, j) => cs.setIfInBounds (off + j) c) cells).toList = splice cells.toList (off + j) vs := by
  induction vs with
  | nil => intro off j cells h; simp [splice]
  | cons v vs ih =>
    intro off j cells h
    simp only [List.zipIdx_cons, List.foldl_cons, List.length_cons] at h ⊢
    have := ih off (j + 1) (cells.setIfInBounds (off + j) v) (by simp; omega)
    rw [this]
    apply List.ext_getElem?
    intro n
    rw [splice_get (by simp; omega), splice_get (by simp; omega)]
    simp only [Array.toList_setIfInBounds, List.length_cons]
    by_cases h2 : n = off + j
    · subst h2
      rw [if_pos (by omega), if_neg (by omega), if_pos (by omega), List.getElem?_set_self (by simp; omega)]
      simp
    · by_cases h1 : n < off + j
      · rw [if_pos (by omega), if_pos h1, List.getElem?_set_ne (by omega)]
      · by_cases h3 : n < off + (j + 1) + vs.length
        · rw [if_neg (by omega), if_pos h3, if_neg h1, if_pos (by omega), show n - (off + j) = (n - (off + (j + 1))) + 1 by omega, List.getElem?_cons_succ]
        · rw [if_neg (by omega), if_neg h3, if_neg h1, if_neg (by omega), List.getElem?_set_ne (by omega)]

theorem setMany0 (vs : Array Value) (off : Nat) (cells : Array Value) (h : off + vs.size ≤ cells.size) :
    (vs.zipIdx.foldl (fun cs (x : Value × Nat) => cs.setIfInBounds (off + x.2) x.1) cells).toList = splice cells.toList off vs.toList := by
  have := setMany vs.toList off 0 cells (by simpa using h)
  rw [Nat.add_zero] at this
  rw [← this]
  congr 1
  rw [← Array.foldl_toList, Array.toList_zipIdx]

theorem splice_length (cs : List Value) (off : Nat) (vs : List Value) (h : off + vs.length ≤ cs.length) : (splice cs off vs).length = cs.length := by
  simp [splice]; omega

theorem vcells_eq (v : Value) : vcells v = v.cells.toList := by cases v <;> rfl

theorem fill_parts (sz n : Nat) : ∀ (vs : List Value) (k : Nat) (cells : Array Value), cells.size = n * sz → k + vs.length = n → (∀ v ∈ vs, v.cells.size = sz) →
    ∃ out, Instr.fill (fun i => some (i * sz, sz)) cells ((List.range' k vs.length).zip vs) = some out ∧
      out.toList = cells.toList.take (k * sz) ++ (vs.map (fun v => v.cells.toList)).flatten := by
  intro vs
  induction vs with
  | nil =>
    intro k cells h1 h2 h3
    refine ⟨cells, by simp [Instr.fill], ?_⟩
    simp at h2 ⊢
    subst h2
    rw [List.take_of_length_le (by simp; omega)]
  | cons v vs ih =>
    intro k cells h1 h2 h3
    have hv := h3 v (by simp)
    have hle : k * sz + sz ≤ n * sz := by
      rw [← Nat.succ_mul]; exact Nat.mul_le_mul_right _ (by simp at h2; omega)
    simp only [List.length_cons, List.range'_succ, List.zip_cons_cons, Instr.fill]
    rw [if_neg (by simp [hv]; omega)]
    have hset := setMany0 v.cells (k * sz) cells (by omega)
    have hsize : (v.cells.zipIdx.foldl (fun cs (x : Value × Nat) => cs.setIfInBounds (k * sz + x.2) x.1) cells).size = n * sz := by
      rw [← Array.length_toList, hset, splice_length _ _ _ (by simp; omega)]; simpa using h1
    obtain ⟨out, ho, hl⟩ := ih (k + 1) _ hsize (by simp at h2; omega) (fun u hu => h3 u (by simp [hu]))
    refine ⟨out, ho, ?_⟩
    rw [hl, hset]
    simp only [splice, List.map_cons, List.flatten_cons, ← List.append_assoc]
    congr 1
    rw [Nat.succ_mul]
    have hlv : v.cells.toList.length = sz := by simpa using hv
    apply List.ext_getElem?
    intro i
    by_cases c1 : i < k * sz
    · rw [List.getElem?_take_of_lt (by omega), List.append_assoc, List.getElem?_append_left (by simp; omega), List.getElem?_append_left (by simp; omega)]
    · by_cases c2 : i < k * sz + sz
      · rw [List.getElem?_take_of_lt (by omega), List.append_assoc, List.getElem?_append_right (by simp; omega), List.getElem?_append_left (by simp; omega), List.getElem?_append_right (by simp; omega)]
      · rw [List.getElem?_eq_none (by simp; omega), List.getElem?_eq_none (by simp; omega)]
end
end Go.Fr
