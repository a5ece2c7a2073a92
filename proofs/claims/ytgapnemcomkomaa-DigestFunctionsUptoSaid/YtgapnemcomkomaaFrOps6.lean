/- Each simplified operation says of the model's operation what it does: calls; bytes out of a string; copy. -/
import Derived.Test.YtgapnemcomkomaaFrOps5
set_option linter.unusedVariables false
set_option linter.unusedSimpArgs false
namespace Go.Fr
open Go Go.RowKit

section
variable {P : Program} {F : Frz} {L : Loc} {ρ : Env} {a : Act} {w : World} {K : Kont} {o : Oper} {Q : Exit → Act → World → Prop}

theorem inpFrom_get : ∀ (l : List Own) (k j : Nat), Loc.get (inpFrom k l) j = if k ≤ j then l[j - k]? else none
  | [], k, j => by simp [inpFrom, Loc.get]
  | o :: l, k, j => by
    simp only [inpFrom, Loc.get]
    cases h : Nat.beq k j with
    | true => have := Nat.eq_of_beq_eq_true h; subst this; simp
    | false =>
      have hne := beq_f h
      simp only [inpFrom_get l (k + 1) j]
      by_cases h1 : k ≤ j
      · rw [if_pos (by omega), if_pos h1, show j - k = (j - (k + 1)) + 1 by omega, List.getElem?_cons_succ]
      · rw [if_neg (by omega), if_neg h1]
theorem inp_get (l : List Own) (j : Nat) : Loc.get (inp l) j = if 1000 ≤ j then l[j - 1000]? else none := inpFrom_get l 1000 j

theorem sub_get : ∀ {L : Loc} {ks : List Nat} {l : List Own}, L.sub ks = some l → l.length = ks.length ∧ ∀ (i : Nat) (k : Nat), ks[i]? = some k → L.get k = l[i]?
  | L, [], l, h => by simp only [Loc.sub, Option.some.injEq] at h; subst h; simp
  | L, k :: ks, l, h => by
    simp only [Loc.sub] at h
    split at h
    case h_2 => cases h
    rename_i o l' h1 h2
    injection h with h
    subst h
    obtain ⟨e1, e2⟩ := sub_get h2
    refine ⟨by simp [e1], fun i k' hi => ?_⟩
    cases i with
    | zero => simp at hi; subst hi; simpa using h1
    | succ i => simp at hi; simpa using e2 i k' hi

theorem dels_get : ∀ (ks : List Nat) (L : Loc) (j : Nat), (L.dels ks).get j = if j ∈ ks then none else L.get j
  | [], L, j => by simp [Loc.dels]
  | k :: ks, L, j => by
    simp only [Loc.dels, dels_get ks, Loc.get_del, List.mem_cons]
    by_cases h1 : j = k <;> by_cases h2 : j ∈ ks <;> simp [h1, h2]

theorem puts_get : ∀ (ko : List Nat) (l : List Own) (L : Loc) (j : Nat), ko.Nodup → ko.length = l.length →
    ((L.puts ko l).get j = L.get j ∧ j ∉ ko) ∨ ∃ i, ko[i]? = some j ∧ (L.puts ko l).get j = l[i]? ∧ i < l.length
  | [], l, L, j, _, h => by
    refine .inl ⟨?_, by simp⟩
    cases l <;> rfl
  | k :: ko, [], L, j, _, h => by simp at h
  | k :: ko, o :: l, L, j, hn, h => by
    simp only [List.length_cons, Nat.add_right_cancel_iff] at h
    rw [List.nodup_cons] at hn
    simp only [Loc.puts]
    rcases puts_get ko l (L.set k o) j hn.2 h with ⟨h1, h2⟩ | ⟨i, h1, h2, h3⟩
    · rw [Loc.get_set] at h1
      by_cases hj : j = k
      · subst hj
        rw [if_pos rfl] at h1
        exact .inr ⟨0, by simp, by simpa using h1, by simp⟩
      · rw [if_neg hj] at h1
        exact .inl ⟨h1, by simp [hj, h2]⟩
    · exact .inr ⟨i + 1, by simpa using h1, by simpa using h2, by simp; omega⟩

theorem nodup_idx {l : List Nat} (h : l.Nodup) {i j : Nat} {k : Nat} (hi : l[i]? = some k) (hj : l[j]? = some k) : i = j := by
  induction l generalizing i j with
  | nil => simp at hi
  | cons x l ih =>
    rw [List.nodup_cons] at h
    cases i with
    | zero =>
      cases j with
      | zero => rfl
      | succ j =>
        simp at hi hj
        subst hi
        exact absurd (List.mem_of_getElem? hj) h.1
    | succ i =>
      cases j with
      | zero =>
        simp at hi hj
        subst hj
        exact absurd (List.mem_of_getElem? hi) h.1
      | succ j =>
        simp at hi hj
        rw [ih h.2 hi hj]

theorem St.handed (hs : St F L w) {ks : List Nat} {l : List Own} (hsub : L.sub ks = some l) (hn : ks.Nodup) : St F (inp l) w := by
  obtain ⟨hl, hg⟩ := sub_get hsub
  have key : ∀ j p, Loc.get (inp l) j = some p → ∃ k, 1000 ≤ j ∧ ks[j - 1000]? = some k ∧ L.get k = some p := by
    intro j p e
    rw [inp_get] at e
    split at e
    case isFalse => cases e
    rename_i h1
    have hlt : j - 1000 < l.length := (List.getElem?_eq_some_iff.1 e).1
    have hk : ks[j - 1000]? = some (ks[j - 1000]'(by omega)) := List.getElem?_eq_getElem (by omega)
    exact ⟨_, h1, hk, by rw [hg _ _ hk]; exact e⟩
  refine ⟨hs.frz, fun j p e => ?_, fun j p g e hb => ?_, fun j j' p p' g e e' hb hb' => ?_⟩
  · obtain ⟨k, _, _, h⟩ := key j p e
    exact hs.own k p h
  · obtain ⟨k, _, _, h⟩ := key j p e
    exact hs.off k p g h hb
  · obtain ⟨k, h1, h2, h3⟩ := key j p e
    obtain ⟨k', h1', h2', h3'⟩ := key j' p' e'
    have := hs.sep k k' p p' g h3 h3' hb hb'
    subst this
    have := nodup_idx hn h2 h2'
    omega

theorem call_back (hs : St F L w) {ks ko : List Nat} {l lo : List Own} (hsub : L.sub ks = some l) (hn : ks.Nodup) (hno : ko.Nodup) (hko : ∀ k, k ∈ ko → k ∈ ks ∨ L.get k = none)
    {F' : Frz} {w' : World} (hs' : St F' (inp lo) w') (hst : Step F (inp l) w F' (inp lo) w') (hlen : ko.length = lo.length) :
    St F' ((L.dels ks).puts ko lo) w' ∧ Step F L w F' ((L.dels ks).puts ko lo) w' := by
  obtain ⟨hl, hg⟩ := sub_get hsub
  have inOwn : ∀ b, (inp l).owns b → ∃ k o, k ∈ ks ∧ L.get k = some o ∧ o.blk = some b := by
    rintro b ⟨j, p, e, hb⟩
    rw [inp_get] at e
    split at e
    case isFalse => cases e
    have hlt : j - 1000 < l.length := (List.getElem?_eq_some_iff.1 e).1
    have hk : ks[j - 1000]? = some (ks[j - 1000]'(by omega)) := List.getElem?_eq_getElem (by omega)
    exact ⟨_, p, List.mem_of_getElem? hk, by rw [hg _ _ hk]; exact e, hb⟩
  have restOut : ∀ k p b, k ∉ ks → L.get k = some p → p.blk = some b → ¬ (inp l).owns b := by
    intro k p b hk e hb ho
    obtain ⟨k', o, hk', e', hb'⟩ := inOwn b ho
    exact hk (by rw [hs.sep k k' p o b e e' hb hb']; exact hk')
  have get : ∀ k p, ((L.dels ks).puts ko lo).get k = some p → (k ∉ ks ∧ k ∉ ko ∧ L.get k = some p) ∨ ∃ i, ko[i]? = some k ∧ Loc.get (inp lo) (1000 + i) = some p := by
    intro k p e
    rcases puts_get ko lo (L.dels ks) k hno hlen with ⟨h1, h2⟩ | ⟨i, h1, h2, h3⟩
    · rw [h1, dels_get] at e
      split at e
      · cases e
      · rename_i h3; exact .inl ⟨h3, h2, e⟩
    · rw [h2] at e
      exact .inr ⟨i, h1, by rw [inp_get, if_pos (by omega), show 1000 + i - 1000 = i by omega]; exact e⟩
  refine ⟨⟨hs'.frz, fun k p e => ?_, fun k p b e hb => ?_, fun k k' p p' b e e' hb hb' => ?_⟩, ⟨hst.le, hst.os, hst.tape, hst.output, hst.size, fun b hb hno => ?_, fun b hb => ?_, fun b hb => ?_⟩⟩
  · rcases get k p e with ⟨h1, _, h2⟩ | ⟨i, _, h2⟩
    · exact Own.ok_same (hs.own k p h2) fun g hg' => hst.same g (Own.ok_lt (hs.own k p h2) hg') (restOut k p g h1 h2 hg')
    · exact hs'.own _ p h2
  · rcases get k p e with ⟨h1, _, h2⟩ | ⟨i, _, h2⟩
    · cases hF : F' b with
      | none => rfl
      | some _ =>
        rcases hst.frz b (by rw [hF]; simp) with h3 | h3 | h3
        · exact absurd (hs.off k p b h2 hb) h3
        · exact absurd h3 (restOut k p b h1 h2 hb)
        · have := Own.ok_lt (hs.own k p h2) hb; omega
    · exact hs'.off _ p b h2 hb
  · have mixed : ∀ k p i p', k ∉ ks → L.get k = some p → Loc.get (inp lo) (1000 + i) = some p' → p.blk = some b → p'.blk = some b → False := by
      intro k p i p' h1 h2 h3 h4 h5
      rcases hst.own b ⟨_, p', h3, h5⟩ with h6 | h6
      · exact restOut k p b h1 h2 h4 h6
      · have := Own.ok_lt (hs.own k p h2) h4; omega
    rcases get k p e with ⟨h1, _, h2⟩ | ⟨i, hi, h2⟩ <;> rcases get k' p' e' with ⟨h1', _, h2'⟩ | ⟨i', hi', h2'⟩
    · exact hs.sep k k' p p' b h2 h2' hb hb'
    · exact (mixed k p i' p' h1 h2 h2' hb hb').elim
    · exact (mixed k' p' i p h1' h2' h2 hb' hb).elim
    · have := hs'.sep _ _ p p' b h2 h2' hb hb'
      have : i = i' := by omega
      subst this
      rw [hi] at hi'
      injection hi'
  · refine hst.same b hb fun ho => ?_
    obtain ⟨k, o, _, e, hb'⟩ := inOwn b ho
    exact hno ⟨k, o, e, hb'⟩
  · rcases hst.frz b hb with h | h | h
    · exact .inl h
    · obtain ⟨k, o, _, e, hb'⟩ := inOwn b h
      exact .inr (.inl ⟨k, o, e, hb'⟩)
    · exact .inr (.inr h)
  · obtain ⟨k, p, e, hb'⟩ := hb
    rcases get k p e with ⟨h1, _, h2⟩ | ⟨i, _, h2⟩
    · exact .inl ⟨k, p, h2, hb'⟩
    · rcases hst.own b ⟨_, p, h2, hb'⟩ with h | h
      · obtain ⟨k', o, _, e', hb''⟩ := inOwn b h
        exact .inl ⟨k', o, e', hb''⟩
      · exact .inr h

theorem wp_call {f : Nat} {args : List Value} (hs : St F L w) (he : EnvOk L ρ a) (hd : ∀ k, o.dst = some k → k < a.tmps.size)
    (hrun : (∃ fn, P.funcs[f]? = some fn ∧ fn.body.isSome = true ∧ (fn.name == "runtime.NumGoroutine") = false) → (execOp a.eval o).run P w = .ok (.enter f args.toArray) w)
    (hK : CallPt P f args F L fun F' L' v => K F' L' (put o.dst (.v v) ρ)) : o.wp P a w (Next1 F L w a K) Q := by
  obtain ⟨ks, ko, l, R, hsub, hn, hno, hko, hc, hK⟩ := hK
  unfold Oper.wp
  rw [hrun hc.ent]
  rw [Oper.upon_enter]
  refine (hc.run w (hs.handed hsub hn)).mono ?_
  rintro e w' ⟨v, F', lo, rfl, hs', hst, hR⟩
  obtain ⟨hlen, hbox, hK⟩ := hK v F' lo hst.le hR
  obtain ⟨h1, h2⟩ := call_back hs hsub hn hno hko hs' hst hlen
  refine ⟨F', _, _, h1, he.put hd (x := .v v) rfl noOwn noEl ?_, size_put _ _ _, defers_put _ _ _, h2, hK⟩
  intro k g ty cs e
  by_cases hk : k ∈ ks
  · exact hbox k g ty cs hk e
  · rcases puts_get ko lo (L.dels ks) k hno hlen with ⟨h1, h2⟩ | ⟨i, h1, h2, h3⟩
    · rw [h1, dels_get, if_neg hk]
      exact ⟨cs, e⟩
    · rcases hko k (List.mem_of_getElem? h1) with h | h
      · exact absurd h hk
      · rw [h] at e; cases e

theorem run_callFunc {f : Nat} {args : Array Value} (h : ∃ fn, P.funcs[f]? = some fn ∧ fn.body.isSome = true ∧ (fn.name == "runtime.NumGoroutine") = false) : (callFunc f args).run P w = .ok (.enter f args) w := by
  obtain ⟨fn, h1, h2, h3⟩ := h
  have h4 : fn.body ≠ none := by intro hb; rw [hb] at h2; cases h2
  have h5 : fn.name ≠ "runtime.NumGoroutine" := by simpa using h3
  simp [callFunc, h1, h4, h5]

theorem op_call {f : Nat} {args : List X} {c : Call} (hs : St F L w) (he : EnvOk L ρ a) (hd : ∀ k, o.dst = some k → k < a.tmps.size)
    (ho : o.op = .call c) (hc : c.callee = .value (.func f)) (ha : lowXs c.args.toList = some args) (hK : evalOp P (.call f args) o.dst F L ρ K) : o.wp P a w (Next1 F L w a K) Q := by
  refine wp_call hs he hd (fun hent => ?_) hK
  have hev := lowXs_eval ha he
  have hargs : c.args.map a.eval = (evals L ρ args).toArray := by apply Array.ext'; simpa using hev
  simp [execOp, ho, resolve, hc, Deferred.ofValue, Act.eval, invoke, hargs, run_callFunc hent]

theorem op_callV {y : Operand} {y' : X} {args : List X} {c : Call} (hs : St F L w) (he : EnvOk L ρ a) (hd : ∀ k, o.dst = some k → k < a.tmps.size)
    (ho : o.op = .call c) (hc : c.callee = .value y) (hy : lowX y = some y') (ha : lowXs c.args.toList = some args) (hK : evalOp P (.callV y' args) o.dst F L ρ K) : o.wp P a w (Next1 F L w a K) Q := by
  have ey := lowX_eval hy he
  simp only [evalOp, outV] at hK
  split at hK
  case h_2 => exact hK.elim
  rename_i f fi ca hy1
  refine wp_call hs he hd (fun hent => ?_) hK
  have hev := lowXs_eval ha he
  have hargs : c.args.map a.eval = (evals L ρ args).toArray := by apply Array.ext'; simpa using hev
  have hall : fi ++ ((evals L ρ args).toArray ++ ca) = (fi.toList ++ (evals L ρ args ++ ca.toList)).toArray := by apply Array.ext'; simp
  simp [execOp, ho, resolve, hc, Deferred.ofValue, ey, val_v hy1, invoke, hargs]
  rw [run_callFunc hent, hall]

theorem op_s2b {s t e : TypeId} {y : Operand} {y' : X} (hs : St F L w) (he : EnvOk L ρ a) (hd : ∀ k, o.dst = some k → k < a.tmps.size)
    (ho : o.op = .convert s t y) (h1 : P.underlying s = some .string) (h2 : P.underlying t = some (.slice e)) (h3 : P.underlying e = some (.int .u8)) (hy : lowX y = some y') (hK : evalOp P (.s2b e y') o.dst F L ρ K) : o.wp P a w (Next1 F L w a K) Q := by
  have ey := lowX_eval hy he
  simp only [evalOp, outV] at hK
  split at hK
  case h_2 => exact hK.elim
  rename_i str hy1
  let cap := (Question.appendCap str.size 0 e).cut (w.tape w.drawn (.appendCap str.size 0 e))
  have hcap : str.size ≤ cap := by simp only [cap, Question.cut]; omega
  let cells : Array Value := (str.data.map fun b => Value.int .u8 b.toNat) ++ Array.replicate (cap - str.size) (.int .u8 0)
  have hcs : cells.size = cap := by simp only [cells, Array.size_append, Array.size_map, Array.size_replicate]; have : str.data.size = str.size := rfl; omega
  let w1 := w.drew.alloc (.cells cells e)
  let w2 := w1.freeze { block := w.heap.size, off := cap } 1
  have hrun : (execOp a.eval o).run P w = .ok (.value (.slice (some ⟨w.heap.size, 0, none⟩) str.size cap)) w2 := by
    have hsh : w1.shape? w.heap.size = some (e, cap) := by
      have : w1.heap[w.heap.size]? = some (.cells cells e) := heap_new w.drew _
      simp only [World.shape?, this, hcs]
    simp [execOp, ho, ey, val_v hy1, convert, run_underlying h1, run_underlying h2, run_underlying h3, Conv.stringToBytes, Question.forced, newRow, markStringish]
    rw [show (w.drew.alloc (.cells ((str.data.map fun b => Value.int .u8 b.toNat) ++ Array.replicate ((Question.appendCap str.size 0 e).cut (w.tape w.drawn (.appendCap str.size 0 e)) - str.size) (.int .u8 0)) e)).shape? w.heap.size = some (e, cap) from hsh]
    simp
    exact ⟨rfl, rfl⟩
  have hw2 : ∀ b, b < w.heap.size → w2.heap[b]? = w.heap[b]? := by
    intro b hb
    have h1 : w1.heap[b]? = w.heap[b]? := Below.heap_alloc w.drew _ b hb
    simp only [w2, World.freeze]
    simp only [Nat.one_ne_zero, if_false, Array.getElem?_modify]
    rw [if_neg (by omega)]
    exact h1
  have hnew : w2.heap[w.heap.size]? = some (.cells cells e (cap, cap + 1)) := by
    have h1 : w1.heap[w.heap.size]? = some (.cells cells e (0, 0)) := heap_new w.drew _
    simp only [w2, World.freeze, Nat.one_ne_zero, if_false, Array.getElem?_modify, if_true, h1]
    simp
  have hs2 : St F L w2 := hs.keep hw2
  obtain ⟨hf, hno⟩ := new_free hs
  have hs3 := hs2.freeze hnew hno
  have hle := Frz.le_add hs2 hnew
  refine wp_val' he hd (x := .v (.slice (some ⟨w.heap.size, 0, none⟩) str.size cap)) hrun hs3 ⟨hle, ?_, ?_, ?_, ?_, fun b hb _ => hw2 b hb, ?_, fun b h => .inl h⟩ rfl noOwn noEl (boxKeep L) (hK w.heap.size cap _ hle ?_ hcap)
  · simp only [w2, World.freeze, Nat.one_ne_zero, if_false]; rfl
  · simp only [w2, World.freeze, Nat.one_ne_zero, if_false]; rfl
  · simp only [w2, World.freeze, Nat.one_ne_zero, if_false]; rfl
  · simp only [w2, World.freeze, Nat.one_ne_zero, if_false, Array.size_modify]
    have : w1.heap.size = w.heap.size + 1 := by simp [w1]
    omega
  · intro b hb
    by_cases h : b = w.heap.size
    · exact .inr (.inr (by omega))
    · simp only [if_neg h] at hb; exact .inl hb
  · refine ⟨_, cells, e, _, rfl, if_pos rfl, rfl, fun i v hv => ?_⟩
    have hi : i < str.data.size := by
      have := (List.getElem?_eq_some_iff.1 hv).1
      simpa using this
    simp only [cells, Nat.zero_add]
    rw [Array.getElem?_append_left (by simpa using hi)]
    simpa using hv
end
end Go.Fr
