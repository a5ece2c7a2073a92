/- Each simplified operation says of the model's operation what it does: what makes memory, and calls. -/
import Derived.Test.YtgapnemcomkomaaFrOps4
import Derived.ArgAppend
set_option linter.unusedVariables false
set_option linter.unusedSimpArgs false
namespace Go.Fr
open Go Go.RowKit

section
variable {P : Program} {F : Frz} {L : Loc} {ρ : Env} {a : Act} {w : World} {K : Kont} {o : Oper} {Q : Exit → Act → World → Prop}


theorem lowXo_val {yo : Option Operand} {xo : Option X} (h : lowXo yo = some xo) (he : EnvOk L ρ a) {d i : Int} (hi : optI ρ d xo = some i) :
    (yo = none ∧ i = d) ∨ ∃ y k, yo = some y ∧ a.eval y = .int k i := by
  cases yo with
  | none => simp only [lowXo, Option.some.injEq] at h; subst h; simp only [optI, Option.some.injEq] at hi; exact .inl ⟨rfl, hi.symm⟩
  | some y =>
    simp only [lowXo] at h
    split at h
    case h_2 => cases h
    rename_i x hx
    injection h with h
    subst h
    simp only [optI] at hi
    split at hi
    case h_2 => cases hi
    rename_i k j hj
    injection hi with hi
    subst hi
    exact .inr ⟨y, k, rfl, by rw [lowX_eval hx he, val_v hj]⟩

theorem run_sliceBound {k : IntKind} {i : Int} {y : Nat} {code : BoundsCode} (h0 : 0 ≤ i) (h1 : i ≤ y) : (Instr.sliceBound (.int k i) y code).run P w = .ok i.toNat w := by
  simp [Instr.sliceBound, asIntOf, h0, h1]

theorem run_sliceBounds {b : Bool} {n c : Nat} {lo hi : Option Operand} {xlo xhi : Option X} {l h : Int} (hl : lowXo lo = some xlo) (hh : lowXo hi = some xhi) (he : EnvOk L ρ a)
    (el : optI ρ 0 xlo = some l) (eh : optI ρ n xhi = some h) (h1 : 0 ≤ l) (h2 : l ≤ h) (h3 : h ≤ c) :
    (Instr.sliceBounds b n c (lo.map a.eval) (hi.map a.eval) none).run P w = .ok (l.toNat, h.toNat, c) w := by
  unfold Instr.sliceBounds
  rcases lowXo_val hl he el with ⟨rfl, rfl⟩ | ⟨y, k, rfl, ey⟩ <;> rcases lowXo_val hh he eh with ⟨rfl, rfl⟩ | ⟨z, k', rfl, ez⟩
  · simp
  · simp [ez, run_sliceBound (P := P) (w := w) (show 0 ≤ h by omega) h3]
  · simp [ey, run_sliceBound (P := P) (w := w) h1 h2]
  · have h4 : l ≤ (h.toNat : Nat) := by omega
    simp [ey, ez, run_sliceBound (P := P) (w := w) (show 0 ≤ h by omega) h3, run_sliceBound (P := P) (w := w) h1 h4]

theorem op_slc {t e : TypeId} {y : Operand} {lo up : Option Operand} {y' : X} {xlo xhi : Option X} {i : TypeInfo} (hs : St F L w) (he : EnvOk L ρ a) (hd : ∀ k, o.dst = some k → k < a.tmps.size)
    (ho : o.op = .slice t y lo up none) (ht : P.underlying t = some (.slice e)) (hi : P.info? e = some i) (hy : lowX y = some y') (hl : lowXo lo = some xlo) (hh : lowXo up = some xhi)
    (hK : evalOp P (.slc i.size y' xlo xhi) o.dst F L ρ K) : o.wp P a w (Next1 F L w a K) Q := by
  have ey := lowX_eval hy he
  simp only [evalOp, outV] at hK
  split at hK
  case h_2 => exact hK.elim
  rename_i ad n c hy1
  split at hK
  case h_2 => exact hK.elim
  rename_i l h el eh
  obtain ⟨h1, h2, h3, hK⟩ := hK
  refine wp_val hs he hd (v := slcVal ad c l.toNat h.toNat i.size) (x := .v (slcVal ad c l.toNat h.toNat i.size)) ?_ rfl noOwn noEl hK
  have hb := run_sliceBounds (P := P) (w := w) (b := true) hl hh he el eh h1 h2 h3
  simp [execOp, ho, ey, val_v hy1, Instr.sliceAt, Instr.slice, run_underlying ht, hb, sizeOf, typeInfo, hi, slcVal]

theorem op_slcS {t : TypeId} {y : Operand} {lo up : Option Operand} {y' : X} {xlo xhi : Option X} (hs : St F L w) (he : EnvOk L ρ a) (hd : ∀ k, o.dst = some k → k < a.tmps.size)
    (ho : o.op = .slice t y lo up none) (ht : P.underlying t = some .string) (hy : lowX y = some y') (hl : lowXo lo = some xlo) (hh : lowXo up = some xhi)
    (hK : evalOp P (.slcS y' xlo xhi) o.dst F L ρ K) : o.wp P a w (Next1 F L w a K) Q := by
  have ey := lowX_eval hy he
  simp only [evalOp, outV] at hK
  split at hK
  case h_2 => exact hK.elim
  rename_i s hy1
  split at hK
  case h_2 => exact hK.elim
  rename_i l h el eh
  obtain ⟨h1, h2, h3, hK⟩ := hK
  refine wp_val hs he hd (v := .string (s.extract l.toNat h.toNat)) (x := .v (.string (s.extract l.toNat h.toNat))) ?_ rfl noOwn noEl hK
  have hb := run_sliceBounds (P := P) (w := w) (b := false) hl hh he el eh h1 h2 h3
  simp [execOp, ho, ey, val_v hy1, Instr.sliceAt, Instr.slice, run_underlying ht, hb]

/- make -/
theorem madeCells_flat (z : Array Value) (n : Nat) (hz : 0 < z.size) : (madeCells z (n * z.size)).toList = (List.replicate n z.toList).flatten := by
  induction n with
  | zero => simp [madeCells]
  | succ n ih =>
    rw [List.replicate_succ', List.flatten_append, ← ih]
    apply List.ext_getElem?
    intro j
    have hl : (madeCells z (n * z.size)).toList.length = n * z.size := by simp [madeCells]
    have hm : ∀ m j, j < m → (madeCells z m).toList[j]? = some (z[j % z.size]!) := by
      intro m j hj
      simp [madeCells, hj]
    have hsm : (n + 1) * z.size = n * z.size + z.size := Nat.succ_mul _ _
    by_cases h1 : j < n * z.size
    · rw [List.getElem?_append_left (by omega), hm _ _ (by omega), hm _ _ h1]
    · rw [List.getElem?_append_right (by omega), hl]
      by_cases h2 : j < (n + 1) * z.size
      · rw [hm _ _ h2]
        have h3 : j - n * z.size < z.size := by omega
        have h4 : j % z.size = j - n * z.size := by
          have : j = (j - n * z.size) + z.size * n := by rw [Nat.mul_comm z.size n]; omega
          rw [this, Nat.add_mul_mod_self_left, Nat.mod_eq_of_lt h3, Nat.mul_comm z.size n]; omega
        simp [h3, h4]
      · rw [List.getElem?_eq_none (by simp [madeCells]; omega), List.getElem?_eq_none (by simp; omega)]

theorem op_makeS {t e : TypeId} {y z : Operand} {y' z' : X} {i : TypeInfo} {zv : Value} (hs : St F L w) (he : EnvOk L ρ a) (hd : ∀ k, o.dst = some k → k < a.tmps.size)
    (ho : o.op = .makeSlice t y z) (ht : P.underlying t = some (.slice e)) (hi : P.info? e = some i) (hz0 : i.zero = some zv) (hzs : zv.cells.size = i.size) (hpos : 0 < i.size) (hy : lowX y = some y') (hz : lowX z = some z')
    (hK : evalOp P (.makeS e i.size i.bytes zv.cells.toList y' z') o.dst F L ρ K) : o.wp P a w (Next1 F L w a K) Q := by
  have ey := lowX_eval hy he
  have ez := lowX_eval hz he
  simp only [evalOp, outV] at hK
  split at hK
  case h_2 => exact hK.elim
  rename_i k1 n k2 m k hy1 hz1 hdst
  split at hK
  case h_2 => exact hK.elim
  rename_i _ hk
  obtain ⟨h0, hnm, hb, hmx, hK⟩ := hK
  subst hnm
  have hK := hK w.heap.size
  obtain ⟨q, rfl⟩ := Int.eq_ofNat_of_zero_le h0
  simp only [Int.toNat_natCast] at hb hmx hK
  have hbytes : (i.bytes : Int) * (q : Int) ≤ 281474976710656 := by
    have h : ((i.bytes * q : Nat) : Int) ≤ 281474976710656 := by rw [Nat.mul_comm]; omega
    rwa [Int.natCast_mul] at h
  have h63 : (q : Int) ≤ 9223372036854775807 := by
    have h := hmx
    simp [maxLen] at h
    omega
  have hr := run_make (P := P) w t e i zv ht hi hz0 k1 k2 q q (by omega) (Int.le_refl _) hbytes h63
  simp only [Int.toNat_natCast] at hr
  have hflat := madeCells_flat zv.cells q (by omega)
  rw [hzs] at hflat
  have hrow : (w.alloc (.cells (madeCells zv.cells (q * i.size)) e)).ownsRow 0 e i.size (.slice (some ⟨w.heap.size, 0, none⟩) q q) q (List.replicate q zv.cells.toList).flatten := by
    rw [← hflat]
    exact World.ownsRow_lit w _ q (Nat.zero_le _) hmx (size_madeCells _ _)
  obtain ⟨h1, h2, h3⟩ := alloc_own hs hk (cs := madeCells zv.cells (q * i.size)) (t := e) (e := .row (.slice (some ⟨w.heap.size, 0, none⟩) q q) e i.size q (List.replicate q zv.cells.toList).flatten) rfl hrow
  refine wp_val' he hd (v := .slice (some ⟨w.heap.size, 0, none⟩) q q) (x := .v (.slice (some ⟨w.heap.size, 0, none⟩) q q)) ?_ h1 h2 rfl noOwn noEl h3 hK
  simp only [execOp, ho, ey, ez, val_v hy1, val_v hz1, Sem.run_bind, hr, Result.andThen_ok, Sem.run_pure]

/- append -/
/-- a row goes on: in its own block, or in a new one -/
theorem grow_own (hs : St F L w) {k : Nat} {e : TypeId} {sz n n' : Nat} {s v : Value} {xs xs' : List Value} {w' : World}
    (hold : L.get k = some (.row s e sz n xs) ∨ (L.get k = none ∧ s = .slice none 0 0)) (hrow : w'.ownsRow 0 e sz v n' xs') (hg : w.grownBy w' s.ownBlock)
    (hat : v.ownBlock = s.ownBlock ∨ v.ownBlock = some w.heap.size) :
    St F (L.set k (.row v e sz n' xs')) w' ∧ Step F L w F (L.set k (.row v e sz n' xs')) w' ∧ (∀ j g ty cs, L.get j = some (.box g ty cs) → ∃ cs', (L.set k (.row v e sz n' xs')).get j = some (.box g ty cs')) := by
  have hbox : ∀ j g ty cs, L.get j = some (.box g ty cs) → ∃ cs', (L.set k (.row v e sz n' xs')).get j = some (.box g ty cs') := by
    intro j g ty cs ej
    rw [Loc.get_set]
    split
    · rename_i hj
      subst hj
      rcases hold with h | ⟨h, _⟩ <;> rw [h] at ej <;> cases ej
    · exact ⟨cs, ej⟩
  rcases hold with hk | ⟨hk, rfl⟩
  · refine ⟨hs.turn hk hrow (fun b hb hne => hg.block b hb (fun e => hne (by simpa [Own.blk] using e.symm))) (fun g hg' => ?_), ⟨Frz.le_refl F, hg.os, hg.tape, hg.output, hg.size, fun b hb hn => hg.block b hb (fun e => hn ⟨k, _, hk, e.symm⟩), fun b h => .inl h, fun b h => ?_⟩, hbox⟩
    · rcases hat with h | h
      · exact .inl (by simp only [Own.blk] at hg' ⊢; rw [← h]; exact hg')
      · simp only [Own.blk] at hg'; rw [h] at hg'; injection hg' with hg'; exact .inr (by omega)
    · rcases Loc.owns_set h with h | h
      · simp only [Own.blk] at h
        rcases hat with h' | h'
        · exact .inl ⟨k, _, hk, by simp only [Own.blk]; rw [← h']; exact h⟩
        · rw [h'] at h; injection h with h; exact .inr (by omega)
      · exact .inl h
  · have hv : ∀ g, v.ownBlock = some g → w.heap.size ≤ g := by
      intro g h
      rcases hat with h' | h'
      · rw [h'] at h; cases h
      · rw [h'] at h; injection h with h; omega
    have hs' : St F L w' := hs.keep fun b hb => hg.block b hb (by simp [Value.ownBlock])
    refine ⟨hs'.put hk hrow fun g hg' => ⟨?_, fun ho => ?_⟩, ⟨Frz.le_refl F, hg.os, hg.tape, hg.output, hg.size, fun b hb hn => hg.block b hb (by simp [Value.ownBlock]), fun b h => .inl h, fun b h => ?_⟩, hbox⟩
    · cases hF : F g with
      | none => rfl
      | some _ => have h1 := hs.frz_lt (b := g) (by rw [hF]; simp); have h2 := hv g hg'; omega
    · have h1 := hs.own_lt ho; have h2 := hv g hg'; omega
    · rcases Loc.owns_set h with h | h
      · exact .inr (hv b h)
      · exact .inl h

theorem row_form {e : TypeId} {sz n : Nat} {v : Value} {xs : List Value} (h : w.ownsRow 0 e sz v n xs) : ∃ a c, v = .slice a n c ∧ (a = none → n = 0) := by
  rcases h.2 with ⟨rfl, rfl⟩ | ⟨g, cap, cur, rfl, _⟩
  · exact ⟨none, 0, rfl, fun _ => rfl⟩
  · exact ⟨_, cap, rfl, fun e => (by cases e)⟩

theorem run_append_nothing {t ty e : TypeId} {i : TypeInfo} (ht : P.underlying t = some (.slice e)) (hi : P.info? e = some i) {s : Value} {n : Nat} {xs : List Value} (hrow : w.ownsRow 0 e i.size s n xs) (ad : Option Addr) (c : Nat) :
    ∃ w', (Builtin.append_ #[t, t] ty #[s, .slice ad 0 c]).run P w = .ok s w' ∧ w' = w := by
  refine ⟨w, ?_, rfl⟩
  have hf : (Builtin.firstCells i.size 0 (.slice ad 0 c)).run P w = .ok #[] w := by
    cases ad <;> simp [Builtin.firstCells, loadCells, loadCellsFrom]
  rcases hrow.2 with ⟨rfl, rfl⟩ | ⟨g, cap, cur, rfl, _, _, hnc, _⟩
  · simp [Builtin.append_, run_underlying ht, sizeOf, typeInfo, hi, Builtin.lenOf, hf]
  · simp [Builtin.append_, run_underlying ht, sizeOf, typeInfo, hi, Builtin.lenOf, hf, hnc, storeCells]

theorem op_app {t e : TypeId} {y z : Operand} {y' z' : X} {i : TypeInfo} {zv : Value} {c : Call} (hs : St F L w) (he : EnvOk L ρ a) (hd : ∀ k, o.dst = some k → k < a.tmps.size)
    (ho : o.op = .call c) (hc : c.callee = .builtin .append) (ha : c.args = #[y, z]) (hts : c.argTypes = #[t, t]) (ht : P.underlying t = some (.slice e)) (hi : P.info? e = some i) (hz0 : i.zero = some zv) (hzs : zv.cells.size = i.size) (hpos : 0 < i.size)
    (hy : lowX y = some y') (hz : lowX z = some z') (hK : evalOp P (.app e i.size i.bytes zv.cells.toList y' z') o.dst F L ρ K) : o.wp P a w (Next1 F L w a K) Q := by
  have ey := lowX_eval hy he
  have ez := lowX_eval hz he
  simp only [evalOp, outV] at hK
  split at hK
  case h_2 => exact hK.elim
  rename_i s x hy1 hz1
  obtain ⟨kd, n, xs, m, news, hold3, ⟨ad, cx, rfl, hlen, hsrc⟩, h1, h63, hby, hK⟩ := hK
  have hcell0 : m ≠ 0 → ∃ ad', ad = some ad' ∧ ∀ j u, news[j]? = some u → w.cell? (ad'.add j) = some u := by
    intro hm
    rcases hsrc with hc' | ⟨hm0, _⟩ | ⟨k, v, ty, sz', m', ys, ad', c', hk, rfl, rfl, hc'⟩
    · obtain ⟨ad', e', hsp, hcc⟩ := hc'.cell hs
      refine ⟨ad', e', fun j u hu => ?_⟩
      have := hcc j u hu
      rwa [Nat.zero_add] at this
    · exact absurd hm0 hm
    · refine ⟨ad', rfl, fun j u hu => ?_⟩
      have hr := hs.own k _ hk
      simp only [Own.ok] at hr
      have h0 := World.ownsRow.cells hr (g := ad'.block) rfl j u (hc' j u hu)
      rcases hr.2 with ⟨e', _⟩ | ⟨g, cap, cur, e', _⟩
      · cases e'
      · injection e' with e1 e2 e3
        injection e1 with e1
        subst e1
        exact h0
  have hold2 : (L.get kd = some (.row s e i.size n xs) ∨ (L.get kd = none ∧ n = 0 ∧ xs = [] ∧ s = .slice none 0 0)) ∨ (L.get kd = none ∧ ∃ ad, s = .slice (some ad) n n ∧ 0 < m ∧ xs.length = n * i.size ∧ (FCells F (some ad) 0 xs ∨ (n = 0 ∧ xs = []))) := by
    rcases hold3 with h | h | h
    · exact .inl (.inl h)
    · exact .inl (.inr h)
    · exact .inr h
  rcases hold2 with hold | ⟨hkn, ad0, rfl, hm0, hxl, hxc⟩
  case inr =>
    obtain ⟨ad', rfl, hcell⟩ := hcell0 (by omega)
    have hxs : ∀ j u, xs[j]? = some u → w.cell? (ad0.add j) = some u := by
      intro j u hu
      rcases hxc with hc' | ⟨_, rfl⟩
      · obtain ⟨ad2, e', hsp, hcc⟩ := hc'.cell hs
        injection e' with e'
        subst e'
        have := hcc j u hu
        rwa [Nat.zero_add] at this
      · simp at hu
    obtain ⟨v, w', hr, hrow', hg⟩ := run_append_arg_grows (P := P) w t o.type e i zv i.size i.bytes ht hi hz0 rfl rfl hzs hpos ad0 n n xs hxl hxs ad' m cx news hlen hcell (by omega) h63 hby
    have hrow0 : w'.ownsRow 0 e i.size v (n + m) (xs ++ news) := by
      refine ⟨hrow'.1, ?_⟩
      rcases hrow'.2 with h | ⟨g, cap, cur, e1, e2, e3⟩
      · exact .inl h
      · exact .inr ⟨g, cap, cur, e1, Nat.zero_le _, e3⟩
    have hat : v.ownBlock = none ∨ (∃ g, v.ownBlock = some g ∧ w.heap.size ≤ g) := by
      rcases hrow'.2 with ⟨h, _⟩ | ⟨g, cap, cur, e1, e2, e3⟩
      · rw [h]; exact .inl rfl
      · rw [e1]; exact .inr ⟨g, rfl, e2⟩
    have hv : ∀ g, v.ownBlock = some g → w.heap.size ≤ g := by
      intro g h
      rcases hat with h' | ⟨g', h', h2⟩
      · rw [h'] at h; cases h
      · rw [h'] at h; injection h with h; omega
    have hs' : St F L w' := hs.keep fun b hb => hg.block b hb (by simp)
    have hst : St F (L.set kd (.row v e i.size (n + m) (xs ++ news))) w' := hs'.put hkn hrow0 fun g hg' => ⟨by
      cases hF : F g with
      | none => rfl
      | some _ => have h1 := hs.frz_lt (b := g) (by rw [hF]; simp); have h2 := hv g hg'; omega, fun ho => by have h1 := hs.own_lt ho; have h2 := hv g hg'; omega⟩
    have hstep : Step F L w F (L.set kd (.row v e i.size (n + m) (xs ++ news))) w' := ⟨Frz.le_refl F, hg.os, hg.tape, hg.output, hg.size, fun b hb hn => hg.block b hb (by simp), fun b h => .inl h, fun b h => by
      rcases Loc.owns_set h with h | h
      · exact .inr (hv b h)
      · exact .inl h⟩
    have hbox : ∀ j g ty cs, L.get j = some (.box g ty cs) → ∃ cs', (L.set kd (.row v e i.size (n + m) (xs ++ news))).get j = some (.box g ty cs') := by
      intro j g ty cs ej
      rw [Loc.get_set, if_neg (by rintro rfl; rw [hkn] at ej; cases ej)]
      exact ⟨cs, ej⟩
    refine wp_val' he hd (v := v) (x := .v v) ?_ hst hstep rfl noOwn noEl hbox (hK v (row_form hrow0))
    simp [execOp, ho, resolve, hc, ha, hts, invoke, builtin, ey, ez, val_v hy1, val_v hz1, hr]
  have hrow : w.ownsRow 0 e i.size s n xs := by
    rcases hold with h | ⟨_, rfl, rfl, rfl⟩
    · exact hs.own kd _ h
    · exact World.ownsRow_nil w 0 e i.size
  have hold' : L.get kd = some (.row s e i.size n xs) ∨ (L.get kd = none ∧ s = .slice none 0 0) := by
    rcases hold with h | ⟨h, _, _, h'⟩
    · exact .inl h
    · exact .inr ⟨h, h'⟩
  have fin : ∀ (v : Value) (w' : World), (Builtin.append_ #[t, t] o.type #[s, .slice ad m cx]).run P w = .ok v w' → w'.ownsRow 0 e i.size v (n + m) (xs ++ news) → w.grownBy w' s.ownBlock → (v.ownBlock = s.ownBlock ∨ v.ownBlock = some w.heap.size) → o.wp P a w (Next1 F L w a K) Q := by
    intro v w' hr hrow' hg hat
    obtain ⟨g1, g2, g3⟩ := grow_own hs hold' hrow' hg hat
    refine wp_val' he hd (v := v) (x := .v v) ?_ g1 g2 rfl noOwn noEl g3 (hK v (row_form hrow'))
    simp [execOp, ho, resolve, hc, ha, hts, invoke, builtin, ey, ez, val_v hy1, val_v hz1, hr]
  by_cases hm : m = 0
  · subst hm
    have hn : news = [] := List.eq_nil_of_length_eq_zero (by simpa using hlen)
    subst hn
    obtain ⟨w', hr, rfl⟩ := run_append_nothing (P := P) (ty := o.type) ht hi hrow ad cx
    exact fin s w' hr (by simpa using hrow) (World.grownBy.refl _ _) (.inl rfl)
  · have hcell : ∃ ad', ad = some ad' ∧ ∀ j u, news[j]? = some u → w.cell? (ad'.add j) = some u := by
      rcases hsrc with hc' | ⟨hm0, _⟩ | ⟨k, v, ty, sz', m', ys, ad', c', hk, rfl, rfl, hc'⟩
      · obtain ⟨ad', e', hsp, hcc⟩ := hc'.cell hs
        refine ⟨ad', e', fun j u hu => ?_⟩
        have := hcc j u hu
        rwa [Nat.zero_add] at this
      · exact absurd hm0 hm
      · refine ⟨ad', rfl, fun j u hu => ?_⟩
        have hr := hs.own k _ hk
        simp only [Own.ok] at hr
        have h0 := World.ownsRow.cells hr (g := ad'.block) rfl j u (hc' j u hu)
        rcases hr.2 with ⟨e', _⟩ | ⟨g, cap, cur, e', _⟩
        · cases e'
        · injection e' with e1 e2 e3
          injection e1 with e1
          subst e1
          exact h0
    obtain ⟨ad', rfl, hcell⟩ := hcell
    obtain ⟨v, w', hr, h2, h3, _, h5⟩ := run_append_own_at (P := P) w 0 t o.type e i zv i.size i.bytes ht hi hz0 rfl rfl hzs hpos s n xs hrow ad' m cx news hlen hcell h1 h63 hby (Nat.zero_le _)
    exact fin v w' hr h2 h3 h5

theorem strCells_eq (s : ByteArray) : Lib.strCells s = s.data.toList.map fun b => Value.int .u8 b.toNat := rfl
theorem op_appS {t t' e : TypeId} {y z : Operand} {y' z' : X} {i : TypeInfo} {c : Call} (hs : St F L w) (he : EnvOk L ρ a) (hd : ∀ k, o.dst = some k → k < a.tmps.size)
    (ho : o.op = .call c) (hc : c.callee = .builtin .append) (ha : c.args = #[y, z]) (hts : c.argTypes = #[t, t']) (ht : P.underlying t = some (.slice e)) (ht' : P.underlying t' = some .string) (hi : P.info? e = some i) (hz0 : i.zero = some (.int .u8 0)) (hsz : i.size = 1) (hbz : i.bytes = 1)
    (hy : lowX y = some y') (hz : lowX z = some z') (hK : evalOp P (.appS e y' z') o.dst F L ρ K) : o.wp P a w (Next1 F L w a K) Q := by
  have ey := lowX_eval hy he
  have ez := lowX_eval hz he
  simp only [evalOp, outV] at hK
  split at hK
  case h_2 => exact hK.elim
  rename_i s x hy1 hz1
  obtain ⟨kd, n, xs, hold, h63, hby, hK⟩ := hK
  have hrow : w.ownsRow 0 e 1 s n xs := by
    rcases hold with h | ⟨_, rfl, rfl, rfl⟩
    · exact hs.own kd _ h
    · exact World.ownsRow_nil w 0 e 1
  have hold' : L.get kd = some (.row s e 1 n xs) ∨ (L.get kd = none ∧ s = .slice none 0 0) := by
    rcases hold with h | ⟨h, _, _, h'⟩
    · exact .inl h
    · exact .inr ⟨h, h'⟩
  obtain ⟨v, w', hr, h2, h3, h4⟩ := Lib.run_append_own_string (P := P) w 0 t t' o.type e i ht ht' hi hz0 hsz hbz s n xs hrow x h63 hby (Nat.zero_le _)
  have hat : v.ownBlock = s.ownBlock ∨ v.ownBlock = some w.heap.size := by
    rcases hrow.2 with ⟨rfl, rfl⟩ | ⟨g, cap, cur, rfl, _, hg, hnc, hcm, hcs, htake⟩
    · have hx0 : xs = [] := List.eq_nil_of_length_eq_zero (by simpa using hrow.1)
      subst hx0
      by_cases hm : x.size = 0
      · exact .inl (by rw [(h4.2 ⟨rfl, hm⟩)])
      · have hm' := h63
        simp only [maxLen] at hm'
        have hr2 := run_append_nil_string (P := P) w t t' o.type e i (.int .u8 0) ht ht' hi hz0 x (by omega) (by omega) (by rw [hbz]; omega)
        rw [hr2] at hr
        injection hr with hr _
        subst hr
        exact .inr rfl
    · by_cases hroom : n + x.size ≤ cap
      · have hcs' : cur.size = cap := by simpa using hcs
        have hr2 := Lib.run_append_room_string (P := P) w t t' o.type e i ht ht' hi hsz g n cap cur hg x hroom (by omega)
        rw [hr2] at hr
        injection hr with hr _
        subst hr
        exact .inl rfl
      · have holds : ∀ j u, xs[j]? = some u → w.cell? ((⟨g, 0, none⟩ : Addr).add j) = some u := hrow.cells (g := g) rfl
        have hm' := h63
        simp only [maxLen] at hm'
        have hr2 := Lib.run_append_grow_string (P := P) w t t' o.type e i (.int .u8 0) ht ht' hi hz0 ⟨g, 0, none⟩ n cap xs (by rw [hsz]; simpa using hrow.1) holds x (by omega) (by omega) (by rw [hbz]; exact growslice_fits (by omega) (by omega))
        rw [hr2] at hr
        injection hr with hr _
        subst hr
        exact .inr rfl
  obtain ⟨g1, g2, g3⟩ := grow_own hs hold' h2 h3 hat
  refine wp_val' he hd (v := v) (x := .v v) ?_ g1 g2 rfl noOwn noEl g3 (hK v (row_form h2))
  simp [execOp, ho, resolve, hc, ha, hts, invoke, builtin, ey, ez, val_v hy1, val_v hz1, hr]
end
end Go.Fr
