/- Each simplified operation says of the model's operation what it does: the rest of what computes, and stores. -/
import Derived.Test.YtgapnemcomkomaaFrOps3
set_option linter.unusedVariables false
set_option linter.unusedSimpArgs false
namespace Go.Fr
open Go Go.RowKit

section
variable {P : Program} {F : Frz} {L : Loc} {ρ : Env} {a : Act} {w : World} {K : Kont} {o : Oper} {Q : Exit → Act → World → Prop}

theorem op_un {t : TypeId} {op : UnOp} {y : Operand} {y' : X} (hs : St F L w) (he : EnvOk L ρ a) (hd : ∀ k, o.dst = some k → k < a.tmps.size)
    (ho : o.op = .unOp op t y) (hy : lowX y = some y') (hK : evalOp P (.un op y') o.dst F L ρ K) : o.wp P a w (Next1 F L w a K) Q := by
  have ey := lowX_eval hy he
  simp only [evalOp, outV] at hK
  split at hK
  · rename_i b hy1
    refine wp_val hs he hd (v := .bool (!b)) (x := .v (.bool (!b))) ?_ rfl noOwn noEl hK
    simp [execOp, ho, ey, val_v hy1, Op.unary]
  · rename_i k n hy1
    obtain ⟨hK⟩ := hK
    refine wp_val hs he hd (v := .int k (k.wrap (0 - n))) (x := .v (.int k (k.wrap (0 - n)))) ?_ rfl noOwn noEl hK
    simp [execOp, ho, ey, val_v hy1, Op.unary, Op.intArith]
  · rename_i k n hy1
    refine wp_val hs he hd ?_ rfl noOwn noEl hK
    simp [execOp, ho, ey, val_v hy1, Op.unary, Op.intBits]
    rfl
  · exact hK.elim

theorem op_conv {s t : TypeId} {k k0 : IntKind} {y : Operand} {y' : X} (hs : St F L w) (he : EnvOk L ρ a) (hd : ∀ k, o.dst = some k → k < a.tmps.size)
    (ho : o.op = .convert s t y) (h1 : P.underlying s = some (.int k0)) (h2 : P.underlying t = some (.int k)) (hy : lowX y = some y') (hK : evalOp P (.conv k y') o.dst F L ρ K) : o.wp P a w (Next1 F L w a K) Q := by
  have ey := lowX_eval hy he
  simp only [evalOp, outV] at hK
  split at hK
  · rename_i k1 n hy1
    obtain ⟨hK⟩ := hK
    refine wp_val hs he hd (v := .int k (k.wrap n)) (x := .v (.int k (k.wrap n))) ?_ rfl noOwn noEl hK
    simp [execOp, ho, ey, val_v hy1, convert, run_underlying h1, run_underlying h2, Conv.intToInt]
  · exact hK.elim

theorem push_fold (bs : List UInt8) : ∀ s : ByteArray, ((bs.map fun b => (b.toNat : Int)).foldl (fun r n => r.push (UInt8.ofNat n.toNat)) s).data.toList = s.data.toList ++ bs := by
  induction bs with
  | nil => intro s; simp
  | cons b bs ih =>
    intro s
    simp only [List.map_cons, List.foldl_cons]
    rw [ih]
    simp [ByteArray.push]

theorem op_b2s {s t e : TypeId} {y : Operand} {y' : X} (hs : St F L w) (he : EnvOk L ρ a) (hd : ∀ k, o.dst = some k → k < a.tmps.size)
    (ho : o.op = .convert s t y) (h1 : P.underlying s = some (.slice e)) (h2 : P.underlying t = some .string) (h3 : P.underlying e = some (.int .u8)) (hy : lowX y = some y') (hK : evalOp P (.b2s y') o.dst F L ρ K) : o.wp P a w (Next1 F L w a K) Q := by
  have ey := lowX_eval hy he
  simp only [evalOp, outV] at hK
  split at hK
  case h_2 => exact hK.elim
  rename_i ad n c hy1
  obtain ⟨cs, hlen, hc, ⟨bs, rfl, hK⟩⟩ := hK
  refine wp_val hs he hd (v := .string ⟨bs.toArray⟩) (x := .v (.string ⟨bs.toArray⟩)) ?_ rfl noOwn noEl hK
  simp only [execOp, ho, ey, val_v hy1, Sem.run_bind, run_convert_bytes_string w s t e ad n c h1 h3 h2]
  cases ad with
  | none =>
    rcases hc with hc | ⟨_, _, _, _, _, _, _, _, _, e, _⟩ | hn0
    · obtain ⟨_, e, _⟩ := hc.cell hs; cases e
    · cases e
    · rw [hn0] at hlen
      have : bs = [] := List.eq_nil_of_length_eq_zero (by simpa using hlen)
      subst this
      simp [Conv.bytesToString]
      rfl
  | some ad =>
    have hcell : ∀ i v, (bs.map fun b => Value.int .u8 b.toNat)[i]? = some v → w.cell? (ad.add i) = some v := by
      rcases hc with hc | ⟨k, v, t', sz, m, xs, ad', c', hk, e1, e2, hc⟩ | hn0
      · obtain ⟨ad', e, hsp, hcc⟩ := hc.cell hs
        injection e with e
        subst e
        intro i v hv
        have := hcc i v hv
        rwa [Nat.zero_add] at this
      · injection e1 with e1
        subst e1
        have hrow := hs.own k _ hk
        simp only [Own.ok] at hrow
        subst e2
        intro i u hu
        have hb := hc i u hu
        rw [Nat.zero_add] at hb
        have h0 := World.ownsRow.cells hrow (g := ad.block) rfl i u hb
        rcases hrow.2 with ⟨e, _⟩ | ⟨g, cap, cur, e, _⟩
        · cases e
        · injection e with e1 e2 e3
          injection e1 with e1
          subst e1
          exact h0
      · intro i v hv
        rw [hn0] at hlen
        have : bs = [] := List.eq_nil_of_length_eq_zero (by simpa using hlen)
        subst this
        simp at hv
    have hload := run_loadCells_list (P := P) w ad _ hcell
    rw [hlen] at hload
    have hb := run_bytesToString (P := P) w ad n c (bs.map fun b => (b.toNat : Int)) (by rw [hload]; simp)
    rw [hb]
    simp only [Result.andThen_ok, Sem.run_pure]
    congr 3
    have := push_fold bs ByteArray.empty
    generalize (bs.map fun b => (b.toNat : Int)).foldl (fun r n => r.push (UInt8.ofNat n.toNat)) ByteArray.empty = z at this ⊢
    obtain ⟨d⟩ := z
    congr 1
    apply Array.ext'
    simpa using this

theorem op_mkfn {f : FuncId} {fi ca : Array Operand} {fi' ca' : List X} (hs : St F L w) (he : EnvOk L ρ a) (hd : ∀ k, o.dst = some k → k < a.tmps.size)
    (ho : o.op = .makeFunc (.func f) fi ca) (h1 : lowXs fi.toList = some fi') (h2 : lowXs ca.toList = some ca') (hK : evalOp P (.mkfn f fi' ca') o.dst F L ρ K) : o.wp P a w (Next1 F L w a K) Q := by
  have e1 : fi.map a.eval = (evals L ρ fi').toArray := by apply Array.ext'; simpa using lowXs_eval h1 he
  have e2 : ca.map a.eval = (evals L ρ ca').toArray := by apply Array.ext'; simpa using lowXs_eval h2 he
  refine wp_val hs he hd ?_ rfl noOwn noEl hK
  simp [execOp, ho, Instr.makeFunc, e1, e2]
  rfl

theorem op_extr {i : Nat} {y : Operand} {y' : X} (hs : St F L w) (he : EnvOk L ρ a) (hd : ∀ k, o.dst = some k → k < a.tmps.size)
    (ho : o.op = .extract y i) (hy : lowX y = some y') (hK : evalOp P (.extr y' i) o.dst F L ρ K) : o.wp P a w (Next1 F L w a K) Q := by
  have ey := lowX_eval hy he
  simp only [evalOp, outV] at hK
  split at hK
  case h_2 => exact hK.elim
  rename_i vs hy1
  split at hK
  case h_2 => exact hK.elim
  rename_i v hv
  refine wp_val hs he hd (v := v) (x := .v v) ?_ rfl noOwn noEl hK
  have : vs[i]? = some v := by simpa using hv
  simp [execOp, ho, ey, val_v hy1, Instr.extract, this]

theorem op_fieldV {t f : Nat} {y : Operand} {y' : X} {fs : Array Field} {fd : Field} {d : TypeDesc} {i : TypeInfo} {n : Nat} (hs : St F L w) (he : EnvOk L ρ a) (hd : ∀ k, o.dst = some k → k < a.tmps.size)
    (ho : o.op = .field t y f) (ht : P.underlying t = some (.struct fs)) (hf : fs[f]? = some fd) (hft : P.underlying fd.type = some d) (hi : P.info? fd.type = some i) (hy : lowX y = some y')
    (hn : n = match isAggD d with | true => i.size | false => 1) (hK : evalOp P (.fieldV (isAggD d) fd.offset n y') o.dst F L ρ K) : o.wp P a w (Next1 F L w a K) Q := by
  have ey := lowX_eval hy he
  simp only [evalOp, outV] at hK
  split at hK
  case h_2 => exact hK.elim
  rename_i cs hy1
  split at hK
  case h_2 => exact hK.elim
  rename_i hl
  have hl := len?_eq hl
  refine wp_val hs he hd (v := asVal (isAggD d) ((cs.toList.drop fd.offset).take n)) (x := .v (asVal (isAggD d) ((cs.toList.drop fd.offset).take n))) ?_ rfl noOwn noEl hK
  simp only [execOp, ho, ey, val_v hy1, Instr.field, Sem.run_bind, run_underlying ht, Result.andThen_ok, hf, asAgg, Sem.run_pure, part, run_isAgg hft]
  cases hdd : isAggD d with
  | true =>
    simp only [hdd] at hn
    simp only [if_true, Sem.run_bind, sizeOf, typeInfo, run_program, Result.andThen_ok, hi, Sem.run_pure]
    subst hn
    have hex : cs.extract fd.offset (fd.offset + i.size) = ((cs.toList.drop fd.offset).take i.size).toArray := by
      apply Array.ext'
      rw [Array.toList_extract]
      simp [List.extract_eq_take_drop]
    simp [asVal, hex]
  | false =>
    simp only [hdd] at hn
    subst hn
    have : ∃ v, cs[fd.offset]? = some v ∧ (cs.toList.drop fd.offset).take 1 = [v] := by
      match h : cs.toList.drop fd.offset, hl with
      | v :: r, _ =>
        refine ⟨v, ?_, by simp⟩
        have := congrArg (·[0]?) h
        simpa using this
    obtain ⟨v, h1, h2⟩ := this
    simp [h1, h2, asVal]

theorem op_fieldA {t f : Nat} {y : Operand} {y' : X} {fs : Array Field} {fd : Field} {i : TypeInfo} (hs : St F L w) (he : EnvOk L ρ a) (hd : ∀ k, o.dst = some k → k < a.tmps.size)
    (ho : o.op = .fieldAddr t y f) (ht : P.underlying t = some (.struct fs)) (hf : fs[f]? = some fd) (hi : P.info? fd.type = some i) (hne : i.size ≠ 0) (hy : lowX y = some y')
    (hK : evalOp P (.fieldA fd.offset y') o.dst F L ρ K) : o.wp P a w (Next1 F L w a K) Q := by
  have ey := lowX_eval hy he
  have run : ∀ ad : Addr, val L ρ y' = .pointer (some ad) → (execOp a.eval o).run P w = .ok (.value (.pointer (some (ad.add fd.offset)))) w := by
    intro ad hv
    simp [execOp, ho, ey, hv, Instr.fieldAt, run_underlying ht, hf, Instr.sureAddr, fieldPlace, sizeOf, typeInfo, hi, hne]
  simp only [evalOp, outV] at hK
  split at hK
  · rename_i k off hy1
    obtain ⟨g, ty, cs, hg⟩ := lowX_own hy he hy1
    refine wp_val hs he hd (v := .pointer (some ⟨g, off + fd.offset, none⟩)) (x := .own k (off + fd.offset)) ?_ (by simp only [conc, hg]) (fun k' off' e => by injection e with e1 e2; subst e1; exact ⟨g, ty, cs, hg⟩) (fun _ _ e => by cases e) hK
    rw [run ⟨g, off, none⟩ (by simp only [val, hy1, conc, hg]), add_none]
  · rename_i ad j hy1
    have hne := lowX_el hy he hy1
    cases ad with
    | none => exact absurd rfl hne
    | some ad =>
      refine wp_val hs he hd (v := .pointer (some (ad.add (j + fd.offset)))) (x := .el (some ad) (j + fd.offset)) ?_ rfl (fun _ _ e => by cases e) (fun ad' j' e => by injection e with e1 e2; subst e1; simp) hK
      rw [run (ad.add j) (by simp only [val, hy1, conc])]
      congr 4
      obtain ⟨b, o', sp⟩ := ad
      unfold Addr.add
      by_cases h1 : j = 0 <;> by_cases h2 : fd.offset = 0 <;> simp [h1, h2, Nat.add_assoc]
  · rename_i ad hy1
    refine wp_val hs he hd (v := .pointer (some (ad.add fd.offset))) (x := .el (some ad) fd.offset) ?_ rfl (fun _ _ e => by cases e) (fun ad' j' e => by injection e with e1 e2; subst e1; simp) hK
    rw [run ad (val_v hy1)]
  · exact hK.elim

theorem op_idxA {t e : TypeId} {y z : Operand} {y' z' : X} {i : TypeInfo} (hs : St F L w) (he : EnvOk L ρ a) (hd : ∀ k, o.dst = some k → k < a.tmps.size)
    (ho : o.op = .indexAddr t y z) (ht : P.underlying t = some (.slice e)) (hi : P.info? e = some i) (hy : lowX y = some y') (hz : lowX z = some z')
    (hK : evalOp P (.idxA i.size y' z') o.dst F L ρ K) : o.wp P a w (Next1 F L w a K) Q := by
  have ey := lowX_eval hy he
  have ez := lowX_eval hz he
  simp only [evalOp, outV] at hK
  split at hK
  case h_2 => exact hK.elim
  rename_i ad n c k j hy1 hz1
  obtain ⟨hne, h1, h2, hK⟩ := hK
  cases ad with
  | none => exact absurd rfl hne
  | some ad =>
    refine wp_val hs he hd (v := .pointer (some (ad.add (j.toNat * i.size)))) (x := .el (some ad) (j.toNat * i.size)) ?_ rfl (fun _ _ e => by cases e) (fun ad' j' e => by injection e with e1 e2; subst e1; simp) hK
    simp [execOp, ho, ey, ez, val_v hy1, val_v hz1, Instr.indexAt, asIntOf, run_underlying ht, h1, h2, sizeOf, typeInfo, hi]

theorem op_idxS {t : TypeId} {y z : Operand} {y' z' : X} (hs : St F L w) (he : EnvOk L ρ a) (hd : ∀ k, o.dst = some k → k < a.tmps.size)
    (ho : o.op = .index t y z) (ht : P.underlying t = some .string) (hy : lowX y = some y') (hz : lowX z = some z')
    (hK : evalOp P (.idxS y' z') o.dst F L ρ K) : o.wp P a w (Next1 F L w a K) Q := by
  have ey := lowX_eval hy he
  have ez := lowX_eval hz he
  simp only [evalOp, outV] at hK
  split at hK
  case h_2 => exact hK.elim
  rename_i s k j hy1 hz1
  obtain ⟨h1, h2, hK⟩ := hK
  refine wp_val hs he hd (v := .int .u8 ((s.data.toList.getD j.toNat 0).toNat)) (x := .v (.int .u8 ((s.data.toList.getD j.toNat 0).toNat))) ?_ rfl noOwn noEl hK
  have hlt : j.toNat < s.size := by omega
  have hget : s[j.toNat]? = some (s.data.toList.getD j.toNat 0) := by
    have h3 : j.toNat < s.data.toList.length := by simpa using hlt
    rw [getElem?_pos s j.toNat hlt, List.getD_eq_getElem?_getD, List.getElem?_eq_getElem h3]
    simp
    rfl
  simp [execOp, ho, ey, ez, val_v hy1, val_v hz1, Instr.index, asIntOf, run_underlying ht, h1, hget]

theorem op_len {t e : TypeId} {y : Operand} {y' : X} {c : Call} (hs : St F L w) (he : EnvOk L ρ a) (hd : ∀ k, o.dst = some k → k < a.tmps.size)
    (ho : o.op = .call c) (hc : c.callee = .builtin .len) (ha : c.args = #[y]) (hts : c.argTypes = #[t]) (ht : P.underlying t = some (.slice e)) (hy : lowX y = some y')
    (hK : evalOp P (.len y') o.dst F L ρ K) : o.wp P a w (Next1 F L w a K) Q := by
  have ey := lowX_eval hy he
  simp only [evalOp, outV] at hK
  split at hK
  · rename_i ad n cp hy1
    refine wp_val hs he hd (v := .int .i64 n) (x := .v (.int .i64 n)) ?_ rfl noOwn noEl hK
    simp [execOp, ho, resolve, hc, ha, hts, invoke, builtin, Builtin.len_, ey, val_v hy1, run_underlying ht, goInt]
  · exact hK.elim
theorem op_lenS {t : TypeId} {y : Operand} {y' : X} {c : Call} (hs : St F L w) (he : EnvOk L ρ a) (hd : ∀ k, o.dst = some k → k < a.tmps.size)
    (ho : o.op = .call c) (hc : c.callee = .builtin .len) (ha : c.args = #[y]) (hts : c.argTypes = #[t]) (ht : P.underlying t = some .string) (hy : lowX y = some y')
    (hK : evalOp P (.lenS y') o.dst F L ρ K) : o.wp P a w (Next1 F L w a K) Q := by
  have ey := lowX_eval hy he
  simp only [evalOp, outV] at hK
  split at hK
  · rename_i s hy1
    refine wp_val hs he hd (v := .int .i64 s.size) (x := .v (.int .i64 s.size)) ?_ rfl noOwn noEl hK
    simp [execOp, ho, resolve, hc, ha, hts, invoke, builtin, Builtin.len_, ey, val_v hy1, run_underlying ht, goInt]
  · exact hK.elim
theorem op_capa {t e : TypeId} {y : Operand} {y' : X} {c : Call} (hs : St F L w) (he : EnvOk L ρ a) (hd : ∀ k, o.dst = some k → k < a.tmps.size)
    (ho : o.op = .call c) (hc : c.callee = .builtin .cap) (ha : c.args = #[y]) (hts : c.argTypes = #[t]) (ht : P.underlying t = some (.slice e)) (hy : lowX y = some y')
    (hK : evalOp P (.capa y') o.dst F L ρ K) : o.wp P a w (Next1 F L w a K) Q := by
  have ey := lowX_eval hy he
  simp only [evalOp, outV] at hK
  split at hK
  · rename_i ad n cp hy1
    refine wp_val hs he hd (v := .int .i64 cp) (x := .v (.int .i64 cp)) ?_ rfl noOwn noEl hK
    simp [execOp, ho, resolve, hc, ha, hts, invoke, builtin, Builtin.cap_, ey, val_v hy1, run_underlying ht, goInt]
  · exact hK.elim

theorem ev_map {L : Loc} {ρ : Env} : ∀ {xs : List X}, evals L ρ xs = (xs.map (ev ρ)).map (conc L)
  | [] => rfl
  | _ :: xs => by simp [evals, val, ev_map (xs := xs)]
theorem mm_run (mx : Bool) (k : IntKind) : ∀ (l : List SV) (a0 m : Int), mmI mx a0 l = some m →
    ((l.map (conc L)).foldlM (if mx then Builtin.max2 else Builtin.min2) (.int k a0)).run P w = .ok (.int k m) w := by
  intro l
  induction l with
  | nil => intro a0 m h; simp only [mmI, Option.some.injEq] at h; subst h; rfl
  | cons x l ih =>
    intro a0 m h
    unfold mmI at h
    split at h
    · rename_i heq; cases heq
    · rename_i k' b l' heq
      injection heq with h1 h2
      subst h1 h2
      have := ih _ _ h
      cases mx
      · simp only [List.map_cons, List.foldlM_cons, conc, Sem.run_bind]
        simp only [Bool.false_eq_true, if_false] at this ⊢
        simp only [Builtin.min2, Sem.run_pure, Result.andThen_ok]
        exact this
      · simp only [List.map_cons, List.foldlM_cons, conc, Sem.run_bind]
        simp only [if_true] at this ⊢
        simp only [Builtin.max2, Sem.run_pure, Result.andThen_ok]
        exact this
    · cases h
theorem op_mm {mx : Bool} {c : Call} {xs : List X} (hs : St F L w) (he : EnvOk L ρ a) (hd : ∀ k, o.dst = some k → k < a.tmps.size)
    (ho : o.op = .call c) (hc : c.callee = .builtin (if mx then .max else .min)) (ha : lowXs c.args.toList = some xs)
    (hK : evalOp P (.mm mx xs) o.dst F L ρ K) : o.wp P a w (Next1 F L w a K) Q := by
  have hev := lowXs_eval ha he
  rw [ev_map] at hev
  simp only [evalOp, outV] at hK
  split at hK
  case h_2 => exact hK.elim
  rename_i k a0 l hl
  split at hK
  case h_2 => exact hK.elim
  rename_i m hm
  rw [hl] at hev
  have hr := mm_run (P := P) (L := L) (w := w) mx k l a0 m hm
  refine wp_val hs he hd (v := .int k m) (x := .v (.int k m)) ?_ rfl noOwn noEl hK
  cases mx
  · simp only [Bool.false_eq_true, if_false] at hc hr
    simp only [execOp, ho, resolve, hc, invoke, builtin, Builtin.min_, Sem.run_bind, Sem.run_pure, Result.andThen_ok, Array.toList_map, hev, List.map_cons, conc, hr]
  · simp only [if_true] at hc hr
    simp only [execOp, ho, resolve, hc, invoke, builtin, Builtin.max_, Sem.run_bind, Sem.run_pure, Result.andThen_ok, Array.toList_map, hev, List.map_cons, conc, hr]

theorem op_nilck {y : Operand} {y' : X} (hs : St F L w) (he : EnvOk L ρ a) (hd : ∀ k, o.dst = some k → k < a.tmps.size)
    (ho : o.op = .nilCheck y) (hy : lowX y = some y') (hK : evalOp P (.nilck y') o.dst F L ρ K) : o.wp P a w (Next1 F L w a K) Q := by
  have ey := lowX_eval hy he
  simp only [evalOp, outV] at hK
  split at hK
  · rename_i k off hy1
    obtain ⟨g, ty, cs, hg⟩ := lowX_own hy he hy1
    refine wp_val hs he hd (v := .pointer (some ⟨g, off, none⟩)) (x := .own k off) ?_ (by simp only [conc, hg]) (fun k' off' e => by injection e with e1 e2; subst e1; exact ⟨g, ty, cs, hg⟩) (fun _ _ e => by cases e) hK
    simp [execOp, ho, ey, val, hy1, conc, hg]
  · rename_i ad j hy1
    obtain ⟨hne, hK⟩ := hK
    cases ad with
    | none => exact absurd rfl hne
    | some ad =>
      refine wp_val hs he hd (v := .pointer (some (ad.add j))) (x := .el (some ad) j) ?_ rfl (fun _ _ e => by cases e) (fun ad' j' e => by injection e with e1 e2; subst e1; simp) hK
      simp [execOp, ho, ey, val, hy1, conc]
  · rename_i ad hy1
    refine wp_val hs he hd (v := .pointer (some ad)) (x := .v (.pointer (some ad))) ?_ rfl noOwn noEl hK
    simp [execOp, ho, ey, val_v hy1]
  · rename_i f fi ca hy1
    refine wp_val hs he hd (v := .func (.func f) fi ca) (x := .v (.func (.func f) fi ca)) ?_ rfl noOwn noEl hK
    simp [execOp, ho, ey, val_v hy1]
  · exact hK.elim

theorem ones?_eq : ∀ {l : List Value}, ones? l = true → ∀ u ∈ l, u.oneCell' = true
  | [], _, u, hu => by cases hu
  | v :: l, h, u, hu => by
    simp only [ones?] at h
    split at h
    · rename_i h1
      rcases List.mem_cons.1 hu with rfl | hu
      · exact h1
      · exact ones?_eq h u hu
    · cases h

theorem run_storeAt {t : TypeId} {i : TypeInfo} (hi : P.info? t = some i) {g off : Nat} {v : Value} {cur : Array Value} {ty : TypeId} (hg : w.heap[g]? = some (.cells cur ty (0, 0)))
    (hlen : v.cells.size = i.size) (hfit : off + v.cells.size ≤ cur.size) (h1 : ∀ u ∈ v.cells.toList, u.oneCell' = true) :
    (Instr.storeAt t (.pointer (some ⟨g, off, none⟩)) v).run P w = .ok () (w.setRow g (splice cur.toList off v.cells.toList).toArray) := by
  have hst := run_storeCells_at P g off ty v.cells.toList 0 cur w hg (by simpa using hfit) h1
  simp only [Nat.add_zero] at hst
  simp only [Instr.storeAt, Instr.sureAddr, storeVar, Sem.run_bind, Sem.run_pure, Result.andThen_ok, sizeOf, typeInfo, run_program, hi]
  rw [if_neg (by omega)]
  rw [hst]
  rfl

theorem setRow_grown (w : World) (g : Nat) (cs : Array Value) : w.grownBy (w.setRow g cs) (some g) :=
  ⟨rfl, rfl, rfl, by simp [World.setRow], fun k _ hk => setRow_other w g k cs (fun e => hk (by rw [e]))⟩

theorem op_store {t : TypeId} {y z : Operand} {y' z' : X} {i : TypeInfo} (hs : St F L w) (he : EnvOk L ρ a) (hd : ∀ k, o.dst = some k → k < a.tmps.size)
    (ho : o.op = .store t y z) (hi : P.info? t = some i) (hne0 : i.size ≠ 0) (hy : lowX y = some y') (hz : lowX z = some z')
    (hK : evalOp P (.store i.size y' z') o.dst F L ρ K) : o.wp P a w (Next1 F L w a K) Q := by
  have ey := lowX_eval hy he
  have ez := lowX_eval hz he
  have hcs : vcells (val L ρ z') = (a.eval z).cells.toList := by rw [ez, vcells_eq]
  have turn : ∀ (k : Nat) (g : Nat) (oo o' : Own) (cur : Array Value) (ty : TypeId) (off : Nat), L.get k = some oo → oo.blk = some g → o'.blk = some g → w.heap[g]? = some (.cells cur ty (0, 0)) →
      (a.eval z).cells.size = i.size → off + (a.eval z).cells.size ≤ cur.size → (∀ u ∈ (a.eval z).cells.toList, u.oneCell' = true) → a.eval y = .pointer (some ⟨g, off, none⟩) →
      o'.ok (w.setRow g (splice cur.toList off (a.eval z).cells.toList).toArray) → (∀ g' ty' cs', oo = .box g' ty' cs' → ∃ cs'', o' = .box g' ty' cs'') →
      K F (L.set k o') (put o.dst (.v undef) ρ) → o.wp P a w (Next1 F L w a K) Q := by
    intro k g oo o' cur ty off hk hb hb' hg hlen hfit h1 hya hok hbox hK
    have hgrow := setRow_grown w g (splice cur.toList off (a.eval z).cells.toList).toArray
    have hst : St F (L.set k o') (w.setRow g (splice cur.toList off (a.eval z).cells.toList).toArray) :=
      hs.turn hk hok (fun b hb1 hne => hgrow.block b hb1 (fun e => hne (by rw [hb, e]))) (fun g' hg' => .inl (by rw [hb]; rw [hb'] at hg'; exact hg'))
    refine wp_skip' he hd (w' := w.setRow g (splice cur.toList off (a.eval z).cells.toList).toArray) ?_ hst ?_ ?_ hK
    · simp [execOp, ho, hya, run_storeAt hi hg hlen hfit h1]
    · refine ⟨Frz.le_refl F, rfl, rfl, rfl, hgrow.size, fun b hb1 hn => hgrow.block b hb1 (fun e => hn ⟨k, oo, hk, by rw [hb, e]⟩), fun b h => .inl h, fun b h => ?_⟩
      rcases Loc.owns_set h with h | h
      · rw [hb'] at h; exact .inl ⟨k, oo, hk, by rw [hb]; exact h⟩
      · exact .inl h
    · intro j g' ty' cs' e
      rw [Loc.get_set]
      split
      · rename_i hj
        subst hj
        rw [hk] at e
        injection e with e
        obtain ⟨cs'', h⟩ := hbox g' ty' cs' e
        exact ⟨cs'', by rw [h]⟩
      · exact ⟨cs', e⟩
  have rowcase : ∀ (ad : Option Addr) (j : Nat), ad ≠ none → a.eval y = conc L (.el ad j) → len? (vcells (val L ρ z')) i.size = true → ones? (vcells (val L ρ z')) = true →
      (StorePt L ad j (vcells (val L ρ z')) fun L' => K F L' (put o.dst (.v undef) ρ)) → o.wp P a w (Next1 F L w a K) Q := by
    rintro ad j hne hya hl h1 ⟨k, v, ty, sz, m, xs, ad', c, hk, rfl, rfl, hfit, h1', hK⟩
    have hl := len?_eq hl
    rw [hcs] at hl h1' hfit hK
    have hlz : (a.eval z).cells.size = i.size := by simpa using hl
    have hrow := hs.own k _ hk
    simp only [Own.ok] at hrow
    obtain ⟨hx, hrow⟩ := hrow
    rcases hrow with ⟨e, _⟩ | ⟨g, cap, cur, e, hb0, hg, hnc, hcm, hcsz, htake⟩
    · cases e
    · injection e with e1 e2 e3
      injection e1 with e1
      subst e1 e3
      have hle : m * sz ≤ cur.size := by rw [hcsz]; exact Nat.mul_le_mul_right _ hnc
      rw [← htake] at hfit
      have hfit2 : j + (a.eval z).cells.size ≤ m * sz := by simp at hfit; omega
      refine turn k g _ (.row (.slice (some ⟨g, 0, none⟩) m c) ty sz m (splice xs j (a.eval z).cells.toList)) cur ty j hk rfl rfl hg hlz (by omega) h1' (by rw [hya]; simp only [conc]; rw [add_none]; simp) ?_ (fun g' ty' cs' e => by cases e) hK
      refine ⟨?_, .inr ⟨g, c, _, rfl, hb0, setRow_heap w g cur _ ty _ hg, hnc, hcm, ?_, ?_⟩⟩
      · rw [splice_length _ _ _ (by rw [hx]; simpa using hfit2)]; exact hx
      · have : (splice cur.toList j (a.eval z).cells.toList).length = cur.size := by rw [splice_length _ _ _ (by simp; omega)]; simp
        simp [this, hcsz]
      · rw [List.toList_toArray, ← htake]
        apply List.ext_getElem?
        intro n
        have hfz : j + (a.eval z).cells.toList.length ≤ cur.toList.length := by simp; omega
        rw [splice_get (by simp; omega)]
        by_cases hn : n < m * sz
        · rw [List.getElem?_take_of_lt hn, splice_get hfz, List.getElem?_take_of_lt hn]
        · rw [List.getElem?_eq_none (by simp; omega)]
          have h1 : ¬ n < j := by omega
          have h2 : ¬ n < j + (a.eval z).cells.toList.length := by simp; omega
          rw [if_neg h1, if_neg h2, List.getElem?_eq_none (by simp; omega)]
  simp only [evalOp, outV] at hK
  split at hK
  · rename_i hl h1 hy1
    rename_i k off
    have hl := len?_eq hl
    have h1 := ones?_eq h1
    rw [hcs] at hl h1
    split at hK
    case h_2 => exact hK.elim
    rename_i g ty cs hk
    split at hK
    case h_2 => exact hK.elim
    rename_i hfit
    have hfit := len?_eq hfit
    have hbox := hs.own k _ hk
    have hfit' : off + i.size ≤ cs.length := by simp at hfit; omega
    rw [hcs] at hK
    have hlz : (a.eval z).cells.size = i.size := by simpa using hl
    refine turn k g _ (.box g ty (splice cs off (a.eval z).cells.toList)) cs.toArray ty off hk rfl rfl hbox hlz (by simp; omega) h1 (by rw [ey]; simp only [val, hy1, conc, hk]) ?_ (fun g' ty' cs' e => by injection e with e1 e2 e3; subst e1 e2; exact ⟨_, rfl⟩) hK
    show _ = _
    exact setRow_heap w g cs.toArray _ ty _ hbox
  · rename_i hl h1 hy1
    exact rowcase _ _ (lowX_el hy he hy1) (by rw [ey]; simp only [val, hy1]) hl h1 hK
  · rename_i hl h1 hy1
    rename_i ad
    refine rowcase (some ad) 0 (by simp) (by rw [ey]; simp only [val, hy1, conc]; simp [Addr.add]) hl h1 hK
  · exact hK.elim
end
end Go.Fr
