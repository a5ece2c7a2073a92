/- Each simplified operation says of the model's operation what it does: slices' literals, structs, loads and stores. -/
import Derived.Test.YtgapnemcomkomaaFrOps
set_option linter.unusedVariables false
set_option linter.unusedSimpArgs false
namespace Go.Fr
open Go Go.RowKit

section
variable {P : Program} {F : Frz} {L : Loc} {ρ : Env} {a : Act} {w : World} {K : Kont} {o : Oper} {Q : Exit → Act → World → Prop}

theorem cellsOf_eq (L : Loc) (ρ : Env) : ∀ xs : List X, cellsOf L ρ xs = ((evals L ρ xs).map fun v => v.cells.toList).flatten
  | [] => rfl
  | x :: xs => by simp only [cellsOf, evals, List.map_cons, List.flatten_cons, cellsOf_eq L ρ xs, vcells_eq]
theorem parts?_eq {L : Loc} {ρ : Env} {sz : Nat} : ∀ {xs : List X}, parts? L ρ sz xs = true → ∀ v ∈ evals L ρ xs, v.cells.size = sz
  | [], _, v, hv => by cases hv
  | x :: xs, h, v, hv => by
    simp only [parts?] at h
    split at h
    · rename_i h1
      simp only [evals, List.mem_cons] at hv
      rcases hv with rfl | hv
      · have := len?_eq h1; rw [vcells_eq] at this; simpa using this
      · exact parts?_eq h v hv
    · cases h
theorem evals_length (L : Loc) (ρ : Env) : ∀ xs : List X, (evals L ρ xs).length = xs.length
  | [] => rfl
  | _ :: xs => by simp [evals, evals_length L ρ xs]
theorem cellsOf_length {L : Loc} {ρ : Env} {sz : Nat} : ∀ {xs : List X}, parts? L ρ sz xs = true → (cellsOf L ρ xs).length = xs.length * sz
  | [], _ => by simp [cellsOf]
  | x :: xs, h => by
    simp only [parts?] at h
    split at h
    · rename_i h1
      have := len?_eq h1
      simp only [cellsOf, List.length_append, this, cellsOf_length h, List.length_cons, Nat.succ_mul]
      omega
    · cases h

theorem zip_of_map {ps : List (Nat × Operand)} {f : Operand → Value} {n : Nat} (h : ps.map (·.1) = List.range n) :
    ps.map (fun p => (p.1, f p.2)) = (List.range' 0 ps.length).zip ((ps.map (·.2)).map f) := by
  have hn : ps.length = n := by have := congrArg List.length h; simpa using this
  rw [hn, ← List.range_eq_range', ← h]
  clear h hn
  induction ps with
  | nil => rfl
  | cons p ps ih => simp [ih]

/-- the model's slice literal -/
theorem run_buildSlice {t e n : Nat} {ps : Array (Nat × Operand)} {i : TypeInfo} {z : Value} {xs : List X} (ht : P.underlying t = some (.slice e)) (hi : P.info? e = some i) (hz : i.zero = some z)
    (hx : lowXs (ps.toList.map (·.2)) = some xs) (hr : ps.toList.map (·.1) = List.range n) (hb : n * i.size ≤ 2 ^ 24) (hp : parts? L ρ i.size xs = true) (he : EnvOk L ρ a) :
    (Instr.buildSlice t n (ps.map fun (j, x) => (j, a.eval x))).run P w = .ok (.slice (some ⟨w.heap.size, 0, none⟩) n n) (w.alloc (.cells (cellsOf L ρ xs).toArray e)) ∧ xs.length = n := by
  have hev := lowXs_eval hx he
  have hlen : xs.length = n := by
    have h1 := congrArg List.length hev
    have h2 := congrArg List.length hr
    simp only [List.length_map, evals_length, List.length_range] at h1 h2
    omega
  have hpl : ps.toList.length = n := by have := congrArg List.length hr; simpa using this
  have hparts : (ps.map fun (x : Nat × Operand) => (x.1, a.eval x.2)).toList = (List.range' 0 (evals L ρ xs).length).zip (evals L ρ xs) := by
    rw [Array.toList_map, zip_of_map hr, hev, evals_length, hlen, hpl]
  have hfill := fun (cells : Array Value) (hc : cells.size = n * i.size) => fill_parts i.size n (evals L ρ xs) 0 cells hc (by rw [evals_length]; omega) (parts?_eq hp)
  refine ⟨?_, hlen⟩
  have hsz : ∀ zero : Array Value, ((Array.range (n * i.size)).map (zero[· % zero.size]!)).size = n * i.size := fun _ => by simp
  obtain ⟨out, h1, h2⟩ := hfill ((Array.range (n * i.size)).map ((if n * i.size = 0 then #[] else z.cells)[· % (if n * i.size = 0 then #[] else z.cells).size]!)) (hsz _)
  have hout : out = (cellsOf L ρ xs).toArray := by
    apply Array.ext'
    rw [h2, cellsOf_eq]; simp
  have hb' : ¬ (n * i.size > 2 ^ 24) := by omega
  unfold Instr.buildSlice
  simp only [Sem.run_bind, run_underlying ht, Result.andThen_ok, sizeOf, typeInfo, hi, run_program, Sem.run_pure, if_neg hb', zeroValue, hz]
  by_cases h0 : n * i.size = 0
  · simp only [h0, if_true] at h1 ⊢
    try simp only [Sem.run_pure, Result.andThen_ok]
    rw [hparts]
    have h1' := h1
    simp only [h1', hout, newRow, Sem.run_bind, run_newObj, Result.andThen_ok, Sem.run_pure]
    rfl
  · simp only [h0, if_false] at h1 ⊢
    simp only [Sem.run_bind, hi, hz, run_program, Sem.run_pure, Result.andThen_ok]
    rw [hparts]
    have h1' := h1
    simp only [h1', hout, newRow, Sem.run_bind, run_newObj, Result.andThen_ok, Sem.run_pure]
    rfl

theorem op_boxF {t : TypeId} {y : Operand} {x : X} (hs : St F L w) (he : EnvOk L ρ a) (hd : ∀ k, o.dst = some k → k < a.tmps.size)
    (ho : o.op = .box t y) (hx : lowX y = some x) (hK : evalOp P (.boxF t x) o.dst F L ρ K) : o.wp P a w (Next1 F L w a K) Q := by
  simp only [evalOp] at hK
  have hcells : (a.eval y).cells = (vcells (val L ρ x)).toArray := by
    apply Array.ext'
    rw [lowX_eval hx he]; cases val L ρ x <;> rfl
  have hnew := heap_new w (.cells (vcells (val L ρ x)).toArray t)
  obtain ⟨hf, hno⟩ := new_free hs
  have hs1 := (hs.alloc (.cells (vcells (val L ρ x)).toArray t)).freeze hnew hno
  have hle := Frz.le_add (hs.alloc (.cells (vcells (val L ρ x)).toArray t)) hnew
  refine wp_val' he hd (v := .pointer (some ⟨w.heap.size, 0, none⟩)) (x := .v (.pointer (some ⟨w.heap.size, 0, none⟩))) ?_ hs1 (Step.mk' hle (World.grownBy_alloc w _ none) ?_ fun b h => .inl h) rfl noOwn noEl (boxKeep L) (hK w.heap.size _ hle (by simp))
  · simp [execOp, ho, Instr.box, newVar, newRow, hcells]
  · intro b hb
    by_cases h : b = w.heap.size
    · exact .inr (.inr (by omega))
    · simp only [if_neg h] at hb; exact .inl hb
theorem op_mkF {t e n : Nat} {ps : Array (Nat × Operand)} {i : TypeInfo} {z : Value} {xs : List X} (hs : St F L w) (he : EnvOk L ρ a) (hd : ∀ k, o.dst = some k → k < a.tmps.size)
    (ho : o.op = .buildSlice t n ps) (ht : P.underlying t = some (.slice e)) (hi : P.info? e = some i) (hz : i.zero = some z)
    (hx : lowXs (ps.toList.map (·.2)) = some xs) (hr : ps.toList.map (·.1) = List.range n) (hb : n * i.size ≤ 2 ^ 24) (hK : evalOp P (.mkF e n i.size xs) o.dst F L ρ K) : o.wp P a w (Next1 F L w a K) Q := by
  simp only [evalOp, outV] at hK
  split at hK
  case h_2 => exact hK.elim
  rename_i hp
  obtain ⟨hrun, hlen⟩ := run_buildSlice (w := w) ht hi hz hx hr hb hp he
  have hnew := heap_new w (.cells (cellsOf L ρ xs).toArray e)
  obtain ⟨hf, hno⟩ := new_free hs
  have hs1 := (hs.alloc (.cells (cellsOf L ρ xs).toArray e)).freeze hnew hno
  have hle := Frz.le_add (hs.alloc (.cells (cellsOf L ρ xs).toArray e)) hnew
  refine wp_val' he hd (v := .slice (some ⟨w.heap.size, 0, none⟩) n n) (x := .v (.slice (some ⟨w.heap.size, 0, none⟩) n n)) ?_ hs1 (Step.mk' hle (World.grownBy_alloc w _ none) ?_ fun b h => .inl h) rfl noOwn noEl (boxKeep L) (hK w.heap.size _ hle (by simp))
  · simp only [execOp, ho, Sem.run_bind, hrun, Result.andThen_ok, Sem.run_pure]
  · intro b hb
    by_cases h : b = w.heap.size
    · exact .inr (.inr (by omega))
    · simp only [if_neg h] at hb; exact .inl hb

theorem ownsRow_lit' (w : World) (cs : List Value) (e : TypeId) (n sz : Nat) (hm : n ≤ maxLen) (hl : cs.length = n * sz) :
    (w.alloc (.cells cs.toArray e)).ownsRow 0 e sz (.slice (some ⟨w.heap.size, 0, none⟩) n n) n cs :=
  ⟨hl, .inr ⟨w.heap.size, n, cs.toArray, rfl, Nat.zero_le _, heap_new w _, Nat.le_refl _, hm, by simpa using hl, by simp [← hl]⟩⟩

theorem op_mkR {t e n : Nat} {ps : Array (Nat × Operand)} {i : TypeInfo} {z : Value} {xs : List X} (hs : St F L w) (he : EnvOk L ρ a) (hd : ∀ k, o.dst = some k → k < a.tmps.size)
    (ho : o.op = .buildSlice t n ps) (ht : P.underlying t = some (.slice e)) (hi : P.info? e = some i) (hz : i.zero = some z)
    (hx : lowXs (ps.toList.map (·.2)) = some xs) (hr : ps.toList.map (·.1) = List.range n) (hb : n * i.size ≤ 2 ^ 24) (hn : n ≤ 2 ^ 24) (hK : evalOp P (.mkR e n i.size xs) o.dst F L ρ K) : o.wp P a w (Next1 F L w a K) Q := by
  simp only [evalOp, outV] at hK
  split at hK
  case h_2 => exact hK.elim
  rename_i _ _ k hp hdst
  split at hK
  case h_2 => exact hK.elim
  rename_i _ hk
  obtain ⟨hrun, hlen⟩ := run_buildSlice (w := w) ht hi hz hx hr hb hp he
  have hrow := ownsRow_lit' w (cellsOf L ρ xs) e n i.size (by simp only [maxLen]; omega) (by rw [cellsOf_length hp, hlen])
  obtain ⟨h1, h2, h3⟩ := alloc_own hs hk (cs := (cellsOf L ρ xs).toArray) (t := e) (e := .row (.slice (some ⟨w.heap.size, 0, none⟩) n n) e i.size n (cellsOf L ρ xs)) rfl hrow
  refine wp_val' he hd (v := .slice (some ⟨w.heap.size, 0, none⟩) n n) (x := .v (.slice (some ⟨w.heap.size, 0, none⟩) n n)) ?_ h1 h2 rfl noOwn noEl h3 (hK w.heap.size)
  simp only [execOp, ho, Sem.run_bind, hrun, Result.andThen_ok, Sem.run_pure]

/- struct literals -/
def placeOf (P : Program) (f : Field) : Nat × Nat := (f.offset, P.cellsOf f.type)
def placeSem (f : Field) : Sem (Nat × Nat) := do pure (f.offset, ← sizeOf f.type)

theorem lowParts_fill {fs : Array Field} : ∀ {ps : List (Nat × Operand)} {l : List (Nat × Nat × X)}, lowParts P fs ps = some l → ∀ {cells : Array Value} {cs : List Value} (pl : Array (Nat × Nat)), EnvOk L ρ a →
    (∀ (j : Nat) (f : Field) (i : TypeInfo), fs[j]? = some f → P.info? f.type = some i → pl[j]? = some (f.offset, i.size)) →
    built L ρ cells.toList l = some cs → (∀ off n x, (off, n, x) ∈ l → off + n ≤ cells.size) →
    ∃ out, Instr.fill (pl[·]?) cells (ps.map fun p => (p.1, a.eval p.2)) = some out ∧ out.toList = cs := by
  intro ps
  induction ps with
  | nil =>
    intro l h cells cs pl he hpl hb hin
    simp only [lowParts, Option.some.injEq] at h
    subst h
    simp only [built, Option.some.injEq] at hb
    exact ⟨cells, rfl, hb⟩
  | cons p ps ih =>
    intro l h cells cs pl he hpl hb hin
    obtain ⟨j, y⟩ := p
    simp only [lowParts] at h
    split at h
    case h_2 => cases h
    rename_i f x l' hf hx hl'
    split at h
    case h_2 => cases h
    rename_i i hi
    injection h with h
    subst h
    simp only [built] at hb
    split at hb
    case h_2 => cases hb
    rename_i hlen
    have hlen := len?_eq hlen
    have hin1 := hin f.offset i.size x (by simp)
    have hev := lowX_eval hx he
    simp only [List.map_cons, Instr.fill, hpl j f i hf hi]
    have hvs : (a.eval y).cells.size = i.size := by rw [hev]; rw [vcells_eq] at hlen; simpa using hlen
    rw [if_neg (by simp [hvs]; omega)]
    have hset := setMany0 (a.eval y).cells f.offset cells (by omega)
    have hcells : (a.eval y).cells.toList = vcells (val L ρ x) := by rw [hev, vcells_eq]
    rw [hcells] at hset
    refine ih hl' pl he hpl (cs := cs) ?_ ?_
    · rw [hset]; exact hb
    · intro off n x' hm
      rw [← Array.length_toList, hset, splice_length _ _ _ (by rw [hlen]; simpa using hin1)]
      simpa using hin off n x' (by simp [hm])

theorem run_mapM_places (P : Program) (w : World) : ∀ (fs : List Field), (∀ f : Field, f ∈ fs → (P.info? f.type).isSome = true) →
    (fs.mapM placeSem).run P w = .ok (fs.map (placeOf P)) w := by
  intro fs
  induction fs with
  | nil => intro _; simp
  | cons f fs ih =>
    intro h
    have h1 := h f (by simp)
    obtain ⟨i, hi⟩ := Option.isSome_iff_exists.1 h1
    simp only [List.mapM_cons, placeSem, Sem.run_bind, sizeOf, typeInfo, run_program, Result.andThen_ok, hi, Sem.run_pure]
    rw [ih (fun g hg => h g (by simp [hg]))]
    simp [placeOf, Program.cellsOf, hi]

theorem op_build {t : Nat} {ps : Array (Nat × Operand)} {fs : Array Field} {i : TypeInfo} {zs : List Value} {l : List (Nat × Nat × X)} (hs : St F L w) (he : EnvOk L ρ a) (hd : ∀ k, o.dst = some k → k < a.tmps.size)
    (ho : o.op = .build t ps) (ht : P.underlying t = some (.struct fs)) (hi : P.info? t = some i) (hz : zOf i = some zs) (hl : lowParts P fs ps.toList = some l) (hall : ∀ f : Field, f ∈ fs.toList → (P.info? f.type).isSome = true)
    (hin : ∀ off n x, (off, n, x) ∈ l → off + n ≤ zs.length) (hK : evalOp P (.build zs l) o.dst F L ρ K) : o.wp P a w (Next1 F L w a K) Q := by
  simp only [evalOp, outV] at hK
  split at hK
  case h_2 => exact hK.elim
  rename_i cs hcs
  unfold zOf at hz
  split at hz
  case h_2 => cases hz
  rename_i z hz1
  injection hz with hz
  have hpl : ∀ (j : Nat) (f : Field) (i : TypeInfo), fs[j]? = some f → P.info? f.type = some i → (fs.map (placeOf P))[j]? = some (f.offset, i.size) := by
    intro j f i h1 h2
    simp [h1, placeOf, Program.cellsOf, h2]
  obtain ⟨out, h1, h2⟩ := lowParts_fill (a := a) (cells := z.cells) (cs := cs) hl _ he hpl (by rw [hz]; exact hcs) (by intro off n x hm; have := hin off n x hm; rw [← hz] at this; simpa using this)
  have hout : out = cs.toArray := by apply Array.ext'; simpa using h2
  have hmap : (fs.mapM placeSem).run P w = .ok (fs.map (placeOf P)) w := by
    rw [Array.mapM_eq_mapM_toList, Sem.run_map, run_mapM_places P w _ hall]
    simp only [Result.andThen_ok]
    congr 1
    exact Array.ext' (by simp)
  refine wp_val hs he hd (v := .agg cs.toArray) (x := .v (.agg cs.toArray)) ?_ rfl noOwn noEl hK
  simp only [execOp, ho, Instr.build, Sem.run_bind, zeroValue, typeInfo, run_program, Result.andThen_ok, hi, Sem.run_pure, hz1, run_underlying ht]
  rw [show (fs.mapM fun (f : Field) => (do pure (f.offset, ← sizeOf f.type) : Sem (Nat × Nat))).run P w = .ok (fs.map (placeOf P)) w from hmap]
  simp only [Result.andThen_ok]
  rw [show (ps.map fun (x : Nat × Operand) => (x.1, a.eval x.2)).toList = ps.toList.map (fun p => (p.1, a.eval p.2)) by simp, h1, hout]
  simp

/- loads and stores -/
theorem run_isAgg {t : Nat} {d : TypeDesc} (ht : P.underlying t = some d) : (isAgg t).run P w = .ok (isAggD d) w := by
  unfold isAgg
  simp only [Sem.run_bind, run_underlying ht, Result.andThen_ok]
  cases d <;> rfl

theorem run_loadAt {t : Nat} {d : TypeDesc} {i : TypeInfo} (ht : P.underlying t = some d) (hi : P.info? t = some i) {ad : Addr} {cs : List Value} {n : Nat}
    (hc : ∀ j v, cs[j]? = some v → w.cell? (ad.add j) = some v) (hlen : cs.length = n) (hn : n = match isAggD d with | true => i.size | false => 1) :
    (Instr.loadAt t (.pointer (some ad))).run P w = .ok (asVal (isAggD d) cs) w := by
  simp only [Instr.loadAt, Instr.sureAddr, Sem.run_bind, Sem.run_pure, Result.andThen_ok, loadVar, run_isAgg ht]
  cases hd : isAggD d with
  | true =>
    simp only [hd] at hn
    simp only [if_true, Sem.run_bind, sizeOf, typeInfo, run_program, Result.andThen_ok, hi, Sem.run_pure]
    rw [← hn, ← hlen, run_loadCells_list w ad cs hc]
    rfl
  | false =>
    simp only [hd] at hn
    subst hn
    match cs, hlen with
    | [v], _ =>
      have := hc 0 v (by simp)
      rw [show ad.add 0 = ad by simp [Addr.add]] at this
      simp [run_load, this, asVal]

theorem cell_of_box {g : Nat} {t : TypeId} {cs : List Value} (h : Own.ok w (.box g t cs)) (n : Nat) : w.cell? ⟨g, n, none⟩ = cs[n]? := by
  simp only [Own.ok] at h
  simp [World.cell?, h]

theorem op_load {t : Nat} {y : Operand} {x : X} {d : TypeDesc} {i : TypeInfo} {n : Nat} (hs : St F L w) (he : EnvOk L ρ a) (hd : ∀ k, o.dst = some k → k < a.tmps.size)
    (ho : o.op = .load t y) (ht : P.underlying t = some d) (hi : P.info? t = some i) (hx : lowX y = some x) (hn : n = match isAggD d with | true => i.size | false => 1)
    (hK : evalOp P (.load (isAggD d) n x) o.dst F L ρ K) : o.wp P a w (Next1 F L w a K) Q := by
  have ec := lowX_eval hx he
  have point : ∀ (ad : Option Addr) (j : Nat), ad ≠ none → (LoadPt F L ad j n fun cs => K F L (put o.dst (.v (asVal (isAggD d) cs)) ρ)) → a.eval y = conc L (.el ad j) → o.wp P a w (Next1 F L w a K) Q := by
    rintro ad j hne ⟨cs, hlen, hc, hK⟩ hy
    cases ad with
    | none => exact absurd rfl hne
    | some ad =>
      have hcell : ∀ i v, cs[i]? = some v → w.cell? ((ad.add j).add i) = some v := by
        rcases hc with hc | ⟨k, v, t', sz, m, xs, ad', c, hk, e1, e2, hc⟩ | hn0
        · obtain ⟨ad', e, hsp, hcc⟩ := hc.cell hs
          injection e with e
          subst e
          intro i v hv
          obtain ⟨b, o', sp⟩ := ad
          simp only at hsp
          subst hsp
          rw [add_none, add_none, Nat.add_assoc, ← add_none]
          exact hcc i v hv
        · injection e1 with e1
          subst e1
          have hrow := hs.own k _ hk
          simp only [Own.ok] at hrow
          subst e2
          intro i u hu
          have hb := hc i u hu
          have h0 := World.ownsRow.cells hrow (g := ad.block) rfl (j + i) u hb
          rcases hrow.2 with ⟨e, _⟩ | ⟨g, cap, cur, e, _⟩
          · cases e
          · injection e with e1 e2 e3
            injection e1 with e1
            subst e1
            rw [add_none, add_none]
            rw [add_none] at h0
            simpa [Nat.add_assoc] using h0
        · intro i v hv
          rw [hn0] at hlen
          have : cs = [] := List.eq_nil_of_length_eq_zero hlen
          subst this
          simp at hv
      refine wp_val hs he hd (v := asVal (isAggD d) cs) (x := .v (asVal (isAggD d) cs)) ?_ rfl noOwn noEl hK
      simp only [execOp, ho, hy, conc, Sem.run_bind, run_loadAt ht hi hcell hlen hn, Result.andThen_ok, Sem.run_pure]
  simp only [evalOp, outV] at hK
  split at hK
  · rename_i k off hev
    split at hK
    case h_2 => exact hK.elim
    rename_i g ty cs hk
    split at hK
    case h_2 => exact hK.elim
    rename_i hl
    have hl := len?_eq hl
    have hbox := hs.own k _ hk
    have hcell : ∀ j v, ((cs.drop off).take n)[j]? = some v → w.cell? ((⟨g, off, none⟩ : Addr).add j) = some v := by
      intro j v hv
      rw [add_none, cell_of_box hbox]
      have hj : j < n := by
        have := List.getElem?_eq_some_iff.1 hv
        obtain ⟨h, _⟩ := this
        omega
      rw [List.getElem?_take_of_lt hj, List.getElem?_drop] at hv
      exact hv
    refine wp_val hs he hd (v := asVal (isAggD d) ((cs.drop off).take n)) (x := .v (asVal (isAggD d) ((cs.drop off).take n))) ?_ rfl noOwn noEl hK
    have hy : a.eval y = .pointer (some ⟨g, off, none⟩) := by rw [ec]; simp only [val, hev, conc, hk]
    simp only [execOp, ho, hy, Sem.run_bind, run_loadAt ht hi hcell hl hn, Result.andThen_ok, Sem.run_pure]
  · rename_i ad j hev
    exact point ad j (lowX_el hx he hev) hK (by rw [ec]; simp only [val, hev])
  · rename_i ad hev
    refine point (some ad) 0 (by simp) hK ?_
    rw [ec]; simp only [val, hev, conc]; simp [Addr.add]
  · exact hK.elim
end
end Go.Fr
