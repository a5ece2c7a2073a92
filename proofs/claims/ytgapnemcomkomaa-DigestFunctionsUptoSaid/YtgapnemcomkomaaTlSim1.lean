/- The evaluator over data speaks of the evaluator over addresses: operations that hand back a value. -/
import Derived.Test.YtgapnemcomkomaaTlEval
set_option linter.unusedVariables false
set_option linter.unusedSimpArgs false
namespace Go.Fr.T
open Go Go.RowKit Go.Fr

theorem wf_wrap (k : IntKind) (n : Int) : (Lit.int k (k.wrap n)).wf = true := by
  cases k <;> simp [Lit.wf, IntKind.wrap, IntKind.min, IntKind.max, IntKind.bits, IntKind.signed] <;> (try split) <;> omega
theorem wf_iff (k : IntKind) (n : Int) : (Lit.int k n).wf = true ↔ k.min ≤ n ∧ n ≤ k.max := by simp [Lit.wf]
theorem kmin_le (k : IntKind) : k.min ≤ 0 := by cases k <;> simp [IntKind.min, IntKind.bits, IntKind.signed]
theorem kmax_le (k : IntKind) : 127 ≤ k.max := by cases k <;> simp [IntKind.max, IntKind.bits, IntKind.signed]

def okB : Value → Prop
  | .int k n => (Lit.int k n).wf = true
  | .bool _ => True
  | .string s => s.size ≤ maxLen
  | _ => False
section
variable {P : Program} {G : Nat → Option (Nat × TypeId)} {F : Frz} {L : Loc} {ρ : Env} {M : TL} {τ : TEnv}

theorem relV_cvB {v : Value} (h : okB v) : RelV F L (cvB v) (.v v) := by
  cases v
  case int k n => exact ⟨.int k n, rfl, by simp only [cvB, Rel]; exact ⟨trivial, h⟩⟩
  case bool b => exact ⟨.bool b, rfl, by simp only [cvB, Rel]⟩
  case string b => exact ⟨.string b, rfl, by simp only [cvB, Rel]; exact ⟨trivial, h⟩⟩
  all_goals exact h.elim
theorem tmod_wf {k : IntKind} {a b : Int} (h : (Lit.int k a).wf = true) : (Lit.int k (a.tmod b)).wf = true := by
  rw [wf_iff] at h ⊢
  have h0 := kmin_le k
  have h1 := kmax_le k
  by_cases ha : 0 ≤ a
  · have := Int.tmod_nonneg b ha
    have h2 : a.tmod b ≤ a := by
      have : (a.tmod b).natAbs ≤ a.natAbs := by rw [Int.natAbs_tmod]; exact Nat.mod_le _ _
      omega
    omega
  · have h2 : (a.tmod b).natAbs ≤ a.natAbs := by rw [Int.natAbs_tmod]; exact Nat.mod_le _ _
    have h3 : a.tmod b ≤ 0 := by
      have := Int.tmod_nonneg b (show 0 ≤ -a by omega)
      rw [Int.neg_tmod] at this
      omega
    omega
theorem fdiv_wf {k : IntKind} {a : Int} {m : Nat} (h : (Lit.int k a).wf = true) : (Lit.int k (a.fdiv (2 ^ m))).wf = true := by
  rw [wf_iff] at h ⊢
  have h0 := kmin_le k
  have h1 := kmax_le k
  have hp : (0 : Int) < 2 ^ m := Int.pow_pos (by omega)
  rw [Int.fdiv_eq_ediv_of_nonneg _ (by omega)]
  by_cases ha : 0 ≤ a
  · have h2 := Int.ediv_nonneg ha (Int.le_of_lt hp)
    have h3 := Int.ediv_le_self (2 ^ m) ha
    omega
  · have h2 : a / 2 ^ m < 0 := Int.ediv_neg_of_neg_of_pos (by omega) hp
    have h3 : a ≤ a / 2 ^ m := by
      have : a * 1 ≤ a / 2 ^ m := by
        apply Int.le_ediv_of_mul_le hp
        rw [Int.mul_one]
        have : a * 2 ^ m ≤ a * 1 := Int.mul_le_mul_of_nonpos_left (by omega) (by omega)
        omega
      omega
    omega
theorem binI_mono {op : BinOp} {k : IntKind} {a b : Int} {K K' : Value → Prop} (ha : (Lit.int k a).wf = true) (h : binI op k a b K) (hk : ∀ v, okB v → K v → K' v) : binI op k a b K' := by
  cases op <;> simp only [binI] at h ⊢ <;> first
    | exact h.elim
    | exact ⟨hk _ (wf_wrap _ _) h.out⟩
    | exact ⟨h.ne, ⟨hk _ (wf_wrap _ _) h.out.out⟩⟩
    | exact ⟨h.ne, hk _ (tmod_wf ha) h.out⟩
    | exact hk _ (wf_wrap _ _) h
    | exact hk _ trivial h
theorem shI_mono {op : BinOp} {k : IntKind} {a b : Int} {K K' : Value → Prop} (ha : (Lit.int k a).wf = true) (h : shI op k a b K) (hk : ∀ v, okB v → K v → K' v) : shI op k a b K' := by
  cases op <;> simp only [shI] at h ⊢ <;> first
    | exact h.elim
    | exact ⟨h.1, ⟨hk _ (wf_wrap _ _) h.2.out⟩⟩
    | exact ⟨h.1, hk _ (fdiv_wf ha) h.2⟩
theorem binS_mono {op : BinOp} {a b : ByteArray} {K K' : Value → Prop} (h : binS op a b K) (hk : ∀ v, okB v → K v → K' v) : binS op a b K' := by
  cases op <;> simp only [binS] at h ⊢ <;> first
    | exact h.elim
    | exact hk _ trivial h
    | exact ⟨h.1, hk _ (by
        have h1 := h.1
        simp [IntKind.max, IntKind.bits, IntKind.signed] at h1
        show (a ++ b).size ≤ maxLen
        rw [ByteArray.size_append]
        simp only [maxLen]
        omega) h.2⟩

theorem cv0_rel (v : Value) : Rel F L (cv0 v) v := by
  unfold cv0
  split
  · split
    · rename_i h; simp only [Rel]; exact ⟨trivial, h⟩
    · simp only [Rel]
  · simp only [Rel]
  · split
    · rename_i h; simp only [Rel]; exact ⟨trivial, Nat.le_of_ble_eq_true h⟩
    · simp only [Rel]
  · simp only [Rel]
  · simp only [Rel]
  · simp only [Rel]
  · simp only [Rel]
theorem cv0s_rel : ∀ vs : List Value, Rels F L (vs.map cv0) vs
  | [] => by simp only [List.map_nil, Rels]
  | v :: vs => by simp only [List.map_cons, Rels]; exact ⟨v, vs, rfl, cv0_rel v, cv0s_rel vs⟩
theorem cv0_v (v : Value) : RelV F L (cv0 v) (.v v) := by
  have h := cv0_rel (F := F) (L := L) v
  revert h
  unfold cv0
  split
  · split
    · exact fun h => ⟨_, rfl, h⟩
    · exact fun h => trivial
  · exact fun h => ⟨_, rfl, h⟩
  · split
    · exact fun h => ⟨_, rfl, h⟩
    · exact fun h => trivial
  · exact fun h => ⟨_, rfl, h⟩
  · exact fun h => ⟨_, rfl, h⟩
  · exact fun h => ⟨_, rfl, h⟩
  · exact fun h => trivial
theorem cv_v (v : Value) : RelV F L (cv v) (.v v) := by
  unfold cv
  split
  · rename_i cs
    exact ⟨_, rfl, by simp only [Rel]; exact ⟨cs.toList, by simp, cv0s_rel _⟩⟩
  · exact cv0_v v
theorem ev_rel (h : ∀ j, RelV F L (τ j) (ρ j)) (x : X) : RelV F L (evT τ x) (ev ρ x) := by
  cases x with
  | t n => exact h n
  | c v => exact cv_v v
  | fn f => exact ⟨_, rfl, by simp only [evT, Rel]; exact ⟨[], [], by simp, by simp only [Rels], by simp only [Rels]⟩⟩

/- what a slot's tree says of its value -/
theorem inv_int {x : X} {k : IntKind} {n : Int} (h : ∀ j, RelV F L (τ j) (ρ j)) (e : evT τ x = .int k n) : ev ρ x = .v (.int k n) ∧ (Lit.int k n).wf = true := by
  have := ev_rel h x
  rw [e] at this
  simp only [RelV, Rel] at this
  obtain ⟨v, h1, rfl, h2⟩ := this
  exact ⟨h1, h2⟩
theorem inv_bool {x : X} {b : Bool} (h : ∀ j, RelV F L (τ j) (ρ j)) (e : evT τ x = .bool b) : ev ρ x = .v (.bool b) := by
  have := ev_rel h x
  rw [e] at this
  simp only [RelV, Rel] at this
  obtain ⟨v, h1, rfl⟩ := this
  exact h1
theorem inv_str {x : X} {s : ByteArray} (h : ∀ j, RelV F L (τ j) (ρ j)) (e : evT τ x = .str s) : ev ρ x = .v (.string s) ∧ s.size ≤ maxLen := by
  have := ev_rel h x
  rw [e] at this
  simp only [RelV, Rel] at this
  obtain ⟨v, h1, rfl, h2⟩ := this
  exact ⟨h1, h2⟩
theorem inv_sl {x : X} {els : List (List C)} (h : ∀ j, RelV F L (τ j) (ρ j)) (e : evT τ x = .sl els) :
    ∃ a c sz, ev ρ x = .v (.slice a els.length c) ∧ els.length ≤ c ∧ els.length ≤ maxLen ∧ (a = none → els = [] ∧ c = 0) ∧ RelS F a sz 0 els := by
  have := ev_rel h x
  rw [e] at this
  simp only [RelV, Rel] at this
  obtain ⟨v, h1, a, c, rfl, h2, h3, h4, sz, h5⟩ := this
  exact ⟨a, c, sz, h1, h2, h3, h4, h5⟩
theorem inv_nils {x : X} (h : ∀ j, RelV F L (τ j) (ρ j)) (e : evT τ x = .nils) : ev ρ x = .v (.slice none 0 0) := by
  have := ev_rel h x
  rw [e] at this
  simp only [RelV, Rel] at this
  obtain ⟨v, h1, rfl⟩ := this
  exact h1
theorem inv_rw {x : X} {k : Nat} (h : ∀ j, RelV F L (τ j) (ρ j)) (e : evT τ x = .rw k) : ∃ a c t sz n xs, ev ρ x = .v (.slice a n c) ∧ L.get k = some (.row (.slice a n c) t sz n xs) := by
  have := ev_rel h x
  rw [e] at this
  simp only [RelV, Rel] at this
  obtain ⟨v, h1, a, c, t, sz, n, xs, rfl, h2⟩ := this
  exact ⟨a, c, t, sz, n, xs, h1, h2⟩
theorem inv_own {x : X} {k off : Nat} (h : ∀ j, RelV F L (τ j) (ρ j)) (e : evT τ x = .own k off) : ev ρ x = .own k off ∧ ∃ g t cs, L.get k = some (.box g t cs) := by
  have := ev_rel h x
  rw [e] at this
  simp only [RelV] at this
  exact this
theorem inv_ownv {x : X} {k off : Nat} (h : ∀ j, RelV F L (τ j) (ρ j)) (e : evT τ x = .ownv k off) : ∃ g t cs, L.get k = some (.box g t cs) ∧ ev ρ x = .v (.pointer (some ⟨g, off, none⟩)) := by
  have := ev_rel h x
  rw [e] at this
  simp only [RelV, Rel] at this
  obtain ⟨v, h1, g, t, cs, h2, rfl⟩ := this
  exact ⟨g, t, cs, h2, h1⟩
theorem inv_fn {x : X} {f : Nat} {fi ca : List C} (h : ∀ j, RelV F L (τ j) (ρ j)) (e : evT τ x = .fn f fi ca) : ∃ fi' ca', ev ρ x = .v (.func (.func f) fi'.toArray ca'.toArray) ∧ Rels F L fi fi' ∧ Rels F L ca ca' := by
  have := ev_rel h x
  rw [e] at this
  simp only [RelV, Rel] at this
  obtain ⟨v, h1, fi', ca', rfl, h2, h3⟩ := this
  exact ⟨fi', ca', h1, h2, h3⟩
theorem inv_agg {x : X} {cs : List C} (h : ∀ j, RelV F L (τ j) (ρ j)) (e : evT τ x = .agg cs) : ∃ vs, ev ρ x = .v (.agg vs.toArray) ∧ Rels F L cs vs := by
  have := ev_rel h x
  rw [e] at this
  simp only [RelV, Rel] at this
  obtain ⟨v, h1, vs, rfl, h2⟩ := this
  exact ⟨vs, h1, h2⟩
theorem inv_tup {x : X} {cs : List C} (h : ∀ j, RelV F L (τ j) (ρ j)) (e : evT τ x = .tup cs) : ∃ vs, ev ρ x = .v (.tuple vs.toArray) ∧ Rels F L cs vs := by
  have := ev_rel h x
  rw [e] at this
  simp only [RelV, Rel] at this
  obtain ⟨v, h1, vs, rfl, h2⟩ := this
  exact ⟨vs, h1, h2⟩
theorem inv_nilp {x : X} (h : ∀ j, RelV F L (τ j) (ρ j)) (e : evT τ x = .nilp) : ev ρ x = .v (.pointer none) := by
  have := ev_rel h x
  rw [e] at this
  simp only [RelV, Rel] at this
  obtain ⟨v, h1, rfl⟩ := this
  exact h1
theorem inv_nilf {x : X} (h : ∀ j, RelV F L (τ j) (ρ j)) (e : evT τ x = .nilf) : ev ρ x = .v .nilFunc := by
  have := ev_rel h x
  rw [e] at this
  simp only [RelV, Rel] at this
  obtain ⟨v, h1, rfl⟩ := this
  exact h1
theorem inv_pt {x : X} {es : List C} {off : Nat} (h : ∀ j, RelV F L (τ j) (ρ j)) (e : evT τ x = .pt es off) :
    ∃ b o j vs, (ev ρ x = .v (.pointer (some ⟨b, o, none⟩)) ∧ j = 0 ∨ ev ρ x = .el (some ⟨b, o, none⟩) j) ∧ PtB F b (o + j) off vs ∧ onesL es = true ∧ Rels F [] es vs := by
  have := ev_rel h x
  rw [e] at this
  simp only [RelV] at this
  exact this
theorem inv_elr {x : X} {k j off : Nat} (h : ∀ j, RelV F L (τ j) (ρ j)) (e : evT τ x = .elr k j off) :
    ∃ ad t sz n c xs, ev ρ x = .el (some ad) (j * sz + off) ∧ L.get k = some (.row (.slice (some ad) n c) t sz n xs) := by
  have := ev_rel h x
  rw [e] at this
  simp only [RelV] at this
  exact this
theorem tl_box (h : RelTL F L M) {k : Nat} {t : TypeId} {cs : List C} (e : M.get k = some (.box t cs)) : ∃ g vs, L.get k = some (.box g t vs) ∧ Rels F L cs vs := by
  have := h k
  rw [e] at this
  cases hL : L.get k with
  | none => rw [hL] at this; exact this.elim
  | some o =>
    rw [hL] at this
    cases o with
    | row => exact this.elim
    | box g t' vs => obtain ⟨rfl, h2⟩ := this; exact ⟨g, vs, rfl, h2⟩
theorem tl_row (h : RelTL F L M) {k : Nat} {t : TypeId} {sz : Nat} {els : List (List C)} (e : M.get k = some (.row t sz els)) :
    ∃ v xs, L.get k = some (.row v t sz els.length xs) ∧ (els.length ≤ maxLen ∧ ∃ a c, v = .slice a els.length c ∧ (a = none → els.length = 0)) ∧ RelRow F sz els xs := by
  have := h k
  rw [e] at this
  cases hL : L.get k with
  | none => rw [hL] at this; exact this.elim
  | some o =>
    rw [hL] at this
    cases o with
    | box => exact this.elim
    | row v t' sz' n xs => obtain ⟨rfl, rfl, rfl, h2, h3⟩ := this; exact ⟨v, xs, rfl, h2, h3⟩
theorem tl_none (h : RelTL F L M) {k : Nat} (e : M.get k = none) : L.get k = none := by
  have := h k
  rw [e] at this
  cases hL : L.get k with
  | none => rfl
  | some o => rw [hL] at this; exact this.elim

theorem lenC_eq : ∀ {l : List C} {n : Nat}, lenC? l n = true → l.length = n
  | [], 0, _ => rfl
  | [], n + 1, h => by simp [lenC?] at h
  | _ :: l, 0, h => by simp [lenC?] at h
  | _ :: l, n + 1, h => by simp only [lenC?] at h; simp [lenC_eq h]
theorem len_of : ∀ {l : List Value} {n : Nat}, l.length = n → len? l n = true
  | [], 0, _ => rfl
  | [], n + 1, h => by simp at h
  | _ :: l, 0, h => by simp at h
  | _ :: l, n + 1, h => by simp only [len?]; exact len_of (by simpa using h)
/-- a cell in a slot -/
theorem slt_rel {c : C} {v : Value} (h : Rel F L c v) : RelV F L c.slt (.v v) := by
  cases c <;> (try simp only [C.slt]) <;> try exact ⟨v, rfl, h⟩
  case any => trivial
  case pt es off =>
    simp only [Rel] at h
    obtain ⟨b, o, vs, rfl, h2, h3⟩ := h
    exact ⟨b, o, 0, vs, .inl ⟨rfl, rfl⟩, h2, h3⟩
  case ownv => exact h.elim
  case elr => exact h.elim
theorem asC_rel {agg : Bool} {cs : List C} {vs : List Value} (h : Rels F L cs vs) : RelV F L (asC agg cs) (.v (asVal agg vs)) := by
  cases agg with
  | true => exact ⟨_, rfl, by simp only [asC, asVal, Rel]; exact ⟨vs, rfl, h⟩⟩
  | false =>
    match cs, vs, h with
    | [], vs, h => trivial
    | [c], vs, h =>
      simp only [Rels] at h
      obtain ⟨v, vs', rfl, h1, rfl⟩ := h
      exact slt_rel h1
    | _ :: _ :: _, vs, h => trivial
/-- a slot's content as a cell -/
theorem cel_rel {c : C} {sv : SV} (h : RelV F L c sv) (hc : c.one = true ∨ (∃ k o, c = .ownv k o) ∨ c = .any ∨ (∃ k j o, c = .elr k j o) ∨ (∃ l, c = .agg l) ∨ (∃ l, c = .tup l) ∨ c = .und) : Rel F L c.cel (conc L sv) := by
  cases c <;> simp only [C.cel] <;> simp only [RelV] at h
  case own k off =>
    obtain ⟨rfl, g, t, cs, h⟩ := h
    simp only [Rel, conc, h]
    exact ⟨g, t, cs, rfl, rfl⟩
  case ownv k off =>
    obtain ⟨v, rfl, h⟩ := h
    simpa only [conc] using h
  case pt es off =>
    obtain ⟨b, o, j, vs, h1, h2, h3, h4⟩ := h
    simp only [Rel]
    rcases h1 with ⟨rfl, rfl⟩ | rfl
    · exact ⟨b, o, vs, rfl, h2, h3, h4⟩
    · exact ⟨b, o + j, vs, by simp only [conc, add_none], h2, h3, h4⟩
  case elr => simp only [Rel]
  case any => simp only [Rel]
  all_goals
    obtain ⟨v, rfl, h⟩ := h
    simpa only [conc] using h
theorem cel_rel' {c : C} {sv : SV} (h : RelV F L c sv) : Rel F L c.cel (conc L sv) := by
  apply cel_rel h
  cases c <;> simp [C.one]
theorem val_rel (h : ∀ j, RelV F L (τ j) (ρ j)) (x : X) : Rel F L (evT τ x).cel (val L ρ x) := cel_rel' (ev_rel h x)
theorem evals_rel (h : ∀ j, RelV F L (τ j) (ρ j)) : ∀ xs : List X, Rels F L (evalsT τ xs) (evals L ρ xs)
  | [] => by simp only [evalsT, evals, Rels]
  | x :: xs => by simp only [evalsT, evals, Rels]; exact ⟨_, _, rfl, val_rel h x, evals_rel h xs⟩
theorem tcells_rel {c : C} {sv : SV} (h : RelV F L c sv) (hc : c.okc = true) : Rels F L (tcells c) (vcells (conc L sv)) := by
  have h1 := cel_rel' h
  cases c <;> simp only [C.okc, Bool.false_eq_true] at hc <;> simp only [tcells] <;> simp only [C.cel] at h1 ⊢
  case agg cs =>
    simp only [Rel] at h1
    obtain ⟨vs, h2, h3⟩ := h1
    rw [h2]
    simpa only [vcells] using h3
  all_goals
    simp only [Rels]
    refine ⟨_, [], ?_, h1, rfl⟩
    revert h1
    generalize conc L sv = v
    intro h1
    simp only [Rel] at h1
    first
      | (obtain ⟨rfl, _⟩ := h1; rfl)
      | (subst h1; rfl)
      | (obtain ⟨_, rfl, _⟩ := h1; rfl)
      | (obtain ⟨_, _, rfl, _⟩ := h1; rfl)
      | (obtain ⟨_, _, _, rfl, _⟩ := h1; rfl)
      | (obtain ⟨_, _, _, _, _, _, rfl, _⟩ := h1; rfl)
      | (obtain ⟨_, _, _, _, rfl⟩ := h1; rfl)
theorem vals_cells (h : ∀ j, RelV F L (τ j) (ρ j)) {x : X} (hc : (evT τ x).okc = true) : Rels F L (tcells (evT τ x)) (vcells (val L ρ x)) := tcells_rel (ev_rel h x) hc
theorem spliceC_rel {cs : List C} {vs : List Value} {off : Nat} {ds : List C} {us : List Value} (h : Rels F L cs vs) (k : Rels F L ds us) : Rels F L (spliceC cs off ds) (splice vs off us) := by
  simp only [spliceC, splice]
  rw [← k.len]
  exact ((h.take off).append k).append (h.drop _)
theorem built_rel (h : ∀ j, RelV F L (τ j) (ρ j)) : ∀ (ps : List (Nat × Nat × X)) {zs : List C} {vs : List Value} {cs : List C}, Rels F L zs vs → builtT τ zs ps = some cs → ∃ us, built L ρ vs ps = some us ∧ Rels F L cs us
  | [], zs, vs, cs, hz, hb => by
    simp only [builtT, Option.some.injEq] at hb
    subst hb
    exact ⟨vs, rfl, hz⟩
  | (off, n, x) :: ps, zs, vs, cs, hz, hb => by
    simp only [builtT] at hb
    split at hb
    case h_2 => cases hb
    rename_i h1 h2
    have hc := vals_cells h h1
    have hl : len? (vcells (val L ρ x)) n = true := len_of (by rw [hc.len]; exact lenC_eq h2)
    simp only [built, hl]
    exact built_rel h ps (spliceC_rel hz hc) hb
theorem opt_rel (h : ∀ j, RelV F L (τ j) (ρ j)) {d i : Int} {x : Option X} (e : optT τ d x = some i) : optI ρ d x = some i := by
  cases x with
  | none => exact e
  | some x =>
    simp only [optT] at e
    split at e
    case h_2 => cases e
    rename_i k j hj
    injection e with e
    subst e
    simp only [optI, (inv_int h hj).1]
theorem mm_rel (h : ∀ j, RelV F L (τ j) (ρ j)) (mx : Bool) : ∀ (args : List X) {a m : Int}, mmT mx a (args.map (evT τ)) = some m → mmI mx a (args.map (ev ρ)) = some m
  | [], a, m, e => e
  | x :: args, a, m, e => by
    simp only [List.map_cons] at e ⊢
    cases hx : evT τ x <;> rw [hx] at e <;> simp only [mmT, reduceCtorEq] at e
    rw [(inv_int h hx).1]
    exact mm_rel h mx args e
/-- a part of a frozen slice -/
theorem RelS_slc {a : Option Addr} {sz : Nat} {els : List (List C)} {c l h : Nat} (hr : RelS F a sz 0 els) (hn : a = none → els = [] ∧ c = 0) (hl : l ≤ h) (hh : h ≤ els.length) (hc : els.length ≤ c) :
    RelS F (if c = l then a else a.map (·.add (l * sz))) sz 0 ((els.drop l).take (h - l)) := by
  rw [RelS_iff] at hr ⊢
  intro j es he
  rw [List.getElem?_take] at he
  split at he
  case isFalse => cases he
  rename_i hj
  rw [List.getElem?_drop] at he
  obtain ⟨vs, h1, h2, h3, h4⟩ := hr _ es he
  have hlt : l + j < els.length := (List.getElem?_eq_some_iff.1 he).1
  rw [if_neg (by omega)]
  refine ⟨vs, h1, ?_, h3, h4⟩
  obtain ⟨ad, arr, t, fr, e, hb, hsp, hv⟩ := h2
  subst e
  obtain ⟨b, o, sp⟩ := ad
  simp only at hsp
  subst hsp
  refine ⟨⟨b, o + l * sz, none⟩, arr, t, fr, by simp only [Option.map_some, add_none], hb, rfl, fun i v hi => ?_⟩
  have := hv i v hi
  simp only [Nat.zero_add, Nat.add_mul] at this ⊢
  rw [show o + l * sz + j * sz + i = o + (l * sz + j * sz) + i by omega]
  exact this
theorem pt_cells {b o j off n : Nat} {es : List C} {vs : List Value} (hp : PtB F b (o + j) off vs) : FCells F (some ⟨b, o, none⟩) j ((vs.drop off).take n) := by
  obtain ⟨base, arr, t, fr, h1, h2, h3⟩ := hp
  refine ⟨_, arr, t, fr, rfl, h1, rfl, fun i v hv => ?_⟩
  rw [List.getElem?_take] at hv
  split at hv
  case isFalse => cases hv
  rw [List.getElem?_drop] at hv
  have := h3 _ _ hv
  show arr[o + j + i]? = _
  rw [h2, Nat.add_assoc]
  exact this
theorem pures_rel {L' : Loc} {cs : List C} {vs : List Value} (hp : puresL cs = true) (h : Rels F L cs vs) : Rels F L' cs vs := by
  have leafP : ∀ (c : C) (v : Value), c.leafPure = true → Rel F L c v → Rel F L' c v := by
    intro c v hc h
    cases c <;> simp only [C.leafPure, Bool.false_eq_true] at hc <;> simp only [Rel] at h ⊢ <;> exact h
  have leavesP : ∀ (cs : List C) (vs : List Value), leavesPure cs = true → Rels F L cs vs → Rels F L' cs vs := by
    intro cs vs hc h
    rw [Rels_get] at h ⊢
    exact ⟨h.1, fun i c v h1 h2 => leafP c v (leavesPure_iff.1 hc c (List.mem_of_getElem? h1)) (h.2 i c v h1 h2)⟩
  rw [Rels_get] at h ⊢
  refine ⟨h.1, fun i c v h1 h2 => ?_⟩
  have hc := puresL_iff.1 hp c (List.mem_of_getElem? h1)
  have hr := h.2 i c v h1 h2
  cases c <;> first
    | exact leafP _ _ hc hr
    | (simp only [C.pure, C.leafPure, Bool.false_eq_true] at hc; done)
    | (simp only [C.pure] at hc
       split at hc
       case h_2 => cases hc
       rename_i hfi
       simp only [Rel] at hr ⊢
       obtain ⟨fi', ca', e1, e2, e3⟩ := hr
       exact ⟨fi', ca', e1, leavesP _ _ hfi e2, leavesP _ _ hc e3⟩)
theorem slx_sl {els : List (List C)} {v : Value} (h : Rel F L (.slx els) v) : Rel F L (.sl els) v := by
  simp only [Rel] at h ⊢
  obtain ⟨a, h1, h2, sz, h3⟩ := h
  exact ⟨some a, els.length, h1, Nat.le_refl _, h2, fun e => (by cases e), sz, h3⟩
theorem can_rel {c : C} {v : Value} (h : Rel F L c v) : Rel F L c.can v := by
  cases c <;> first
    | exact h
    | exact slx_sl h
    | (simp only [Rel] at h
       subst h
       simp only [C.can, Rel]
       exact ⟨none, 0, by simp, by simp, by simp, fun _ => by simp, 0, by simp only [RelS]⟩)
theorem cans_rel {cs : List C} {vs : List Value} (h : Rels F L cs vs) : Rels F L (cs.map C.can) vs := h.map fun c _ v => can_rel
theorem canA_rel {c : C} {v : Value} (h : Rel F L c v) : Rel F L c.canA v := by
  cases c <;> first
    | exact h
    | exact can_rel (c := .nils) h
    | exact slx_sl h
    | (simp only [Rel] at h
       obtain ⟨vs, h1, h2⟩ := h
       simp only [C.canA, Rel]
       exact ⟨vs, h1, cans_rel h2⟩)
theorem relV_can {c : C} {sv : SV} (h : RelV F L c sv) : RelV F L c.can sv := by
  cases c <;> first
    | exact h
    | (obtain ⟨v, e, hr⟩ := h; exact ⟨v, e, slx_sl hr⟩)
    | (obtain ⟨v, e, hr⟩ := h; exact ⟨v, e, can_rel (c := .nils) hr⟩)
theorem inv_slc {x : X} {els : List (List C)} (h : ∀ j, RelV F L (τ j) (ρ j)) (e : (evT τ x).can = .sl els) :
    ∃ a c sz, ev ρ x = .v (.slice a els.length c) ∧ els.length ≤ c ∧ els.length ≤ maxLen ∧ (a = none → els = [] ∧ c = 0) ∧ RelS F a sz 0 els := by
  have := relV_can (ev_rel h x)
  rw [e] at this
  simp only [RelV, Rel] at this
  obtain ⟨v, h1, a, c, rfl, h2, h3, h4, sz, h5⟩ := this
  exact ⟨a, c, sz, h1, h2, h3, h4, h5⟩
theorem can_rw {c : C} {k : Nat} (e : c.can = .rw k) : c = .rw k := by cases c <;> simp only [C.can, reduceCtorEq] at e <;> exact e
theorem inv_slx {x : X} {els : List (List C)} (h : ∀ j, RelV F L (τ j) (ρ j)) (e : evT τ x = .slx els) :
    ∃ a sz, ev ρ x = .v (.slice (some a) els.length els.length) ∧ els.length ≤ maxLen ∧ RelS F (some a) sz 0 els := by
  have := ev_rel h x
  rw [e] at this
  simp only [RelV, Rel] at this
  obtain ⟨v, h1, a, rfl, h2, sz, h3⟩ := this
  exact ⟨a, sz, h1, h2, h3⟩
theorem one_can {c : C} (h : c.one = true) : c.can.one = true := by cases c <;> first | exact h | rfl
theorem ones_can {cs : List C} (h : onesL cs = true) : onesL (cs.map C.can) = true := by
  rw [onesL_iff] at h ⊢
  intro c hc
  obtain ⟨d, hd, rfl⟩ := List.mem_map.1 hc
  exact one_can (h d hd)
theorem ones_vals {cs : List C} {vs : List Value} (h : Rels F L cs vs) (ho : onesL cs = true) : ∀ u ∈ vs, u.oneCell' = true := by
  intro u hu
  obtain ⟨i, hi⟩ := List.mem_iff_getElem?.1 hu
  have hlt : i < cs.length := by rw [← h.len]; exact (List.getElem?_eq_some_iff.1 hi).1
  have hr := h.at (List.getElem?_eq_getElem hlt) hi
  exact hr.one (onesL_iff.1 ho _ (List.getElem_mem hlt))
theorem ones_of : ∀ {vs : List Value}, (∀ u ∈ vs, u.oneCell' = true) → ones? vs = true
  | [], _ => rfl
  | v :: vs, h => by simp only [ones?, h v (by simp)]; exact ones_of fun u hu => h u (by simp [hu])
end
end Go.Fr.T
