/- What a tree of data says of the machine's values. -/
import Derived.Test.YtgapnemcomkomaaTlDefs
set_option linter.unusedVariables false
set_option linter.unusedSimpArgs false
namespace Go.Fr.T
open Go Go.RowKit Go.Fr

/-- cells at a place of a frozen block -/
def PtB (F : Frz) (b o off : Nat) (vs : List Value) : Prop :=
  ∃ base arr t fr, F b = some (.cells arr t fr) ∧ o = base + off ∧ ∀ (i : Nat) (v : Value), vs[i]? = some v → arr[base + i]? = some v

mutual
def Rel (F : Frz) : Loc → C → Value → Prop
  | _, .int k n, v => v = .int k n ∧ (Lit.int k n).wf = true
  | _, .bool b, v => v = .bool b
  | _, .str s, v => v = .string s ∧ s.size ≤ maxLen
  | _, .sl els, v => ∃ a c, v = .slice a els.length c ∧ els.length ≤ c ∧ els.length ≤ maxLen ∧ (a = none → els = [] ∧ c = 0) ∧ ∃ sz, RelS F a sz 0 els
  | _, .slx els, v => ∃ a, v = .slice (some a) els.length els.length ∧ els.length ≤ maxLen ∧ ∃ sz, RelS F (some a) sz 0 els
  | _, .nils, v => v = .slice none 0 0
  | L, .rw k, v => ∃ a c t sz n xs, v = .slice a n c ∧ L.get k = some (.row v t sz n xs)
  | L, .own k off, v => ∃ g t cs, L.get k = some (.box g t cs) ∧ v = .pointer (some ⟨g, off, none⟩)
  | _, .pt es off, v => ∃ b o vs, v = .pointer (some ⟨b, o, none⟩) ∧ PtB F b o off vs ∧ onesL es = true ∧ Rels F [] es vs
  | L, .fn f fi ca, v => ∃ fi' ca', v = .func (.func f) fi'.toArray ca'.toArray ∧ Rels F L fi fi' ∧ Rels F L ca ca'
  | L, .agg cs, v => ∃ vs, v = .agg vs.toArray ∧ Rels F L cs vs
  | L, .tup cs, v => ∃ vs, v = .tuple vs.toArray ∧ Rels F L cs vs
  | _, .nilp, v => v = .pointer none
  | _, .nilf, v => v = .nilFunc
  | _, .und, v => v = undef
  | _, .any, _ => True
  | _, .ownv _ _, _ => False
  | _, .elr _ _ _, _ => False
def Rels (F : Frz) : Loc → List C → List Value → Prop
  | _, [], vs => vs = []
  | L, c :: cs, vs => ∃ v vs', vs = v :: vs' ∧ Rel F L c v ∧ Rels F L cs vs'
def RelS (F : Frz) (a : Option Addr) (sz : Nat) : Nat → List (List C) → Prop
  | _, [] => True
  | i, es :: l => (∃ vs, vs.length = sz ∧ FCells F a (i * sz) vs ∧ onesL es = true ∧ Rels F [] es vs) ∧ RelS F a sz (i + 1) l
end

/-- the cells of a row, element by element -/
def RelRow (F : Frz) (sz : Nat) : List (List C) → List Value → Prop
  | [], xs => xs = []
  | es :: l, xs => ∃ vs xs', xs = vs ++ xs' ∧ vs.length = sz ∧ onesL es = true ∧ Rels F [] es vs ∧ RelRow F sz l xs'
def RelO (F : Frz) (L : Loc) : TO → Own → Prop
  | .box t cs, .box g t' vs => t = t' ∧ Rels F L cs vs
  | .row t sz els, .row v t' sz' n xs => t = t' ∧ sz = sz' ∧ n = els.length ∧ (n ≤ maxLen ∧ ∃ a c, v = .slice a n c ∧ (a = none → n = 0)) ∧ RelRow F sz els xs
  | _, _ => False
def RelK (F : Frz) (L : Loc) : Option TO → Option Own → Prop
  | none, none => True
  | some to, some o => RelO F L to o
  | _, _ => False
def RelTL (F : Frz) (L : Loc) (M : TL) : Prop := ∀ k, RelK F L (M.get k) (L.get k)
/-- a slot -/
def RelV (F : Frz) (L : Loc) : C → SV → Prop
  | .own k off, sv => sv = .own k off ∧ ∃ g t cs, L.get k = some (.box g t cs)
  | .pt es off, sv => ∃ b o j vs, (sv = .v (.pointer (some ⟨b, o, none⟩)) ∧ j = 0 ∨ sv = .el (some ⟨b, o, none⟩) j) ∧ PtB F b (o + j) off vs ∧ onesL es = true ∧ Rels F [] es vs
  | .elr k j off, sv => ∃ ad t sz n c xs, sv = .el (some ad) (j * sz + off) ∧ L.get k = some (.row (.slice (some ad) n c) t sz n xs)
  | .ownv k off, sv => ∃ v, sv = .v v ∧ Rel F L (.own k off) v
  | .any, _ => True
  | c, sv => ∃ v, sv = .v v ∧ Rel F L c v
/-- the boxes that were handed over stay where they are -/
def Kp (G : Nat → Option (Nat × TypeId)) (L : Loc) : Prop := ∀ k g t, G k = some (g, t) → ∃ cs, L.get k = some (.box g t cs)
structure TS (G : Nat → Option (Nat × TypeId)) (F : Frz) (L : Loc) (ρ : Env) (M : TL) (τ : TEnv) : Prop where
  tl : RelTL F L M
  env : ∀ j, RelV F L (τ j) (ρ j)
  kp : Kp G L

/- what a relation hangs on -/
def Own.like : Own → Own → Prop
  | .box g _ _, .box g' _ _ => g = g'
  | .row v _ sz n _, .row v' _ sz' n' _ => v = v' ∧ sz = sz' ∧ n = n'
  | _, _ => False
theorem Own.like_refl : ∀ o : Own, Own.like o o
  | .box .. => rfl
  | .row .. => ⟨rfl, rfl, rfl⟩

theorem PtB.mono {F F' : Frz} (h : F.le F') {b o off : Nat} {vs : List Value} (c : PtB F b o off vs) : PtB F' b o off vs := by
  obtain ⟨base, arr, t, fr, h1, h2⟩ := c
  exact ⟨base, arr, t, fr, h _ _ h1, h2⟩
mutual
theorem Rel.mono {F F' : Frz} (h : F.le F') : ∀ {L : Loc} {c : C} {v : Value}, Rel F L c v → Rel F' L c v
  | _, .int k n, v, r => r
  | _, .bool b, v, r => r
  | _, .str s, v, r => r
  | _, .sl els, v, r => by
    simp only [Rel] at r ⊢
    obtain ⟨a, c, h1, h2, h3, h4, sz, h5⟩ := r
    exact ⟨a, c, h1, h2, h3, h4, sz, RelS.mono h h5⟩
  | _, .slx els, v, r => by
    simp only [Rel] at r ⊢
    obtain ⟨a, h1, h2, sz, h5⟩ := r
    exact ⟨a, h1, h2, sz, RelS.mono h h5⟩
  | _, .nils, v, r => r
  | L, .rw k, v, r => by simp only [Rel] at r ⊢; exact r
  | L, .own k off, v, r => by simp only [Rel] at r ⊢; exact r
  | _, .pt es off, v, r => by
    simp only [Rel] at r ⊢
    obtain ⟨b, o, vs, h1, h2, h3, h4⟩ := r
    exact ⟨b, o, vs, h1, h2.mono h, h3, Rels.mono h h4⟩
  | L, .fn f fi ca, v, r => by
    simp only [Rel] at r ⊢
    obtain ⟨fi', ca', h1, h2, h3⟩ := r
    exact ⟨fi', ca', h1, Rels.mono h h2, Rels.mono h h3⟩
  | L, .agg cs, v, r => by
    simp only [Rel] at r ⊢
    obtain ⟨vs, h1, h2⟩ := r
    exact ⟨vs, h1, Rels.mono h h2⟩
  | L, .tup cs, v, r => by
    simp only [Rel] at r ⊢
    obtain ⟨vs, h1, h2⟩ := r
    exact ⟨vs, h1, Rels.mono h h2⟩
  | _, .nilp, v, r => r
  | _, .nilf, v, r => r
  | _, .und, v, r => r
  | _, .any, v, r => trivial
  | _, .ownv _ _, v, r => r
  | _, .elr _ _ _, v, r => r
theorem Rels.mono {F F' : Frz} (h : F.le F') : ∀ {L : Loc} {cs : List C} {vs : List Value}, Rels F L cs vs → Rels F' L cs vs
  | _, [], vs, r => by simp only [Rels] at r ⊢; exact r
  | L, c :: cs, vs, r => by
    simp only [Rels] at r ⊢
    obtain ⟨v, vs', h1, h2, h3⟩ := r
    exact ⟨v, vs', h1, Rel.mono h h2, Rels.mono h h3⟩
theorem RelS.mono {F F' : Frz} (h : F.le F') {a : Option Addr} {sz : Nat} : ∀ {i : Nat} {l : List (List C)}, RelS F a sz i l → RelS F' a sz i l
  | _, [], r => by simp only [RelS]
  | i, es :: l, r => by
    simp only [RelS] at r ⊢
    obtain ⟨⟨vs, h1, h2, h3, h4⟩, h5⟩ := r
    exact ⟨⟨vs, h1, h2.mono h, h3, Rels.mono h h4⟩, RelS.mono h h5⟩
end
theorem RelRow.mono {F F' : Frz} (h : F.le F') {sz : Nat} : ∀ {l : List (List C)} {xs : List Value}, RelRow F sz l xs → RelRow F' sz l xs
  | [], xs, r => r
  | es :: l, xs, r => by
    simp only [RelRow] at r ⊢
    obtain ⟨vs, xs', h1, h2, h3, h4, h5⟩ := r
    exact ⟨vs, xs', h1, h2, h3, h4.mono h, RelRow.mono h h5⟩
theorem RelO.mono {F F' : Frz} (h : F.le F') {L : Loc} : ∀ {o : TO} {p : Own}, RelO F L o p → RelO F' L o p
  | .box t cs, .box g t' vs, r => ⟨r.1, r.2.mono h⟩
  | .row t sz els, .row v t' sz' n xs, r => ⟨r.1, r.2.1, r.2.2.1, r.2.2.2.1, r.2.2.2.2.mono h⟩
  | .box _ _, .row .., r => r.elim
  | .row .., .box .., r => r.elim
theorem RelTL.mono {F F' : Frz} (h : F.le F') {L : Loc} {M : TL} (r : RelTL F L M) : RelTL F' L M := by
  intro k
  have := r k
  revert this
  cases M.get k <;> cases L.get k <;> simp only [RelK] <;> first | exact fun h => h | exact fun r => r.mono h
theorem RelV.mono {F F' : Frz} (h : F.le F') {L : Loc} {c : C} {sv : SV} (r : RelV F L c sv) : RelV F' L c sv := by
  cases c <;> simp only [RelV] at r ⊢
  case own => exact r
  case pt =>
    obtain ⟨b, o, j, vs, h1, h2, h3, h4⟩ := r
    exact ⟨b, o, j, vs, h1, h2.mono h, h3, h4.mono h⟩
  case elr => exact r
  all_goals
    obtain ⟨v, h1, h2⟩ := r
    exact ⟨v, h1, h2.mono h⟩

theorem Rels_get {F : Frz} {L : Loc} : ∀ {cs : List C} {vs : List Value}, Rels F L cs vs ↔ vs.length = cs.length ∧ ∀ (i : Nat) c v, cs[i]? = some c → vs[i]? = some v → Rel F L c v
  | [], vs => by
    simp only [Rels]
    constructor
    · rintro rfl; simp
    · rintro ⟨h, _⟩; exact List.length_eq_zero_iff.1 (by simpa using h)
  | c :: cs, vs => by
    simp only [Rels, Rels_get (cs := cs)]
    constructor
    · rintro ⟨v, vs', rfl, h1, h2, h3⟩
      refine ⟨by simp [h2], fun i c' v' hc hv => ?_⟩
      cases i with
      | zero => simp only [List.getElem?_cons_zero, Option.some.injEq] at hc hv; subst hc hv; exact h1
      | succ i => exact h3 i c' v' (by simpa using hc) (by simpa using hv)
    · rintro ⟨h1, h2⟩
      match vs, h1 with
      | v :: vs', h1 => exact ⟨v, vs', rfl, h2 0 c v (by simp) (by simp), by simpa using h1, fun i c' v' hc hv => h2 (i + 1) c' v' (by simpa using hc) (by simpa using hv)⟩
theorem Rels.len {F : Frz} {L : Loc} {cs : List C} {vs : List Value} (h : Rels F L cs vs) : vs.length = cs.length := (Rels_get.1 h).1
theorem Rels.at {F : Frz} {L : Loc} {cs : List C} {vs : List Value} (h : Rels F L cs vs) {i : Nat} {c : C} {v : Value} (hc : cs[i]? = some c) (hv : vs[i]? = some v) : Rel F L c v := (Rels_get.1 h).2 i c v hc hv
theorem Rels.append {F : Frz} {L : Loc} {cs ds : List C} {vs us : List Value} (h : Rels F L cs vs) (k : Rels F L ds us) : Rels F L (cs ++ ds) (vs ++ us) := by
  induction cs generalizing vs with
  | nil => simp only [Rels] at h; subst h; exact k
  | cons c cs ih =>
    simp only [Rels] at h
    obtain ⟨v, vs', rfl, h1, h2⟩ := h
    simp only [List.cons_append, Rels]
    exact ⟨v, _, rfl, h1, ih h2⟩
theorem Rels.drop {F : Frz} {L : Loc} {cs : List C} {vs : List Value} (h : Rels F L cs vs) (n : Nat) : Rels F L (cs.drop n) (vs.drop n) := by
  rw [Rels_get] at h ⊢
  refine ⟨by simp [h.1], fun i c v hc hv => ?_⟩
  rw [List.getElem?_drop] at hc hv
  exact h.2 _ _ _ hc hv
theorem Rels.take {F : Frz} {L : Loc} {cs : List C} {vs : List Value} (h : Rels F L cs vs) (n : Nat) : Rels F L (cs.take n) (vs.take n) := by
  rw [Rels_get] at h ⊢
  refine ⟨by simp [h.1], fun i c v hc hv => ?_⟩
  rw [List.getElem?_take] at hc hv
  split at hc
  · rw [if_pos (by assumption)] at hv; exact h.2 _ _ _ hc hv
  · cases hc
theorem RelS_iff {F : Frz} {a : Option Addr} {sz : Nat} : ∀ {l : List (List C)} {i : Nat}, RelS F a sz i l ↔ ∀ (j : Nat) es, l[j]? = some es → ∃ vs, vs.length = sz ∧ FCells F a ((i + j) * sz) vs ∧ onesL es = true ∧ Rels F [] es vs
  | [], i => by simp [RelS]
  | x :: l, i => by
    simp only [RelS, RelS_iff (l := l)]
    constructor
    · rintro ⟨h1, h2⟩ j y hy
      cases j with
      | zero => simp only [List.getElem?_cons_zero, Option.some.injEq] at hy; subst hy; simpa using h1
      | succ j =>
        simp only [List.getElem?_cons_succ] at hy
        have := h2 j y hy
        rwa [show i + 1 + j = i + (j + 1) by omega] at this
    · intro h
      refine ⟨by simpa using h 0 x (by simp), fun j y hy => ?_⟩
      have := h (j + 1) y (by simpa using hy)
      rwa [show i + (j + 1) = i + 1 + j by omega] at this
theorem RelRow_len {F : Frz} {sz : Nat} : ∀ {l : List (List C)} {xs : List Value}, RelRow F sz l xs → xs.length = l.length * sz
  | [], xs, h => by simp only [RelRow] at h; subst h; simp
  | es :: l, xs, h => by
    simp only [RelRow] at h
    obtain ⟨vs, xs', rfl, h2, _, _, h5⟩ := h
    simp only [List.length_append, RelRow_len h5, h2, List.length_cons, Nat.add_mul]
    omega
theorem RelRow.append {F : Frz} {sz : Nat} : ∀ {l m : List (List C)} {xs ys : List Value}, RelRow F sz l xs → RelRow F sz m ys → RelRow F sz (l ++ m) (xs ++ ys)
  | [], m, xs, ys, h, k => by simp only [RelRow] at h; subst h; exact k
  | es :: l, m, xs, ys, h, k => by
    simp only [RelRow] at h
    obtain ⟨vs, xs', rfl, h2, h3, h4, h5⟩ := h
    simp only [List.cons_append, RelRow]
    exact ⟨vs, xs' ++ ys, by simp, h2, h3, h4, RelRow.append h5 k⟩
theorem RelRow.at {F : Frz} {sz : Nat} : ∀ {l : List (List C)} {xs : List Value}, RelRow F sz l xs → ∀ {j : Nat} {es : List C}, l[j]? = some es → ∃ vs, vs.length = sz ∧ onesL es = true ∧ Rels F [] es vs ∧ ∀ (i : Nat) v, vs[i]? = some v → xs[j * sz + i]? = some v
  | [], xs, h, j, es, e => by simp at e
  | x :: l, xs, h, j, es, e => by
    simp only [RelRow] at h
    obtain ⟨vs, xs', rfl, h2, h3, h4, h5⟩ := h
    cases j with
    | zero =>
      simp only [List.getElem?_cons_zero, Option.some.injEq] at e
      subst e
      refine ⟨vs, h2, h3, h4, fun i v hv => ?_⟩
      have : i < vs.length := (List.getElem?_eq_some_iff.1 hv).1
      rw [Nat.zero_mul, Nat.zero_add, List.getElem?_append_left this]
      exact hv
    | succ j =>
      obtain ⟨us, k1, k2, k3, k4⟩ := RelRow.at h5 (by simpa using e)
      refine ⟨us, k1, k2, k3, fun i v hv => ?_⟩
      rw [List.getElem?_append_right (by rw [h2, Nat.add_mul]; omega), show (j + 1) * sz + i - vs.length = j * sz + i by rw [h2, Nat.add_mul]; omega]
      exact k4 i v hv
/-- a row that is given up is a frozen slice -/
theorem RelRow.frz {F : Frz} {sz : Nat} {l : List (List C)} {xs : List Value} (h : RelRow F sz l xs) {a : Addr} (hf : FCells F (some a) 0 xs) : RelS F (some a) sz 0 l := by
  rw [RelS_iff]
  intro j es he
  obtain ⟨vs, h1, h2, h3, h4⟩ := h.at he
  refine ⟨vs, h1, ?_, h2, h3⟩
  obtain ⟨ad, arr, t, fr, e, hb, hsp, hc⟩ := hf
  refine ⟨ad, arr, t, fr, e, hb, hsp, fun i v hv => ?_⟩
  have := hc (j * sz + i) v (h4 i v hv)
  simpa [Nat.add_assoc] using this
theorem onesL_iff : ∀ {l : List C}, onesL l = true ↔ ∀ c ∈ l, c.one = true
  | [] => by simp [onesL]
  | c :: l => by
    simp only [onesL]
    cases h : c.one
    · simp [h]
    · simp [h, onesL_iff]
theorem puresL_iff : ∀ {l : List C}, puresL l = true ↔ ∀ c ∈ l, c.pure = true
  | [] => by simp [puresL]
  | c :: l => by
    simp only [puresL]
    cases h : c.pure
    · simp [h]
    · simp [h, puresL_iff]
theorem leavesPure_iff : ∀ {l : List C}, leavesPure l = true ↔ ∀ c ∈ l, c.leafPure = true
  | [] => by simp [leavesPure]
  | c :: l => by
    simp only [leavesPure]
    cases h : c.leafPure
    · simp [h]
    · simp [h, leavesPure_iff]
theorem Rel.one {F : Frz} {L : Loc} {c : C} {v : Value} (h : Rel F L c v) (hc : c.one = true) : v.oneCell' = true := by
  cases c <;> simp only [C.one, Bool.false_eq_true] at hc <;> simp only [Rel] at h
  case int => obtain ⟨rfl, _⟩ := h; rfl
  case bool => subst h; rfl
  case str => obtain ⟨rfl, _⟩ := h; rfl
  case sl => obtain ⟨a, c, rfl, _⟩ := h; rfl
  case slx => obtain ⟨a, rfl, _⟩ := h; rfl
  case nils => subst h; rfl
  case own => obtain ⟨g, t, cs, _, rfl⟩ := h; rfl
  case pt => obtain ⟨b, o, vs, rfl, _⟩ := h; rfl
  case fn => obtain ⟨a, b, rfl, _⟩ := h; rfl
  case nilp => subst h; rfl
  case nilf => subst h; rfl
  case rw => obtain ⟨a, c, t, sz, n, xs, rfl, _⟩ := h; rfl

mutual
theorem Rel.wf {F : Frz} : ∀ {L : Loc} {c : C} {v : Value}, Rel F L c v → Wf c
  | _, .int k n, v, r => by simp only [Rel] at r; simp only [Wf]; exact r.2
  | _, .bool b, v, r => by simp only [Wf]
  | _, .str s, v, r => by simp only [Rel] at r; simp only [Wf]; exact r.2
  | _, .sl els, v, r => by
    simp only [Rel] at r
    obtain ⟨a, c, h1, h2, h3, h4, sz, h5⟩ := r
    simp only [Wf]
    exact ⟨h3, RelS.wf h5⟩
  | _, .slx els, v, r => by
    simp only [Rel] at r
    obtain ⟨a, h1, h2, sz, h5⟩ := r
    simp only [Wf]
    exact ⟨h2, RelS.wf h5⟩
  | _, .nils, v, r => by simp only [Wf]
  | L, .rw k, v, r => by simp only [Wf]
  | L, .own k off, v, r => by simp only [Wf]
  | _, .pt es off, v, r => by
    simp only [Rel] at r
    obtain ⟨b, o, vs, h1, h2, h3, h4⟩ := r
    simp only [Wf]
    exact Rels.wf h4
  | L, .fn f fi ca, v, r => by
    simp only [Rel] at r
    obtain ⟨fi', ca', h1, h2, h3⟩ := r
    simp only [Wf]
    exact ⟨Rels.wf h2, Rels.wf h3⟩
  | L, .agg cs, v, r => by
    simp only [Rel] at r
    obtain ⟨vs, h1, h2⟩ := r
    simp only [Wf]
    exact Rels.wf h2
  | L, .tup cs, v, r => by
    simp only [Rel] at r
    obtain ⟨vs, h1, h2⟩ := r
    simp only [Wf]
    exact Rels.wf h2
  | _, .nilp, v, r => by simp only [Wf]
  | _, .nilf, v, r => by simp only [Wf]
  | _, .und, v, r => by simp only [Wf]
  | _, .any, v, r => by simp only [Wf]
  | _, .ownv _ _, v, r => by simp only [Wf]
  | _, .elr _ _ _, v, r => by simp only [Wf]
theorem Rels.wf {F : Frz} : ∀ {L : Loc} {cs : List C} {vs : List Value}, Rels F L cs vs → WfS cs
  | _, [], vs, r => by simp only [WfS]
  | L, c :: cs, vs, r => by
    simp only [Rels] at r
    obtain ⟨v, vs', h1, h2, h3⟩ := r
    simp only [WfS]
    exact ⟨Rel.wf h2, Rels.wf h3⟩
theorem RelS.wf {F : Frz} {a : Option Addr} {sz : Nat} : ∀ {i : Nat} {l : List (List C)}, RelS F a sz i l → WfSS l
  | _, [], r => by simp only [WfSS]
  | i, es :: l, r => by
    simp only [RelS] at r
    obtain ⟨⟨vs, h1, h2, h3, h4⟩, h5⟩ := r
    simp only [WfSS]
    exact ⟨Rels.wf h4, RelS.wf h5⟩
end
theorem RelRow.wf {F : Frz} {sz : Nat} : ∀ {l : List (List C)} {xs : List Value}, RelRow F sz l xs → WfSS l
  | [], xs, r => by simp only [WfSS]
  | es :: l, xs, r => by
    simp only [RelRow] at r
    obtain ⟨vs, xs', h1, h2, h3, h4, h5⟩ := r
    simp only [WfSS]
    exact ⟨h4.wf, h5.wf⟩
theorem RelO.wf {F : Frz} {L : Loc} : ∀ {o : TO} {p : Own}, RelO F L o p → o.Wf
  | .box t cs, .box g t' vs, r => r.2.wf
  | .row t sz els, .row v t' sz' n xs, r => r.2.2.2.2.wf
  | .box _ _, .row .., r => r.elim
  | .row .., .box .., r => r.elim

/- a tree whose leaves turn -/
def C.leaf : C → Bool
  | .fn _ _ _ => false
  | .agg _ => false
  | .tup _ => false
  | _ => true
theorem mp_leaf {g : C → C} {n : Nat} {c : C} (h : c.leaf = true) : C.mp g n c = g c := by
  cases c <;> first | (cases n <;> rfl; done) | cases h
theorem Rels.map {F F' : Frz} {L L' : Loc} {g : C → C} : ∀ {cs : List C} {vs : List Value}, (∀ c ∈ cs, ∀ v, Rel F L c v → Rel F' L' (g c) v) → Rels F L cs vs → Rels F' L' (cs.map g) vs
  | [], vs, hg, h => by simp only [Rels] at h; subst h; simp only [List.map_nil, Rels]
  | c :: cs, vs, hg, h => by
    simp only [Rels] at h
    obtain ⟨v, vs', rfl, h1, h2⟩ := h
    simp only [List.map_cons, Rels]
    exact ⟨v, vs', rfl, hg c (by simp) v h1, Rels.map (fun c hc => hg c (by simp [hc])) h2⟩
theorem Rel.mp {F F' : Frz} {L L' : Loc} {g : C → C} (hg : ∀ c v, c.leaf = true → Rel F L c v → Rel F' L' (g c) v) : ∀ (n : Nat) {c : C} {v : Value}, Rel F L c v → Rel F' L' (C.mp g n c) v
  | 0, c, v, h => by
    cases hc : c.leaf
    · cases c <;> simp only [C.leaf, Bool.true_eq_false] at hc <;> simp only [C.mp, Rel]
    · rw [mp_leaf hc]; exact hg c v hc h
  | n + 1, c, v, h => by
    cases hc : c.leaf
    · cases c <;> simp only [C.leaf, Bool.true_eq_false] at hc <;> simp only [Rel] at h <;> simp only [C.mp, Rel]
      · obtain ⟨fi', ca', h1, h2, h3⟩ := h
        exact ⟨fi', ca', h1, h2.map fun c _ v => Rel.mp hg n, h3.map fun c _ v => Rel.mp hg n⟩
      · obtain ⟨vs, h1, h2⟩ := h
        exact ⟨vs, h1, h2.map fun c _ v => Rel.mp hg n⟩
      · obtain ⟨vs, h1, h2⟩ := h
        exact ⟨vs, h1, h2.map fun c _ v => Rel.mp hg n⟩
    · rw [mp_leaf hc]; exact hg c v hc h
theorem RelV.mp {F F' : Frz} {L L' : Loc} {g : C → C} (hg : ∀ c v, c.leaf = true → Rel F L c v → Rel F' L' (g c) v) (hs : ∀ c sv, c.leaf = true → RelV F L c sv → RelV F' L' (g c) sv) (n : Nat) {c : C} {sv : SV}
    (h : RelV F L c sv) : RelV F' L' (C.mp g n c) sv := by
  cases hc : c.leaf
  · have h' : ∃ v, sv = .v v ∧ Rel F L c v := by cases c <;> simp only [C.leaf, Bool.true_eq_false] at hc <;> exact h
    obtain ⟨v, rfl, h1⟩ := h'
    have h2 := Rel.mp hg n h1
    cases n with
    | zero => cases c <;> simp only [C.leaf, Bool.true_eq_false] at hc <;> simp only [C.mp, RelV]
    | succ n => cases c <;> simp only [C.leaf, Bool.true_eq_false] at hc <;> exact ⟨v, rfl, h2⟩
  · rw [mp_leaf hc]; exact hs c sv hc h

/-- nothing but the contents of own blocks has turned -/
def Ext (L L' : Loc) : Prop := ∀ k o, L.get k = some o → ∃ o', L'.get k = some o' ∧ Own.like o o'
theorem Ext.refl (L : Loc) : Ext L L := fun k o h => ⟨o, h, Own.like_refl o⟩
theorem rel_leaf {F F' : Frz} {L L' : Loc} (hF : F.le F') {c : C} {v : Value} (hk : ∀ k, (∃ off, c = .own k off) ∨ c = .rw k → ∀ o, L.get k = some o → ∃ o', L'.get k = some o' ∧ Own.like o o') (hc : c.leaf = true) (h : Rel F L c v) : Rel F' L' c v := by
  cases c <;> simp only [C.leaf, Bool.false_eq_true] at hc
  case rw k =>
    simp only [Rel] at h ⊢
    obtain ⟨a, c, t, sz, n, xs, rfl, h⟩ := h
    obtain ⟨o', h1, h2⟩ := hk k (.inr rfl) _ h
    cases o' with
    | box => exact h2.elim
    | row v' t' sz' n' xs' => obtain ⟨rfl, rfl, rfl⟩ := h2; exact ⟨_, _, _, _, _, _, rfl, h1⟩
  case own k off =>
    simp only [Rel] at h ⊢
    obtain ⟨g, t, cs, h, rfl⟩ := h
    obtain ⟨o', h1, h2⟩ := hk k (.inl ⟨off, rfl⟩) _ h
    cases o' with
    | row => exact h2.elim
    | box g' t' cs' => obtain rfl := h2; exact ⟨_, _, _, h1, rfl⟩
  case sl =>
    simp only [Rel] at h ⊢
    obtain ⟨a, c, h1, h2, h3, h4, sz, h5⟩ := h
    exact ⟨a, c, h1, h2, h3, h4, sz, h5.mono hF⟩
  case slx =>
    simp only [Rel] at h ⊢
    obtain ⟨a, h1, h2, sz, h5⟩ := h
    exact ⟨a, h1, h2, sz, h5.mono hF⟩
  case pt =>
    simp only [Rel] at h ⊢
    obtain ⟨b, o, vs, h1, h2, h3, h4⟩ := h
    exact ⟨b, o, vs, h1, h2.mono hF, h3, h4.mono hF⟩
  all_goals
    first
      | exact h
      | (simp only [Rel] at h ⊢; done)
mutual
theorem Rel.ext {F F' : Frz} (hF : F.le F') {L L' : Loc} (hk : Ext L L') : ∀ {c : C} {v : Value}, Rel F L c v → Rel F' L' c v
  | .fn f fi ca, v, r => by
    simp only [Rel] at r ⊢
    obtain ⟨fi', ca', h1, h2, h3⟩ := r
    exact ⟨fi', ca', h1, Rels.ext hF hk h2, Rels.ext hF hk h3⟩
  | .agg cs, v, r => by
    simp only [Rel] at r ⊢
    obtain ⟨vs, h1, h2⟩ := r
    exact ⟨vs, h1, Rels.ext hF hk h2⟩
  | .tup cs, v, r => by
    simp only [Rel] at r ⊢
    obtain ⟨vs, h1, h2⟩ := r
    exact ⟨vs, h1, Rels.ext hF hk h2⟩
  | .int _ _, v, r => rel_leaf hF (fun k _ => hk k) rfl r
  | .bool _, v, r => rel_leaf hF (fun k _ => hk k) rfl r
  | .str _, v, r => rel_leaf hF (fun k _ => hk k) rfl r
  | .sl _, v, r => rel_leaf hF (fun k _ => hk k) rfl r
  | .slx _, v, r => rel_leaf hF (fun k _ => hk k) rfl r
  | .nils, v, r => rel_leaf hF (fun k _ => hk k) rfl r
  | .rw _, v, r => rel_leaf hF (fun k _ => hk k) rfl r
  | .own _ _, v, r => rel_leaf hF (fun k _ => hk k) rfl r
  | .pt _ _, v, r => rel_leaf hF (fun k _ => hk k) rfl r
  | .nilp, v, r => rel_leaf hF (fun k _ => hk k) rfl r
  | .nilf, v, r => rel_leaf hF (fun k _ => hk k) rfl r
  | .und, v, r => rel_leaf hF (fun k _ => hk k) rfl r
  | .any, v, r => by simp only [Rel]
  | .ownv _ _, v, r => r.elim
  | .elr _ _ _, v, r => r.elim
theorem Rels.ext {F F' : Frz} (hF : F.le F') {L L' : Loc} (hk : Ext L L') : ∀ {cs : List C} {vs : List Value}, Rels F L cs vs → Rels F' L' cs vs
  | [], vs, r => by simp only [Rels] at r ⊢; exact r
  | c :: cs, vs, r => by
    simp only [Rels] at r ⊢
    obtain ⟨v, vs', h1, h2, h3⟩ := r
    exact ⟨v, vs', h1, Rel.ext hF hk h2, Rels.ext hF hk h3⟩
end
theorem Ext.nil (L : Loc) : Ext [] L := fun k o h => by cases h
theorem Rels.lift {F : Frz} {L : Loc} {cs : List C} {vs : List Value} (h : Rels F [] cs vs) : Rels F L cs vs := h.ext (Frz.le_refl F) (Ext.nil L)
theorem Rel.lift {F : Frz} {L : Loc} {c : C} {v : Value} (h : Rel F [] c v) : Rel F L c v := h.ext (Frz.le_refl F) (Ext.nil L)
theorem relV_leaf {F F' : Frz} {L L' : Loc} (hF : F.le F') {c : C} {sv : SV} (hk : ∀ k, (∃ off, c = .own k off) ∨ (∃ off, c = .ownv k off) ∨ c = .rw k ∨ (∃ j off, c = .elr k j off) → ∀ o, L.get k = some o → ∃ o', L'.get k = some o' ∧ Own.like o o') (hc : c.leaf = true) (h : RelV F L c sv) : RelV F' L' c sv := by
  cases c <;> simp only [C.leaf, Bool.false_eq_true] at hc
  case own k off =>
    simp only [RelV] at h ⊢
    obtain ⟨rfl, g, t, cs, h⟩ := h
    obtain ⟨o', h1, h2⟩ := hk k (.inl ⟨off, rfl⟩) _ h
    cases o' with
    | row => exact h2.elim
    | box g' t' cs' => exact ⟨rfl, _, _, _, h1⟩
  case ownv k off =>
    simp only [RelV] at h ⊢
    obtain ⟨v, rfl, h⟩ := h
    refine ⟨v, rfl, rel_leaf hF (fun k' hk' => hk k' ?_) rfl h⟩
    rcases hk' with ⟨off', e⟩ | e
    · injection e with e1 e2; subst e1; exact .inr (.inl ⟨off, rfl⟩)
    · cases e
  case pt =>
    simp only [RelV] at h ⊢
    obtain ⟨b, o, j, vs, h1, h2, h3, h4⟩ := h
    exact ⟨b, o, j, vs, h1, h2.mono hF, h3, h4.mono hF⟩
  case elr k j off =>
    simp only [RelV] at h ⊢
    obtain ⟨ad, t, sz, n, c, xs, rfl, h⟩ := h
    obtain ⟨o', h1, h2⟩ := hk k (.inr (.inr (.inr ⟨_, _, rfl⟩))) _ h
    cases o' with
    | box => exact h2.elim
    | row v' t' sz' n' xs' =>
      obtain ⟨rfl, rfl, rfl⟩ := h2
      exact ⟨_, _, _, _, _, _, rfl, h1⟩
  all_goals first | (simp only [RelV]; done) | skip
  all_goals
    simp only [RelV] at h ⊢
    obtain ⟨v, rfl, h⟩ := h
    refine ⟨v, rfl, rel_leaf hF (fun k' hk' => hk k' ?_) rfl h⟩
    rcases hk' with ⟨off', e⟩ | e
    · cases e
    · first | cases e; exact .inr (.inr (.inl rfl)) | cases e
theorem RelV.ext {F F' : Frz} {L L' : Loc} (hF : F.le F') (hk : Ext L L') {c : C} {sv : SV} (h : RelV F L c sv) : RelV F' L' c sv := by
  cases hc : c.leaf
  · have h' : ∃ v, sv = .v v ∧ Rel F L c v := by cases c <;> simp only [C.leaf, Bool.true_eq_false] at hc <;> exact h
    obtain ⟨v, rfl, h1⟩ := h'
    have h2 := h1.ext hF hk
    cases c <;> simp only [C.leaf, Bool.true_eq_false] at hc <;> exact ⟨v, rfl, h2⟩
  · exact relV_leaf hF (fun k _ => hk k) hc h
theorem RelO.ext {F F' : Frz} {L L' : Loc} (hF : F.le F') (hk : Ext L L') : ∀ {o : TO} {p : Own}, RelO F L o p → RelO F' L' o p
  | .box t cs, .box g t' vs, r => ⟨r.1, r.2.ext hF hk⟩
  | .row t sz els, .row v t' sz' n xs, r => ⟨r.1, r.2.1, r.2.2.1, r.2.2.2.1, r.2.2.2.2.mono hF⟩
  | .box _ _, .row .., r => r.elim
  | .row .., .box .., r => r.elim
end Go.Fr.T
