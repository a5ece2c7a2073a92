/- The evaluator over data speaks of the evaluator over addresses: lists of own blocks, changes of state, memory. -/
import Derived.Test.YtgapnemcomkomaaTlSim2
set_option linter.unusedVariables false
set_option linter.unusedSimpArgs false
namespace Go.Fr.T
open Go Go.RowKit Go.Fr

theorem TL.get_set (L : TL) (k : Nat) (o : TO) (j : Nat) : (L.set k o).get j = if j = k then some o else L.get j := by
  induction L with
  | nil =>
    simp only [TL.set, TL.get]
    cases h : Nat.beq k j with
    | true => have := Nat.eq_of_beq_eq_true h; simp [this]
    | false => have := beq_f h; simp; omega
  | cons p l ih =>
    obtain ⟨i, q⟩ := p
    simp only [TL.set]
    cases h : Nat.beq i k with
    | true =>
      have e := Nat.eq_of_beq_eq_true h
      subst e
      simp only [TL.get]
      cases h2 : Nat.beq i j with
      | true => have := Nat.eq_of_beq_eq_true h2; simp [this]
      | false => have := beq_f h2; simp; omega
    | false =>
      have hne := beq_f h
      simp only []
      cases h3 : Nat.ble i k with
      | true =>
        simp only [TL.get]
        cases h2 : Nat.beq i j with
        | true => have := Nat.eq_of_beq_eq_true h2; simp; omega
        | false => simpa using ih
      | false =>
        simp only [TL.get]
        cases h2 : Nat.beq k j with
        | true => have := Nat.eq_of_beq_eq_true h2; simp [this]
        | false =>
          have := beq_f h2
          simp only []
          rw [if_neg (by omega)]

theorem TL.get_del (L : TL) (k j : Nat) : (L.del k).get j = if j = k then none else L.get j := by
  induction L with
  | nil => simp [TL.del, TL.get]
  | cons p l ih =>
    obtain ⟨i, q⟩ := p
    simp only [TL.del]
    cases h : Nat.beq i k with
    | true =>
      have e := Nat.eq_of_beq_eq_true h
      subst e
      simp only [TL.get, ih]
      by_cases hj : j = i
      · simp [hj]
      · have : Nat.beq i j = false := by cases h2 : Nat.beq i j with | true => exact absurd (Nat.eq_of_beq_eq_true h2).symm hj | false => rfl
        simp [hj, this]
    | false =>
      have hne := beq_f h
      simp only [TL.get]
      cases h2 : Nat.beq i j with
      | true => have := Nat.eq_of_beq_eq_true h2; simp; omega
      | false => simpa using ih

theorem tinpFrom_get : ∀ (l : List TO) (k j : Nat), TL.get (tinpFrom k l) j = if k ≤ j then l[j - k]? else none
  | [], k, j => by simp [tinpFrom, TL.get]
  | o :: l, k, j => by
    simp only [tinpFrom, TL.get]
    cases h : Nat.beq k j with
    | true => have := Nat.eq_of_beq_eq_true h; subst this; simp
    | false =>
      have hne := beq_f h
      simp only [tinpFrom_get l (k + 1) j]
      by_cases h1 : k ≤ j
      · rw [if_pos (by omega), if_pos h1, show j - k = (j - (k + 1)) + 1 by omega, List.getElem?_cons_succ]
      · rw [if_neg (by omega), if_neg h1]
theorem tinp_get (l : List TO) (j : Nat) : TL.get (tinp l) j = if 1000 ≤ j then l[j - 1000]? else none := tinpFrom_get l 1000 j

theorem tsub_get : ∀ {L : TL} {ks : List Nat} {l : List TO}, L.sub ks = some l → l.length = ks.length ∧ ∀ (i : Nat) (k : Nat), ks[i]? = some k → L.get k = l[i]?
  | L, [], l, h => by simp only [TL.sub, Option.some.injEq] at h; subst h; simp
  | L, k :: ks, l, h => by
    simp only [TL.sub] at h
    split at h
    case h_2 => cases h
    rename_i o l' h1 h2
    injection h with h
    subst h
    obtain ⟨e1, e2⟩ := tsub_get h2
    refine ⟨by simp [e1], fun i k' hi => ?_⟩
    cases i with
    | zero => simp at hi; subst hi; simpa using h1
    | succ i => simp at hi; simpa using e2 i k' hi

theorem tdels_get : ∀ (ks : List Nat) (L : TL) (j : Nat), (L.dels ks).get j = if j ∈ ks then none else L.get j
  | [], L, j => by simp [TL.dels]
  | k :: ks, L, j => by
    simp only [TL.dels, tdels_get ks, TL.get_del, List.mem_cons]
    by_cases h1 : j = k <;> by_cases h2 : j ∈ ks <;> simp [h1, h2]

theorem tputs_get : ∀ (ko : List Nat) (l : List TO) (L : TL) (j : Nat), ko.Nodup → ko.length = l.length →
    ((L.puts ko l).get j = L.get j ∧ j ∉ ko) ∨ ∃ i, ko[i]? = some j ∧ (L.puts ko l).get j = l[i]? ∧ i < l.length
  | [], l, L, j, _, h => by
    refine .inl ⟨?_, by simp⟩
    cases l <;> rfl
  | k :: ko, [], L, j, _, h => by simp at h
  | k :: ko, o :: l, L, j, hn, h => by
    simp only [List.length_cons, Nat.add_right_cancel_iff] at h
    rw [List.nodup_cons] at hn
    simp only [TL.puts]
    rcases tputs_get ko l (L.set k o) j hn.2 h with ⟨h1, h2⟩ | ⟨i, h1, h2, h3⟩
    · rw [TL.get_set] at h1
      by_cases hj : j = k
      · subst hj
        rw [if_pos rfl] at h1
        exact .inr ⟨0, by simp, by simpa using h1, by simp⟩
      · rw [if_neg hj] at h1
        exact .inl ⟨h1, by simp [hj, h2]⟩
    · exact .inr ⟨i + 1, by simpa using h1, by simpa using h2, by simp; omega⟩


theorem mapC_get (g : C → C) : ∀ (L : TL) (k : Nat), (TL.mapC g L).get k = (L.get k).map (TO.mapC g)
  | [], k => rfl
  | (j, o) :: l, k => by
    simp only [TL.mapC, TL.get]
    cases h : Nat.beq j k with
    | true => rfl
    | false => exact mapC_get g l k

section
variable {P : Program} {G : Nat → Option (Nat × TypeId)} {F : Frz} {L : Loc} {ρ : Env} {M : TL} {τ : TEnv}

theorem tput_eq (d : Option Nat) (c : C) (τ : TEnv) (t : Nat) : tput d c τ t = match d with | some k => if t = k then c else τ t | none => τ t := by
  cases d with
  | none => rfl
  | some k =>
    simp only [tput]
    cases h : Nat.beq t k with
    | true => have := Nat.eq_of_beq_eq_true h; simp [this]
    | false => have := beq_f h; simp [this]
theorem env_put {F : Frz} {L : Loc} {τ : TEnv} {ρ : Env} (h : ∀ j, RelV F L (τ j) (ρ j)) {c : C} {sv : SV} (hc : RelV F L c sv) (d : Option Nat) : ∀ j, RelV F L (tput d c τ j) (put d sv ρ j) := by
  intro j
  rw [tput_eq, put_eq]
  cases d with
  | none => exact h j
  | some k =>
    simp only []
    split
    · exact hc
    · exact h j
theorem TS.put (ht : TS G F L ρ M τ) {c : C} {sv : SV} (hc : RelV F L c sv) (d : Option Nat) : TS G F L (put d sv ρ) M (tput d c τ) := ⟨ht.tl, env_put ht.env hc d, ht.kp⟩
theorem relK_get {F : Frz} {L : Loc} {a : Option TO} {b : Option Own} (h : RelK F L a b) : (a = none ∧ b = none) ∨ ∃ o p, a = some o ∧ b = some p ∧ RelO F L o p := by
  cases a <;> cases b <;> simp only [RelK] at h
  · exact .inl ⟨rfl, rfl⟩
  · exact .inr ⟨_, _, rfl, rfl, h⟩
/-- one more own block -/
theorem TS.new {F' : Frz} (hF : F.le F') (ht : TS G F L ρ M τ) {k : Nat} (hk : L.get k = none) {o : Own} {to : TO} (ho : RelO F' (L.set k o) to o) : TS G F' (L.set k o) ρ (M.set k to) τ := by
  have hext : Ext L (L.set k o) := by
    intro j p e
    refine ⟨p, ?_, Own.like_refl p⟩
    rw [Loc.get_set, if_neg (by rintro rfl; rw [hk] at e; cases e)]
    exact e
  refine ⟨fun j => ?_, fun j => (ht.env j).ext hF hext, fun j g t e => ?_⟩
  · rw [TL.get_set, Loc.get_set]
    split
    · exact ho
    · rcases relK_get (ht.tl j) with ⟨e1, e2⟩ | ⟨p, q, e1, e2, hr⟩
      · rw [e1, e2]; trivial
      · rw [e1, e2]; exact hr.ext hF hext
  · obtain ⟨cs, h⟩ := ht.kp j g t e
    exact ⟨cs, by rw [Loc.get_set, if_neg (by rintro rfl; rw [hk] at h; cases h)]; exact h⟩
theorem TS.mono {F' : Frz} (hF : F.le F') (ht : TS G F L ρ M τ) : TS G F' L ρ M τ := ⟨ht.tl.mono hF, fun j => (ht.env j).mono hF, ht.kp⟩
/-- an own block's contents turn -/
theorem TS.turn (ht : TS G F L ρ M τ) {k : Nat} {o o' : Own} (hk : L.get k = some o) (hl : Own.like o o') (hbox : ∀ g t cs, o = .box g t cs → ∃ cs', o' = .box g t cs') {to : TO} (ho : ∀ L', Ext L L' → RelO F L' to o') :
    TS G F (L.set k o') ρ (M.set k to) τ := by
  have hext : Ext L (L.set k o') := by
    intro j p e
    rw [Loc.get_set]
    split
    · rename_i hj
      subst hj
      rw [hk] at e
      injection e with e
      subst e
      exact ⟨o', rfl, hl⟩
    · exact ⟨p, e, Own.like_refl p⟩
  refine ⟨fun j => ?_, fun j => (ht.env j).ext (Frz.le_refl F) hext, fun j g t e => ?_⟩
  · rw [TL.get_set, Loc.get_set]
    split
    · exact ho _ hext
    · rcases relK_get (ht.tl j) with ⟨e1, e2⟩ | ⟨p, q, e1, e2, hr⟩
      · rw [e1, e2]; trivial
      · rw [e1, e2]; exact hr.ext (Frz.le_refl F) hext
  · obtain ⟨cs, h⟩ := ht.kp j g t e
    rw [Loc.get_set]
    split
    · rename_i hj
      subst hj
      rw [hk] at h
      injection h with h
      obtain ⟨cs', e'⟩ := hbox g t cs h
      exact ⟨cs', by rw [e']⟩
    · exact ⟨cs, h⟩

/- a row's address turns: what named it names nothing any more -/
theorem kill_leaf {L' : Loc} {k : Nat} (hrow : ∀ g t cs, L.get k ≠ some (.box g t cs)) (hk : ∀ j, j ≠ k → ∀ o, L.get j = some o → ∃ o', L'.get j = some o' ∧ Own.like o o') {F' : Frz} (hF : F.le F') (c : C) (v : Value) (hc : c.leaf = true)
    (h : Rel F L c v) : Rel F' L' (killLeaf k c) v := by
  cases c <;> simp only [C.leaf, Bool.false_eq_true] at hc <;> simp only [killLeaf]
  case rw j =>
    cases hj : Nat.beq j k with
    | true => simp only [Rel]
    | false => exact rel_leaf hF (fun j' e => by
        rcases e with ⟨off, e⟩ | e
        · cases e
        · injection e with e; subst e; exact hk j (beq_f hj)) rfl h
  case own j off =>
    refine rel_leaf hF (fun j' e => ?_) rfl h
    rcases e with ⟨off, e⟩ | e
    · injection e with e e2
      subst e
      simp only [Rel] at h
      obtain ⟨g, t, cs, h1, _⟩ := h
      exact hk j (by rintro rfl; exact hrow _ _ _ h1)
    · cases e
  case elr => exact h.elim
  all_goals
    exact rel_leaf hF (fun j' e => by rcases e with ⟨off, e⟩ | e <;> cases e) rfl h
theorem killV_leaf {L' : Loc} {k : Nat} (hrow : ∀ g t cs, L.get k ≠ some (.box g t cs)) (hk : ∀ j, j ≠ k → ∀ o, L.get j = some o → ∃ o', L'.get j = some o' ∧ Own.like o o') {F' : Frz} (hF : F.le F') (c : C) (sv : SV) (hc : c.leaf = true)
    (h : RelV F L c sv) : RelV F' L' (killLeaf k c) sv := by
  cases c <;> simp only [C.leaf, Bool.false_eq_true] at hc <;> simp only [killLeaf]
  case rw j =>
    cases hj : Nat.beq j k with
    | true => trivial
    | false => exact relV_leaf hF (fun j' e => by
        rcases e with ⟨off, e⟩ | ⟨off, e⟩ | e | ⟨a, b, e⟩ <;> first | cases e; done | skip
        injection e with e; subst e; exact hk j (beq_f hj)) rfl h
  case elr j a b =>
    cases hj : Nat.beq j k with
    | true => trivial
    | false => exact relV_leaf hF (fun j' e => by
        rcases e with ⟨off, e⟩ | ⟨off, e⟩ | e | ⟨a, b, e⟩ <;> first | cases e; done | skip
        injection e with e; subst e; exact hk j (beq_f hj)) rfl h
  case own j off =>
    refine relV_leaf hF (fun j' e => ?_) rfl h
    obtain ⟨_, g, t, cs, h1⟩ := h
    rcases e with ⟨off, e⟩ | ⟨off, e⟩ | e | ⟨a, b, e⟩ <;> first | cases e; done | skip
    injection e with e
    subst e
    exact hk j (by rintro rfl; exact hrow _ _ _ h1)
  case ownv j off =>
    refine relV_leaf hF (fun j' e => ?_) rfl h
    obtain ⟨v, _, hr⟩ := h
    simp only [Rel] at hr
    obtain ⟨g, t, cs, h1, _⟩ := hr
    rcases e with ⟨off, e⟩ | ⟨off, e⟩ | e | ⟨a, b, e⟩ <;> first | cases e; done | skip
    injection e with e
    subst e
    exact hk j (by rintro rfl; exact hrow _ _ _ h1)
  all_goals
    exact relV_leaf hF (fun j' e => by rcases e with ⟨off, e⟩ | ⟨off, e⟩ | e | ⟨a, b, e⟩ <;> cases e) rfl h
theorem RelO.killed {L' : Loc} {k : Nat} (hrow : ∀ g t cs, L.get k ≠ some (.box g t cs)) (hk : ∀ j, j ≠ k → ∀ o, L.get j = some o → ∃ o', L'.get j = some o' ∧ Own.like o o') {F' : Frz} (hF : F.le F') : ∀ {o : TO} {p : Own}, RelO F L o p → RelO F' L' (o.mapC (C.kill k)) p
  | .box t cs, .box g t' vs, r => ⟨r.1, r.2.map fun c _ v h => Rel.mp (kill_leaf hrow hk hF) 3 h⟩
  | .row t sz els, .row v t' sz' n xs, r => ⟨r.1, r.2.1, r.2.2.1, r.2.2.2.1, r.2.2.2.2.mono hF⟩
  | .box _ _, .row .., r => r.elim
  | .row .., .box .., r => r.elim
theorem TS.killed (ht : TS G F L ρ M τ) {k : Nat} {o' : Own} (hrow : ∀ g t cs, L.get k ≠ some (.box g t cs)) {to : TO} (ho : RelO F (L.set k o') to o') :
    TS G F (L.set k o') ρ ((M.mapC (C.kill k)).set k to) (fun j => (τ j).kill k) := by
  have hk : ∀ j, j ≠ k → ∀ o, L.get j = some o → ∃ p, (L.set k o').get j = some p ∧ Own.like o p := fun j hj o e => ⟨o, by rw [Loc.get_set, if_neg hj]; exact e, Own.like_refl o⟩
  refine ⟨fun j => ?_, fun j => RelV.mp (kill_leaf hrow hk (Frz.le_refl F)) (killV_leaf hrow hk (Frz.le_refl F)) 3 (ht.env j), fun j g t e => ?_⟩
  · rw [TL.get_set, Loc.get_set, mapC_get]
    split
    · exact ho
    · rcases relK_get (ht.tl j) with ⟨e1, e2⟩ | ⟨p, q, e1, e2, hr⟩
      · rw [e1, e2]; trivial
      · rw [e1, e2]; exact hr.killed hrow hk (Frz.le_refl F)
  · obtain ⟨cs, h⟩ := ht.kp j g t e
    exact ⟨cs, by rw [Loc.get_set, if_neg (by rintro rfl; exact hrow _ _ _ h)]; exact h⟩

/-- the flat cells of a frozen slice -/
theorem RelS_flat {a : Option Addr} {sz sz' : Nat} {els : List (List C)} (h : RelS F a sz' 0 els) (hs : ∀ es ∈ els, es.length = sz) : ∃ xs, xs.length = els.length * sz ∧ (FCells F a 0 xs ∨ (els.length = 0 ∧ xs = [])) ∧ RelRow F sz els xs := by
  cases hels : els with
  | nil => exact ⟨[], by simp, .inr ⟨rfl, rfl⟩, by simp only [RelRow]⟩
  | cons e0 rest =>
    rw [hels] at h hs
    have h0 := RelS_iff.1 h 0 e0 (by simp)
    obtain ⟨vs0, k1, ⟨ad, arr, t, fr, ea, hb, hsp, _⟩, _, k4⟩ := h0
    have hsz : sz' = sz := by rw [← k1, k4.len, hs e0 (by simp)]
    subst hsz
    subst ea
    have key : ∀ (l : List (List C)) (i : Nat), RelS F (some ad) sz' i l → ∃ xs, RelRow F sz' l xs ∧ ∀ (j : Nat) v, xs[j]? = some v → arr[ad.off + i * sz' + j]? = some v := by
      intro l
      induction l with
      | nil => intro i _; exact ⟨[], by simp only [RelRow], by simp⟩
      | cons es l ih =>
        intro i hr
        simp only [RelS] at hr
        obtain ⟨⟨vs, q1, ⟨ad', arr', t', fr', e', hb', hsp', hv⟩, q3, q4⟩, q5⟩ := hr
        injection e' with e'
        subst e'
        rw [hb] at hb'
        injection hb' with hb'
        injection hb' with r1 r2 r3
        subst r1
        obtain ⟨xs, x1, x2⟩ := ih (i + 1) q5
        refine ⟨vs ++ xs, by simp only [RelRow]; exact ⟨vs, xs, rfl, q1, q3, q4, x1⟩, fun j v hj => ?_⟩
        by_cases hlt : j < vs.length
        · rw [List.getElem?_append_left hlt] at hj
          exact hv j v hj
        · rw [List.getElem?_append_right (by omega)] at hj
          have := x2 _ _ hj
          rw [show ad.off + i * sz' + j = ad.off + (i + 1) * sz' + (j - vs.length) by rw [q1, Nat.add_mul]; omega]
          exact this
    obtain ⟨xs, x1, x2⟩ := key (e0 :: rest) 0 h
    exact ⟨xs, RelRow_len x1, .inl ⟨ad, arr, t, fr, rfl, hb, hsp, fun j v hj => by have := x2 j v hj; simpa using this⟩, x1⟩
theorem RelRow.ones {sz : Nat} : ∀ {l : List (List C)} {xs : List Value}, RelRow F sz l xs → ∀ u ∈ xs, u.oneCell' = true
  | [], xs, h => by simp only [RelRow] at h; subst h; simp
  | es :: l, xs, h => by
    simp only [RelRow] at h
    obtain ⟨vs, xs', rfl, h2, h3, h4, h5⟩ := h
    intro u hu
    rcases List.mem_append.1 hu with hu | hu
    · exact ones_vals h4 h3 u hu
    · exact RelRow.ones h5 u hu
theorem RelRow_bytes (bs : List UInt8) : RelRow F 1 (bcells bs) (bs.map fun b => Value.int .u8 b.toNat) := by
  induction bs with
  | nil => simp only [bcells, List.map_nil, RelRow]
  | cons b bs ih =>
    simp only [bcells, List.map_cons, RelRow]
    refine ⟨[.int .u8 b.toNat], _, rfl, rfl, rfl, ?_, ih⟩
    simp only [Rels, Rel]
    refine ⟨_, _, rfl, ⟨rfl, ?_⟩, rfl⟩
    have := b.toNat_lt
    simp [Lit.wf, IntKind.min, IntKind.max, IntKind.bits, IntKind.signed]
    omega
theorem RelS_bytes {g : Nat} {bs : List UInt8} (h : FCells F (some ⟨g, 0, none⟩) 0 (bs.map fun b => Value.int .u8 b.toNat)) : RelS F (some ⟨g, 0, none⟩) 1 0 (bcells bs) := (RelRow_bytes bs).frz h
theorem RelRow.set {sz : Nat} : ∀ {l : List (List C)} {xs : List Value}, RelRow F sz l xs → ∀ {j : Nat} {es ds : List C} {us : List Value} {off : Nat}, l[j]? = some es → off + us.length ≤ sz → Rels F [] ds us → onesL ds = true →
    RelRow F sz (l.set j (spliceC es off ds)) (splice xs (j * sz + off) us)
  | [], xs, h, j, es, ds, us, off, e, _, _, _ => by simp at e
  | x :: l, xs, h, j, es, ds, us, off, e, ho, hr, h1 => by
    simp only [RelRow] at h
    obtain ⟨vs, xs', rfl, h2, h3, h4, h5⟩ := h
    cases j with
    | zero =>
      simp only [List.getElem?_cons_zero, Option.some.injEq] at e
      subst e
      simp only [List.set_cons_zero, RelRow]
      refine ⟨splice vs off us, xs', ?_, ?_, ?_, spliceC_rel h4 hr, h5⟩
      · simp only [splice, Nat.zero_mul, Nat.zero_add]
        rw [List.take_append_of_le_length (by omega), List.drop_append_of_le_length (by omega)]
        simp
      · simp only [splice, List.length_append, List.length_take, List.length_drop]; omega
      · rw [onesL_iff] at h3 h1 ⊢
        intro c hc
        simp only [spliceC, List.mem_append] at hc
        rcases hc with (hc | hc) | hc
        · exact h3 c (List.mem_of_mem_take hc)
        · exact h1 c hc
        · exact h3 c (List.mem_of_mem_drop hc)
    | succ j =>
      simp only [List.set_cons_succ, RelRow]
      have ih := RelRow.set h5 (j := j) (by simpa using e) ho hr h1
      refine ⟨vs, _, ?_, h2, h3, h4, ih⟩
      simp only [splice]
      rw [show (j + 1) * sz + off = vs.length + (j * sz + off) by rw [h2, Nat.add_mul]; omega]
      rw [List.take_length_add_append, show vs.length + (j * sz + off) + us.length = vs.length + (j * sz + off + us.length) by omega, List.drop_length_add_append]
      simp [List.append_assoc]
end
end Go.Fr.T
