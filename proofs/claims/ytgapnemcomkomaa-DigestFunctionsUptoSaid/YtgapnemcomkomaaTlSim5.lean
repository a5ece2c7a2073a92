/- The evaluator over data speaks of the evaluator over addresses: what is given up, what is had for nothing, calls. -/
import Derived.Test.YtgapnemcomkomaaTlSim4
set_option linter.unusedVariables false
set_option linter.unusedSimpArgs false
namespace Go.Fr.T
open Go Go.RowKit Go.Fr

section
variable {P : Program} {G : Nat → Option (Nat × TypeId)} {F : Frz} {L : Loc} {ρ : Env} {M : TL} {τ : TEnv}

theorem toIn_eq : ∀ {ks : List Nat} {i j m : Nat}, toIn ks i j = some m → ∃ n, ks[n]? = some j ∧ m = i + n
  | [], _, _, _, h => by simp [toIn] at h
  | k :: ks, i, j, m, h => by
    simp only [toIn] at h
    cases hj : Nat.beq j k with
    | true =>
      have := Nat.eq_of_beq_eq_true hj
      subst this
      rw [hj] at h
      injection h with h
      exact ⟨0, by simp, by omega⟩
    | false =>
      rw [hj] at h
      obtain ⟨n, h1, h2⟩ := toIn_eq h
      exact ⟨n + 1, by simpa using h1, by omega⟩
theorem fromIn_eq {ko : List Nat} {j m : Nat} (h : fromIn ko j = some m) : 1000 ≤ j ∧ ko[j - 1000]? = some m := by
  simp only [fromIn] at h
  split at h
  · rename_i h1; exact ⟨Nat.le_of_ble_eq_true h1, h⟩
  · cases h
theorem nodup?_eq : ∀ {l : List Nat}, nodup? l = true → l.Nodup
  | [], _ => List.nodup_nil
  | k :: l, h => by
    simp only [nodup?] at h
    split at h
    · cases h
    · rename_i h1
      exact List.nodup_cons.2 ⟨fun hm => (by rw [mem?_eq.2 hm] at h1; cases h1), nodup?_eq h⟩

/- keys get other names -/
theorem ren_leaf {L' : Loc} {f : Nat → Option Nat} (hf : ∀ j m, f j = some m → ∀ o, L.get j = some o → L'.get m = some o) (c : C) (v : Value) (hc : c.leaf = true) (h : Rel F L c v) : Rel F L' (renLeaf f c) v := by
  cases c <;> simp only [C.leaf, Bool.false_eq_true] at hc <;> simp only [renLeaf]
  case rw j =>
    simp only [Rel] at h
    obtain ⟨a, c, t, sz, n, xs, rfl, h⟩ := h
    cases hj : f j with
    | none => simp only [Rel]
    | some m => simp only [Rel]; exact ⟨a, c, t, sz, n, xs, rfl, hf j m hj _ h⟩
  case own j off =>
    simp only [Rel] at h
    obtain ⟨g, t, cs, h, rfl⟩ := h
    cases hj : f j with
    | none => simp only [Rel]
    | some m => simp only [Rel]; exact ⟨g, t, cs, hf j m hj _ h, rfl⟩
  case ownv => exact h.elim
  case elr => exact h.elim
  all_goals
    exact rel_leaf (Frz.le_refl F) (fun j' e => by rcases e with ⟨off, e⟩ | e <;> cases e) rfl h
theorem Rel.ren {L' : Loc} {f : Nat → Option Nat} (hf : ∀ j m, f j = some m → ∀ o, L.get j = some o → L'.get m = some o) {c : C} {v : Value} (h : Rel F L c v) : Rel F L' (c.ren f) v := Rel.mp (ren_leaf hf) 3 h
theorem RelO.ren {L' : Loc} {f : Nat → Option Nat} (hf : ∀ j m, f j = some m → ∀ o, L.get j = some o → L'.get m = some o) : ∀ {o : TO} {p : Own}, RelO F L o p → RelO F L' (o.mapC (C.ren f)) p
  | .box t cs, .box g t' vs, r => ⟨r.1, r.2.map fun c _ v h => h.ren hf⟩
  | .row t sz els, .row v t' sz' n xs, r => r
  | .box _ _, .row .., r => r.elim
  | .row .., .box .., r => r.elim
theorem tl_sub (ht : RelTL F L M) : ∀ {ks : List Nat} {Lin : List TO}, M.sub ks = some Lin → ∃ Li, L.sub ks = some Li ∧ Li.length = Lin.length ∧ ∀ (i : Nat) o p, Lin[i]? = some o → Li[i]? = some p → RelO F L o p
  | [], Lin, h => by simp only [TL.sub, Option.some.injEq] at h; subst h; exact ⟨[], rfl, rfl, by simp⟩
  | k :: ks, Lin, h => by
    simp only [TL.sub] at h
    split at h
    case h_2 => cases h
    rename_i o l h1 h2
    injection h with h
    subst h
    obtain ⟨Li, e1, e2, e3⟩ := tl_sub ht h2
    rcases relK_get (ht k) with ⟨q1, q2⟩ | ⟨o', p, q1, q2, hr⟩
    · rw [h1] at q1; cases q1
    · rw [h1] at q1
      injection q1 with q1
      subst q1
      refine ⟨p :: Li, by simp only [Loc.sub, q2, e1], by simp [e2], fun i o'' p'' hi hp => ?_⟩
      cases i with
      | zero => simp only [List.getElem?_cons_zero, Option.some.injEq] at hi hp; subst hi; subst hp; exact hr
      | succ i => exact e3 i o'' p'' (by simpa using hi) (by simpa using hp)
theorem inp_sub {ks : List Nat} {Li : List Own} (hs : L.sub ks = some Li) : ∀ j m, toIn ks 1000 j = some m → ∀ o, L.get j = some o → (inp Li).get m = some o := by
  intro j m h o ho
  obtain ⟨n, h1, rfl⟩ := toIn_eq h
  obtain ⟨_, hg⟩ := sub_get hs
  rw [inp_get, if_pos (by omega), show 1000 + n - 1000 = n by omega, ← hg n j h1]
  exact ho
/-- what a callee is handed -/
theorem tl_inp (ht : RelTL F L M) {ks : List Nat} {Lin : List TO} {Li : List Own} (hl : Li.length = Lin.length) (hs : L.sub ks = some Li) (hr : ∀ (i : Nat) o p, Lin[i]? = some o → Li[i]? = some p → RelO F L o p) :
    RelTL F (inp Li) (tinp (Lin.map (TO.mapC (C.ren (toIn ks 1000))))) := by
  intro k
  rw [tinp_get, inp_get]
  split
  · rw [List.getElem?_map]
    cases e1 : Lin[k - 1000]? with
    | none =>
      have : Li[k - 1000]? = none := by rw [List.getElem?_eq_none_iff] at e1 ⊢; omega
      rw [this]; trivial
    | some o =>
      have hlt : k - 1000 < Li.length := by have := (List.getElem?_eq_some_iff.1 e1).1; omega
      rw [List.getElem?_eq_getElem hlt]
      exact (hr _ _ _ e1 (List.getElem?_eq_getElem hlt)).ren (inp_sub hs)
  · trivial

/- rows that are handed over: what named them names nothing any more -/
def dropRow (L : Loc) (k : Nat) : Loc := match L.get k with | some (.row ..) => L.del k | _ => L
def dropRows : List Nat → Loc → Loc
  | [], L => L
  | k :: ks, L => dropRows ks (dropRow L k)
theorem kill_drop (k : Nat) : (∀ c v, c.leaf = true → Rel F L c v → Rel F (dropRow L k) (killLeaf k c) v) ∧ (∀ c sv, c.leaf = true → RelV F L c sv → RelV F (dropRow L k) (killLeaf k c) sv) := by
  by_cases hrow : ∃ v t sz n xs, L.get k = some (.row v t sz n xs)
  · obtain ⟨v, t, sz, n, xs, hrow⟩ := hrow
    have e : dropRow L k = L.del k := by simp only [dropRow, hrow]
    rw [e]
    have h1 : ∀ g t cs, L.get k ≠ some (.box g t cs) := fun g t cs h => by rw [hrow] at h; injection h with h; cases h
    have h2 : ∀ j, j ≠ k → ∀ o, L.get j = some o → ∃ o', (L.del k).get j = some o' ∧ Own.like o o' := fun j hj o ho => ⟨o, by rw [Loc.get_del, if_neg hj]; exact ho, Own.like_refl o⟩
    exact ⟨kill_leaf h1 h2 (Frz.le_refl F), killV_leaf h1 h2 (Frz.le_refl F)⟩
  · have e : dropRow L k = L := by
      simp only [dropRow]
      split
      · rename_i h; exact absurd ⟨_, _, _, _, _, h⟩ hrow
      · rfl
    rw [e]
    refine ⟨fun c v hc h => ?_, fun c sv hc h => ?_⟩
    · cases c <;> simp only [killLeaf] <;> first
        | exact h
        | exact h.elim
        | (split <;> first | exact h | (simp only [Rel]; done))
    · cases c <;> simp only [killLeaf] <;> first
        | exact h
        | (split <;> first | exact h | trivial)
theorem Rel.kills : ∀ (ks : List Nat) {L : Loc} {c : C} {v : Value}, Rel F L c v → Rel F (dropRows ks L) (C.kills ks c) v
  | [], L, c, v, h => h
  | k :: ks, L, c, v, h => Rel.kills ks (Rel.mp (kill_drop k).1 3 h)
theorem RelV.kills : ∀ (ks : List Nat) {L : Loc} {c : C} {sv : SV}, RelV F L c sv → RelV F (dropRows ks L) (C.kills ks c) sv
  | [], L, c, sv, h => h
  | k :: ks, L, c, sv, h => RelV.kills ks (RelV.mp (kill_drop k).1 (kill_drop k).2 3 h)
theorem RelO.kills (ks : List Nat) {L : Loc} : ∀ {o : TO} {p : Own}, RelO F L o p → RelO F (dropRows ks L) (o.mapC (C.kills ks)) p
  | .box t cs, .box g t' vs, r => ⟨r.1, r.2.map fun c _ v h => h.kills ks⟩
  | .row t sz els, .row v t' sz' n xs, r => r
  | .box _ _, .row .., r => r.elim
  | .row .., .box .., r => r.elim
theorem dropRow_get {k j : Nat} {o : Own} (h : (dropRow L k).get j = some o) : L.get j = some o ∧ (j = k → ∃ g t cs, o = .box g t cs) := by
  unfold dropRow at h
  split at h
  · rw [Loc.get_del] at h
    split at h
    · cases h
    · rename_i hj; exact ⟨h, fun e => absurd e hj⟩
  · rename_i hn
    refine ⟨h, fun e => ?_⟩
    subst e
    cases o with
    | box g t cs => exact ⟨g, t, cs, rfl⟩
    | row v t sz n xs => exact absurd h (hn v t sz n xs)
theorem dropRows_get : ∀ {ks : List Nat} {L : Loc} {j : Nat} {o : Own}, (dropRows ks L).get j = some o → L.get j = some o ∧ (j ∈ ks → ∃ g t cs, o = .box g t cs)
  | [], L, j, o, h => ⟨h, by simp⟩
  | k :: ks, L, j, o, h => by
    obtain ⟨h1, h2⟩ := dropRows_get (ks := ks) h
    obtain ⟨h3, h4⟩ := dropRow_get h1
    exact ⟨h3, fun hm => by
      rcases List.mem_cons.1 hm with e | e
      · exact h4 e
      · exact h2 e⟩
theorem tkills_get (ks : List Nat) (M : TL) (k : Nat) : (TL.kills ks M).get k = (M.get k).map (TO.mapC (C.kills ks)) := by
  cases ks with
  | nil =>
    simp only [TL.kills]
    cases M.get k with
    | none => rfl
    | some o =>
      cases o with
      | box t cs =>
        have e : (C.kills [] : C → C) = id := rfl
        simp [TO.mapC, e]
      | row t sz els => rfl
  | cons a ks => exact mapC_get _ _ _
theorem killsE_get (ks : List Nat) (τ : TEnv) (j : Nat) : killsE ks τ j = (τ j).kills ks := by cases ks <;> rfl

/-- the boxes that come back, by their places -/
theorem boxesAt_eq : ∀ {Lin : List TO} {ks ko : List Nat}, boxesAt Lin ks ko = true → ∀ (i : Nat) t cs, Lin[i]? = some (.box t cs) → ∃ k, ks[i]? = some k ∧ ko[i]? = some k
  | [], _, _, _, i, t, cs, e => by simp at e
  | .box t0 c0 :: l, [], ko, h, i, t, cs, e => by cases ko <;> simp [boxesAt] at h
  | .box t0 c0 :: l, k :: ks, [], h, i, t, cs, e => by simp [boxesAt] at h
  | .box t0 c0 :: l, k :: ks, k' :: ko, h, i, t, cs, e => by
    simp only [boxesAt] at h
    split at h
    case h_2 => cases h
    rename_i hk
    have := Nat.eq_of_beq_eq_true hk
    subst this
    cases i with
    | zero => exact ⟨k, by simp, by simp⟩
    | succ i => simpa using boxesAt_eq h i t cs (by simpa using e)
  | .row .. :: l, k :: ks, k' :: ko, h, i, t, cs, e => by
    simp only [boxesAt] at h
    cases i with
    | zero => simp at e
    | succ i => simpa using boxesAt_eq h i t cs (by simpa using e)
  | .row .. :: l, k :: ks, [], h, i, t, cs, e => by
    simp only [boxesAt] at h
    cases i with
    | zero => simp at e
    | succ i =>
      obtain ⟨k', h1, h2⟩ := boxesAt_eq h i t cs (by simpa using e)
      simp at h2
  | .row .. :: l, [], ko, h, i, t, cs, e => by simp [boxesAt] at h
theorem koOk_eq {M : TL} {ks : List Nat} : ∀ {ko : List Nat}, koOk M ks ko = true → ∀ k ∈ ko, k ∈ ks ∨ M.get k = none
  | [], _, k, hk => by simp at hk
  | k0 :: ko, h, k, hk => by
    simp only [koOk] at h
    rcases List.mem_cons.1 hk with e | e
    · subst e
      split at h
      · rename_i h1; exact .inl (mem?_eq.1 h1)
      · rename_i h1 h2; exact .inr h2
      · cases h
    · split at h
      · exact koOk_eq h k e
      · exact koOk_eq h k e
      · cases h
theorem puts_get' {ko : List Nat} {Lo : List Own} {L : Loc} (hn : ko.Nodup) (hl : ko.length = Lo.length) {i k : Nat} {o : Own} (hk : ko[i]? = some k) (ho : Lo[i]? = some o) : (L.puts ko Lo).get k = some o := by
  rcases puts_get ko Lo L k hn hl with ⟨_, h2⟩ | ⟨i', h1, h2, _⟩
  · exact absurd (List.mem_of_getElem? hk) h2
  · have := nodup_idx hn h1 hk
    subst this
    rw [h2, ho]

/-- a call -/
theorem sim_call0 {f : Nat} {args : List C} {vs : List Value} {ks ko : List Nat} {Lin : List TO} {R : List TO → C → Prop} {K : TL → TEnv → C → Prop} (ht : TS G F L ρ M τ) (ha : Rels F L args vs)
    (h1 : M.sub ks = some Lin) (h2 : nodup? ks = true) (h3 : nodup? ko = true) (h4 : koOk M ks ko = true) (h5 : boxesAt Lin ks ko = true)
    (h6 : CallsT P f (args.map fun c => c.canA.ren (toIn ks 1000)) (Lin.map (TO.mapC (C.ren (toIn ks 1000)))) R)
    (h7 : ∀ v Mo, R Mo v → Wf v → (∀ o ∈ Mo, o.Wf) → ko.length = Mo.length ∧ K (((M.dels ks).kills ks).puts ko (Mo.map (TO.mapC (C.ren (fromIn ko))))) (killsE ks τ) (v.ren (fromIn ko)).slt) :
    CallPt P f vs F L (fun F' L' v => ∃ M' τ' c, TS G F' L' ρ M' τ' ∧ RelV F' L' c (.v v) ∧ K M' τ' c) := by
  obtain ⟨Li, e1, e2, e3⟩ := tl_sub ht.tl h1
  have hn := nodup?_eq h2
  have hno := nodup?_eq h3
  have hko : ∀ k, k ∈ ko → k ∈ ks ∨ L.get k = none := fun k hk => (koOk_eq h4 k hk).imp id fun e => tl_none ht.tl e
  have hsg := sub_get e1
  refine ⟨ks, ko, Li, ResA Li R, e1, hn, hno, hko, h6.out F Li vs (by simp [e2]) (tl_inp ht.tl e2 e1 e3) ?_, ?_⟩
  · exact ha.map fun c _ v hc => (canA_rel hc).ren (inp_sub e1)
  · rintro v F' Lo hF ⟨Mo, c, q1, q2, q3, q4, q5⟩
    have hwo : ∀ o ∈ Mo, o.Wf := by
      intro o ho
      obtain ⟨i, hi⟩ := List.mem_iff_getElem?.1 ho
      have hlt : i < Lo.length := by rw [← q1]; exact (List.getElem?_eq_some_iff.1 hi).1
      have := q2 (1000 + i)
      rw [tinp_get, inp_get, if_pos (by omega), if_pos (by omega), show 1000 + i - 1000 = i by omega, hi, List.getElem?_eq_getElem hlt] at this
      exact RelO.wf this
    obtain ⟨k1, k2⟩ := h7 c Mo q5 q3.wf hwo
    have hlen : ko.length = Lo.length := by rw [k1, q1]
    have hboxes : ∀ k g t cs, k ∈ ks → L.get k = some (.box g t cs) → ∃ cs', Loc.get ((L.dels ks).puts ko Lo) k = some (.box g t cs') := by
      intro k g t cs hk hg
      obtain ⟨i, hi⟩ := List.mem_iff_getElem?.1 hk
      have hLi : Li[i]? = some (.box g t cs) := by rw [← hsg.2 i k hi]; exact hg
      have hlt : i < Lin.length := by rw [← e2]; exact (List.getElem?_eq_some_iff.1 hLi).1
      have hr := e3 i _ _ (List.getElem?_eq_getElem hlt) hLi
      cases hL : Lin[i] with
      | row => rw [hL] at hr; exact hr.elim
      | box t' cs' =>
        obtain ⟨k', b1, b2⟩ := boxesAt_eq h5 i t' cs' (by rw [List.getElem?_eq_getElem hlt, hL])
        rw [hi] at b1
        injection b1 with b1
        subst b1
        obtain ⟨cs2, hLo⟩ := q4 i g t cs hLi
        exact ⟨cs2, puts_get' hno hlen b2 hLo⟩
    refine ⟨hlen, hboxes, ?_⟩
    generalize hL' : (L.dels ks).puts ko Lo = L' at hboxes
    -- what was there before
    have hold : ∀ k, k ∉ ks → ∀ o, L.get k = some o → L'.get k = some o := by
      intro k hk o ho
      rw [← hL']
      rcases puts_get ko Lo (L.dels ks) k hno hlen with ⟨a1, a2⟩ | ⟨i, a1, a2, a3⟩
      · rw [a1, dels_get, if_neg hk]; exact ho
      · rcases hko k (List.mem_of_getElem? a1) with e | e
        · exact absurd e hk
        · rw [ho] at e; cases e
    have hext : Ext (dropRows ks L) L' := by
      intro k o ho
      obtain ⟨g1, g2⟩ := dropRows_get ho
      by_cases hk : k ∈ ks
      · obtain ⟨g, t, cs, rfl⟩ := g2 hk
        obtain ⟨cs', h⟩ := hboxes k g t cs hk g1
        exact ⟨_, h, rfl⟩
      · exact ⟨o, hold k hk o g1, Own.like_refl o⟩
    have hback : ∀ j m, fromIn ko j = some m → ∀ o, (inp Lo).get j = some o → L'.get m = some o := by
      intro j m hj o ho
      obtain ⟨a1, a2⟩ := fromIn_eq hj
      rw [inp_get, if_pos a1] at ho
      rw [← hL']
      exact puts_get' hno hlen a2 ho
    refine ⟨_, _, _, ⟨fun k => ?_, fun j => ?_, fun k g t e => ?_⟩, slt_rel (q3.ren hback), k2⟩
    · rcases tputs_get ko (Mo.map (TO.mapC (C.ren (fromIn ko)))) ((M.dels ks).kills ks) k hno (by simp [k1]) with ⟨a1, a2⟩ | ⟨i, a1, a2, a3⟩
      · have hLk : L'.get k = (L.dels ks).get k := by
          rw [← hL']
          rcases puts_get ko Lo (L.dels ks) k hno hlen with ⟨b1, _⟩ | ⟨i, b1, _, _⟩
          · exact b1
          · exact absurd (List.mem_of_getElem? b1) a2
        rw [a1, hLk, tkills_get, tdels_get, dels_get]
        split
        · trivial
        · rcases relK_get (ht.tl k) with ⟨c1, c2⟩ | ⟨o, p, c1, c2, hr⟩
          · rw [c1, c2]; trivial
          · rw [c1, c2]; exact (hr.kills ks).ext hF hext
      · rw [a2, List.getElem?_map]
        have hlt : i < Mo.length := by simpa using a3
        have hlt2 : i < Lo.length := by omega
        have hLk : L'.get k = some (Lo[i]) := by rw [← hL']; exact puts_get' hno hlen a1 (List.getElem?_eq_getElem hlt2)
        rw [hLk, List.getElem?_eq_getElem hlt]
        have := q2 (1000 + i)
        rw [tinp_get, inp_get, if_pos (by omega), if_pos (by omega), show 1000 + i - 1000 = i by omega, List.getElem?_eq_getElem hlt, List.getElem?_eq_getElem hlt2] at this
        exact RelO.ren hback this
    · rw [killsE_get]
      exact ((ht.env j).kills ks).ext hF hext
    · obtain ⟨cs, h⟩ := ht.kp k g t e
      by_cases hk : k ∈ ks
      · exact hboxes k g t cs hk h
      · exact ⟨cs, hold k hk _ h⟩
end
end Go.Fr.T
