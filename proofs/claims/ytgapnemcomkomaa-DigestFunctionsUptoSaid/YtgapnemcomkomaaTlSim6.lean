/- The evaluator over data speaks of the evaluator over addresses: what is given up, what is had for nothing, all operations. -/
import Derived.Test.YtgapnemcomkomaaTlSim5
set_option linter.unusedVariables false
set_option linter.unusedSimpArgs false
namespace Go.Fr.T
open Go Go.RowKit Go.Fr

section
variable {P : Program} {G : Nat → Option (Nat × TypeId)} {F : Frz} {L : Loc} {ρ : Env} {M : TL} {τ : TEnv} {a : Act} {w : World}

theorem TL.get_del' (M : TL) (k j : Nat) : (M.del k).get j = if j = k then none else M.get j := TL.get_del M k j

/-- a row is given up -/
theorem frz_leaf {F' : Frz} (hF : F.le F') {k : Nat} {a : Option Addr} {c : Nat} {t sz : Nat} {els : List (List C)} {xs : List Value} (hk : L.get k = some (.row (.slice a els.length c) t sz els.length xs))
    (hr : Rel F' (L.del k) (.sl els) (.slice a els.length c)) : (∀ d v, C.leaf d = true → Rel F L d v → Rel F' (L.del k) (frzLeaf k els d) v) ∧ (∀ d sv, C.leaf d = true → RelV F L d sv → RelV F' (L.del k) (frzLeaf k els d) sv) := by
  have h2 : ∀ j, j ≠ k → ∀ o, L.get j = some o → ∃ o', (L.del k).get j = some o' ∧ Own.like o o' := fun j hj o ho => ⟨o, by rw [Loc.get_del, if_neg hj]; exact ho, Own.like_refl o⟩
  have hrow : ∀ g t cs, L.get k ≠ some (.box g t cs) := fun g t cs h => by rw [hk] at h; injection h with h; cases h
  constructor
  · intro d v hc h
    cases d <;> simp only [C.leaf, Bool.false_eq_true] at hc
    case rw j =>
      simp only [frzLeaf]
      cases hj : Nat.beq j k with
      | true =>
        have := Nat.eq_of_beq_eq_true hj
        subst this
        simp only [Rel] at h
        obtain ⟨a', c', t', sz', n', xs', rfl, h⟩ := h
        rw [hk] at h
        injection h with h
        injection h with q1 q2 q3 q4 q5
        rw [← q1]
        exact hr
      | false =>
        have := kill_leaf hrow h2 hF (.rw j) v rfl h
        simpa only [killLeaf, hj] using this
    all_goals
      have := kill_leaf hrow h2 hF _ v rfl h
      simpa only [killLeaf, frzLeaf] using this
  · intro d sv hc h
    cases d <;> simp only [C.leaf, Bool.false_eq_true] at hc
    case rw j =>
      simp only [frzLeaf]
      cases hj : Nat.beq j k with
      | true =>
        have := Nat.eq_of_beq_eq_true hj
        subst this
        simp only [RelV, Rel] at h
        obtain ⟨v, e, a', c', t', sz', n', xs', rfl, h⟩ := h
        rw [hk] at h
        injection h with h
        injection h with q1 q2 q3 q4 q5
        rw [← q1] at e
        exact ⟨_, e, hr⟩
      | false =>
        have := killV_leaf hrow h2 hF (.rw j) sv rfl h
        simpa only [killLeaf, hj] using this
    all_goals
      have := killV_leaf hrow h2 hF _ sv rfl h
      simpa only [killLeaf, frzLeaf] using this
theorem RelO.frz {F' : Frz} (hF : F.le F') {k : Nat} {els : List (List C)} (hl : ∀ d v, C.leaf d = true → Rel F L d v → Rel F' (L.del k) (frzLeaf k els d) v) : ∀ {o : TO} {p : Own}, RelO F L o p → RelO F' (L.del k) (o.mapC (C.frz k els)) p
  | .box t cs, .box g t' vs, r => ⟨r.1, r.2.map fun c _ v h => Rel.mp hl 3 h⟩
  | .row t sz els, .row v t' sz' n xs, r => ⟨r.1, r.2.1, r.2.2.1, r.2.2.2.1, r.2.2.2.2.mono hF⟩
  | .box _ _, .row .., r => r.elim
  | .row .., .box .., r => r.elim
theorem frz1_sound {k : Nat} {t sz : Nat} {els : List (List C)} (hs : St F L w) (he : EnvOk L ρ a) (ht : TS G F L ρ M τ) (hk : M.get k = some (.row t sz els)) :
    ∃ F' L', St F' L' w ∧ EnvOk L' ρ a ∧ Step F L w F' L' w ∧ TS G F' L' ρ ((M.del k).mapC (C.frz k els)) (fun j => (τ j).frz k els) ∧ (∀ {c v}, Rel F L c v → Rel F' L' (c.frz k els) v) := by
  obtain ⟨v, xs, hL, ⟨hm, av, cv, rfl, hnil⟩, hr⟩ := tl_row ht.tl hk
  obtain ⟨F', L', g1, g2, g3, hF, hfr, rfl⟩ := frz_sound (KK := fun F' L' => F.le F' ∧ FRow F' (.slice av els.length cv) sz els.length xs ∧ L' = L.del k) hs he ⟨_, _, _, _, _, hL, fun F' hF hfr => ⟨hF, hfr, rfl⟩⟩
  have hrel : Rel F' (L.del k) (.sl els) (.slice av els.length cv) := by
    simp only [Rel]
    rcases hfr with ⟨e1, e2, e3⟩ | ⟨ad, c2, e1, e2, e3⟩
    · injection e1 with q1 q2 q3
      have : els = [] := List.length_eq_zero_iff.1 q2
      subst this
      exact ⟨av, cv, rfl, by simp, by simp, fun _ => ⟨rfl, q3⟩, sz, by simp only [RelS]⟩
    · injection e1 with q1 q2 q3
      subst q1 q3
      exact ⟨some ad, cv, rfl, e3, hm, fun e => (by cases e), sz, (hr.mono hF).frz e2⟩
  obtain ⟨l1, l2⟩ := frz_leaf hF hL hrel
  refine ⟨F', L.del k, g1, g2, g3, ⟨fun j => ?_, fun j => RelV.mp l1 l2 3 (ht.env j), fun j g t e => ?_⟩, fun h => Rel.mp l1 3 h⟩
  · rw [mapC_get, TL.get_del, Loc.get_del]
    split
    · trivial
    · rcases relK_get (ht.tl j) with ⟨e1, e2⟩ | ⟨o, p, e1, e2, hro⟩
      · rw [e1, e2]; trivial
      · rw [e1, e2]; exact hro.frz hF l1
  · obtain ⟨cs, h⟩ := ht.kp j g t e
    exact ⟨cs, by rw [Loc.get_del, if_neg (by rintro rfl; rw [hL] at h; injection h with h; cases h)]; exact h⟩
theorem frzK_sound : ∀ {fz : List Nat} {F : Frz} {L : Loc} {M : TL} {τ : TEnv} {args : List C} {vs : List Value} {K : TL → TEnv → List C → Prop}, St F L w → EnvOk L ρ a → TS G F L ρ M τ → Rels F L args vs → frzK fz M τ args K →
    ∃ F' L' M' τ' args', St F' L' w ∧ EnvOk L' ρ a ∧ Step F L w F' L' w ∧ TS G F' L' ρ M' τ' ∧ Rels F' L' args' vs ∧ K M' τ' args'
  | [], F, L, M, τ, args, vs, K, hs, he, ht, ha, h => ⟨F, L, M, τ, args, hs, he, Step.refl _ _ _, ht, ha, h⟩
  | k :: fz, F, L, M, τ, args, vs, K, hs, he, ht, ha, h => by
    simp only [frzK] at h
    split at h
    case h_2 => exact h.elim
    rename_i t sz els hk
    obtain ⟨F1, L1, g1, g2, g3, g4, g5⟩ := frz1_sound hs he ht hk
    obtain ⟨F2, L2, M2, τ2, args2, k1, k2, k3, k4, k5, k6⟩ := frzK_sound g1 g2 g4 (ha.map fun c _ v hc => g5 hc) h
    exact ⟨F2, L2, M2, τ2, args2, k1, k2, g3.trans k3, k4, k5, k6⟩

/-- what can be had for nothing -/
def mkL (L : Loc) : TL → Loc
  | [] => []
  | (k, o) :: l => (k, match L.get k with
    | some p => p
    | none => match o with
      | .row t sz _ => .row (.slice none 0 0) t sz 0 []
      | .box _ _ => .row (.slice none 0 0) 0 0 0 []) :: mkL L l
theorem mkL_get : ∀ (M1 : TL) (k : Nat), (mkL L M1).get k = match M1.get k with
    | some o => some (match L.get k with | some p => p | none => match o with | .row t sz _ => .row (.slice none 0 0) t sz 0 [] | .box _ _ => .row (.slice none 0 0) 0 0 0 [])
    | none => none
  | [], k => rfl
  | (j, o) :: l, k => by
    simp only [mkL, Loc.get, TL.get]
    cases h : Nat.beq j k with
    | true => have := Nat.eq_of_beq_eq_true h; subst this; rfl
    | false => exact mkL_get l k
theorem gives_at : ∀ {l : TL} {M1 : TL}, gives M M1 l → ∀ {k o}, l.get k = some o → (∃ p, M.get k = some p ∧ leO M M1 p o) ∨ (M.get k = none ∧ ∃ t sz, o = .row t sz [])
  | [], M1, h, k, o, e => by cases e
  | (j, p) :: l, M1, h, k, o, e => by
    simp only [gives] at h
    simp only [TL.get] at e
    split at e
    · rename_i hj
      have := Nat.eq_of_beq_eq_true hj
      subst this
      injection e with e
      subst e
      exact h.1
    · exact gives_at h.2 e
theorem mkL_gives (ht : RelTL F L M) {M1 : TL} : ∀ {l : TL}, gives M M1 l → L.gives (mkL L l)
  | [], h => trivial
  | (j, p) :: l, h => by
    simp only [gives] at h
    refine ⟨?_, mkL_gives ht h.2⟩
    rcases h.1 with ⟨q, e1, e2⟩ | ⟨e1, t, sz, rfl⟩
    · rcases relK_get (ht j) with ⟨c1, c2⟩ | ⟨o, p', c1, c2, hr⟩
      · rw [c1] at e1; cases e1
      · simp only [c2]; exact .inl trivial
    · have := tl_none ht e1
      simp only [this]
      exact .inr ⟨trivial, t, sz, rfl⟩
theorem hasKeys_rel {L' : Loc} {M1 : TL} (hl : ∀ k o, M1.get k ≠ none → L.get k = some o → L'.get k = some o) : ∀ (n : Nat) {c : C} {v : Value}, hasKeysA M1 n c = true → Rel F L c v → Rel F L' c v := by
  have leafc : ∀ {c : C} {v : Value}, c.leaf = true → hasKeys M1 c = true → Rel F L c v → Rel F L' c v := by
    intro c v hc hk h
    refine rel_leaf (Frz.le_refl F) (fun k e o ho => ⟨o, hl k o ?_ ho, Own.like_refl o⟩) hc h
    rcases e with ⟨off, rfl⟩ | rfl
    · simp only [hasKeys] at hk
      intro e
      rw [e] at hk
      cases hk
    · simp only [hasKeys] at hk
      intro e
      rw [e] at hk
      cases hk
  intro n
  induction n with
  | zero =>
    intro c v hk h
    cases hc : c.leaf
    · cases c <;> simp only [C.leaf, Bool.true_eq_false] at hc <;> simp only [hasKeysA, Bool.false_eq_true] at hk
    · refine leafc hc ?_ h
      cases c <;> simp only [C.leaf, Bool.false_eq_true] at hc <;> simpa only [hasKeysA] using hk
  | succ n ih =>
    intro c v hk h
    have all : ∀ {cs : List C} {vs : List Value}, cs.all (hasKeysA M1 n) = true → Rels F L cs vs → Rels F L' cs vs := by
      intro cs vs h1 h2
      have := h2.map (g := id) (F' := F) (L' := L') (fun c hc v hv => ih (List.all_eq_true.1 h1 c hc) hv)
      simpa using this
    cases hc : c.leaf
    · cases c <;> simp only [C.leaf, Bool.true_eq_false] at hc <;> simp only [hasKeysA, Bool.and_eq_true] at hk <;> simp only [Rel] at h ⊢
      · obtain ⟨fi', ca', h1, h2, h3⟩ := h
        exact ⟨fi', ca', h1, all hk.1 h2, all hk.2 h3⟩
      · obtain ⟨vs, h1, h2⟩ := h
        exact ⟨vs, h1, all hk h2⟩
      · obtain ⟨vs, h1, h2⟩ := h
        exact ⟨vs, h1, all hk h2⟩
    · refine leafc hc ?_ h
      cases c <;> simp only [C.leaf, Bool.false_eq_true] at hc <;> simpa only [hasKeysA] using hk
theorem leC_rel (ht : RelTL F L M) {M1 : TL} {c c' : C} {v : Value} (h : leC M M1 c c') (hr : Rel F L c v) : Rel F (mkL L M1) c' v := by
  rcases h with rfl | ⟨rfl, hk⟩ | ⟨rfl, rfl⟩ | ⟨rfl, k, t, sz, rfl, h1, h2⟩ | ⟨els, rfl, rfl⟩
  · simp only [Rel]
  · refine hasKeys_rel (fun k o h1 h2 => ?_) 3 hk hr
    rw [mkL_get]
    cases e : M1.get k with
    | none => exact absurd e h1
    | some q => simp only [h2]
  · exact can_rel (c := .nils) (by simpa only [Rel] using hr)
  · simp only [Rel] at hr ⊢
    subst hr
    refine ⟨none, 0, t, sz, 0, [], rfl, ?_⟩
    rw [mkL_get, h2]
    simp only [tl_none ht h1]
  · simpa only [Rel] using slx_sl hr
theorem leCs_rel (ht : RelTL F L M) {M1 : TL} : ∀ {cs cs' : List C} {vs : List Value}, leCs M M1 cs cs' → Rels F L cs vs → Rels F (mkL L M1) cs' vs
  | [], cs', vs, h, hr => by simp only [leCs] at h; subst h; simpa only [Rels] using hr
  | c :: cs, cs', vs, h, hr => by
    simp only [leCs] at h
    obtain ⟨c', cs2, rfl, h1, h2⟩ := h
    simp only [Rels] at hr ⊢
    obtain ⟨v, vs', rfl, hr1, hr2⟩ := hr
    exact ⟨v, vs', rfl, leC_rel ht h1 hr1, leCs_rel ht h2 hr2⟩
theorem leO_rel (ht : RelTL F L M) {M1 : TL} {o o' : TO} {p : Own} (h : leO M M1 o o') (hr : RelO F L o p) : RelO F (mkL L M1) o' p := by
  rcases h with ⟨rfl, hk⟩ | ⟨t, cs, cs', rfl, rfl, h⟩
  · cases o with
    | row t sz els => cases p with
      | row => exact hr
      | box => exact hr.elim
    | box t cs => cases p with
      | row => exact hr.elim
      | box g t' vs =>
        simp only [keysO] at hk
        refine ⟨hr.1, ?_⟩
        have := hr.2.map (g := id) (F' := F) (L' := mkL L M1) (fun c hc v hv => hasKeys_rel (fun k o h1 h2 => by
          rw [mkL_get]
          cases e : M1.get k with
          | none => exact absurd e h1
          | some q => simp only [h2]) 3 (List.all_eq_true.1 hk c hc) hv)
        simpa using this
  · cases p with
    | row => exact hr.elim
    | box g t' vs => exact ⟨hr.1, leCs_rel ht h hr.2⟩
theorem gives_tl (ht : RelTL F L M) {M1 : TL} (h : gives M M1 M1) : RelTL F (mkL L M1) M1 := by
  intro k
  rw [mkL_get]
  cases e : M1.get k with
  | none => trivial
  | some o =>
    rcases gives_at h e with ⟨q, e1, e2⟩ | ⟨e1, t, sz, rfl⟩
    · rcases relK_get (ht k) with ⟨c1, c2⟩ | ⟨q', p, c1, c2, hr⟩
      · rw [c1] at e1; cases e1
      · rw [c1] at e1
        injection e1 with e1
        subst e1
        simp only [c2]
        exact leO_rel ht e2 hr
    · simp only [tl_none ht e1]
      exact ⟨rfl, rfl, rfl, ⟨by simp, none, 0, rfl, fun _ => rfl⟩, by simp only [RelRow]⟩
theorem gives_St (hs : St F L w) (ht : RelTL F L M) {M1 : TL} (h : gives M M1 M1) : St F (mkL L M1) w ∧ Step F L w F (mkL L M1) w := ⟨hs.gives (mkL_gives ht h), gives_step (mkL_gives ht h)⟩
theorem keepsT_box : ∀ {l M1 : TL}, keepsT l M1 = true → ∀ {k t cs}, l.get k = some (.box t cs) → ∃ t' cs', M1.get k = some (.box t' cs')
  | [], M1, h, k, t, cs, e => by cases e
  | (j, .box t0 c0) :: l, M1, h, k, t, cs, e => by
    simp only [keepsT] at h
    split at h
    case h_2 => cases h
    rename_i t1 c1 h1
    simp only [TL.get] at e
    split at e
    · rename_i hj
      have := Nat.eq_of_beq_eq_true hj
      subst this
      exact ⟨_, _, h1⟩
    · exact keepsT_box h e
  | (j, .row ..) :: l, M1, h, k, t, cs, e => by
    simp only [keepsT] at h
    simp only [TL.get] at e
    split at e
    · cases e
    · exact keepsT_box h e
theorem covers_get : ∀ {l M1 : TL}, covers l M1 = true → ∀ {k o}, l.get k = some o → ∃ o', M1.get k = some o'
  | [], M1, h, k, o, e => by cases e
  | (j, p) :: l, M1, h, k, o, e => by
    simp only [covers] at h
    split at h
    case h_2 => cases h
    rename_i q h1
    simp only [TL.get] at e
    split at e
    · rename_i hj
      have := Nat.eq_of_beq_eq_true hj
      subst this
      exact ⟨_, h1⟩
    · exact covers_get h e
/-- the boxes stay -/
theorem mkL_box (ht : RelTL F L M) {M1 : TL} (hk : ∀ {k t cs}, M.get k = some (.box t cs) → M1.get k ≠ none) {k g t cs} (h : L.get k = some (.box g t cs)) : (mkL L M1).get k = some (.box g t cs) := by
  rcases relK_get (ht k) with ⟨c1, c2⟩ | ⟨q, p, c1, c2, hr⟩
  · rw [c2] at h; cases h
  · rw [c2] at h
    injection h with h
    subst h
    cases q with
    | row => exact hr.elim
    | box t' cs' =>
      have := hk c1
      rw [mkL_get]
      cases e : M1.get k with
      | none => exact absurd e this
      | some o => simp only [c2]
theorem env_keep {L' : Loc} (he : EnvOk L ρ a) (h : ∀ k g t cs, L.get k = some (.box g t cs) → ∃ cs', L'.get k = some (.box g t cs')) : EnvOk L' ρ a := by
  refine ⟨fun t => ?_, fun t k off e => ?_, he.el⟩
  · rw [he.eq t]
    cases e : ρ t with
    | v x => rfl
    | el a j => rfl
    | own k off =>
      obtain ⟨g, ty, cs, hg⟩ := he.own t k off e
      obtain ⟨cs', hg'⟩ := h _ _ _ _ hg
      simp only [conc, hg, hg']
  · obtain ⟨g, ty, cs, hg⟩ := he.own t k off e
    obtain ⟨cs', hg'⟩ := h _ _ _ _ hg
    exact ⟨g, ty, cs', hg'⟩
/-- nil cells turn into empty rows -/
theorem gives_sound (hs : St F L w) (he : EnvOk L ρ a) (ht : TS G F L ρ M τ) {M1 : TL} (h : gives M M1 M1) (hc : covers M M1 = true) :
    St F (mkL L M1) w ∧ EnvOk (mkL L M1) ρ a ∧ Step F L w F (mkL L M1) w ∧ TS G F (mkL L M1) ρ M1 τ ∧ Ext L (mkL L M1) := by
  obtain ⟨h1, h2⟩ := gives_St hs ht.tl h
  have hext : ∀ k o, L.get k = some o → (mkL L M1).get k = some o := by
    intro k o e
    rcases relK_get (ht.tl k) with ⟨c1, c2⟩ | ⟨q, p, c1, c2, hr⟩
    · rw [c2] at e; cases e
    · obtain ⟨o', e'⟩ := covers_get hc c1
      rw [mkL_get, e']
      simp only [e]
  refine ⟨h1, env_keep he fun k g t cs e => ⟨cs, hext _ _ e⟩, h2, ⟨gives_tl ht.tl h, fun j => (ht.env j).ext (Frz.le_refl F) fun k o e => ⟨o, hext k o e, Own.like_refl o⟩, fun k g t e => ?_⟩, fun k o e => ⟨o, hext k o e, Own.like_refl o⟩⟩
  obtain ⟨cs, h⟩ := ht.kp k g t e
  exact ⟨cs, hext _ _ h⟩

/- calls within a region that draws its order -/
theorem tokD {F : Frz} {args : List C} {vs : List Value} (ha : Rels F L args vs) : Rels F (inp []) (args.map fun c => c.canA.ren (toIn [] 1000)) vs :=
  ha.map fun c _ v hc => (canA_rel hc).ren (fun j m e => by cases e)
theorem tl_nil : RelTL F (inp []) (tinp []) := fun k => by rw [tinp_get, inp_get]; split <;> simp [RelK]
theorem sim_callD {f : Nat} {args : List C} {vs : List Value} {d : Option Nat} {K : TL → C → Prop} (ht : TS G F L ρ M τ) (ha : Rels F L args vs) (h : CallDT P f args M d K) :
    CallDPt P f vs F L d (fun F' L' v => ∃ M' c, TS G F' L' ρ M' τ ∧ RelV F' L' c (.v v) ∧ K M' c) := by
  cases h with
  | frz R h k =>
    refine .frz (ResA [] R) (h.out F [] vs rfl tl_nil (tokD ha)) ?_
    rintro v F' Lo hF ⟨Mo, c, q1, q2, q3, q4, q5⟩
    obtain ⟨rfl, k2⟩ := k c Mo q5 q3.wf
    have : Lo = [] := List.length_eq_zero_iff.1 (by rw [← q1]; rfl)
    subst this
    exact ⟨rfl, fun _ => ⟨M, _, ht.mono hF, slt_rel (q3.ext (Frz.le_refl F') (fun k o e => by rw [inp_get] at e; split at e <;> simp at e)), k2⟩⟩
  | own R k h hd hk kk =>
    refine .own (ResA [] R) k (h.out F [] vs rfl tl_nil (tokD ha)) hd (tl_none ht.tl hk) ?_
    rintro v F' Lo hF ⟨Mo, c, q1, q2, q3, q4, q5⟩
    have hwo : ∀ o ∈ Mo, o.Wf := by
      intro o ho
      obtain ⟨i, hi⟩ := List.mem_iff_getElem?.1 ho
      have hlt : i < Lo.length := by rw [← q1]; exact (List.getElem?_eq_some_iff.1 hi).1
      have := q2 (1000 + i)
      rw [tinp_get, inp_get, if_pos (by omega), if_pos (by omega), show 1000 + i - 1000 = i by omega, hi, List.getElem?_eq_getElem hlt] at this
      exact RelO.wf this
    obtain ⟨o, rfl, k2⟩ := kk c Mo q5 q3.wf hwo
    match Lo, q1 with
    | [p], _ =>
      have hback : ∀ j m, fromIn [k] j = some m → ∀ o, (inp [p]).get j = some o → (L.set k p).get m = some o := by
        intro j m hj o ho
        obtain ⟨a1, a2⟩ := fromIn_eq hj
        rw [inp_get, if_pos a1] at ho
        have : j - 1000 = 0 := by have := (List.getElem?_eq_some_iff.1 a2).1; simp at this; omega
        rw [this] at ho a2
        simp at ho a2
        subst ho a2
        rw [Loc.get_set, if_pos rfl]
      have hro := q2 1000
      rw [tinp_get, inp_get, if_pos (by omega), if_pos (by omega)] at hro
      refine ⟨p, rfl, fun _ => ⟨_, _, ht.new hF (tl_none ht.tl hk) (RelO.ren hback hro), slt_rel (q3.ren hback), k2⟩⟩

def callOp : SOp → Bool
  | .call _ _ => true
  | .callV _ _ => true
  | _ => false
theorem TS.kput {F : Frz} {L : Loc} {ρ : Env} {M : TL} {τ : TEnv} {K : TK} {d : Option Nat} (ht : TS G F L ρ M τ) {c : C} {sv : SV} (hc : RelV F L c sv) (h : K M (tput d c τ)) : Both G K F L (Fr.put d sv ρ) := ⟨_, _, ht.put hc d, h⟩

theorem conc_vals (h : ∀ j, RelV F L (τ j) (ρ j)) {fi ca : List C} {fi' ca' : List Value} (h1 : Rels F L fi fi') (h2 : Rels F L ca ca') (args : List X) : Rels F L (fi ++ evalsT τ args ++ ca) (fi'.toArray.toList ++ evals L ρ args ++ ca'.toArray.toList) := by
  simpa using (h1.append (evals_rel h args)).append h2
theorem CallPt.imp {f : Nat} {args : List Value} {F : Frz} {L : Loc} {K K' : Frz → Loc → Value → Prop} (h : CallPt P f args F L K) (hk : ∀ F' L' v, K F' L' v → K' F' L' v) : CallPt P f args F L K' := by
  obtain ⟨ks, ko, Lin, R, h1, h2, h3, h4, h5, h6⟩ := h
  exact ⟨ks, ko, Lin, R, h1, h2, h3, h4, h5, fun v F' Lo hF hR => let ⟨a, b, c⟩ := h6 v F' Lo hF hR; ⟨a, b, hk _ _ _ c⟩⟩
theorem CallDPt.imp' {f : Nat} {args : List Value} {F : Frz} {L : Loc} {d : Option Nat} {K K' : Frz → Loc → Value → Prop} (h : CallDPt P f args F L d K) (hk : ∀ F' L' v, K F' L' v → K' F' L' v) : CallDPt P f args F L d K' := by
  cases h with
  | frz R h k => exact .frz R h fun v F' Lo hF hR => let ⟨a, b⟩ := k v F' Lo hF hR; ⟨a, fun hr => hk _ _ _ (b hr)⟩
  | own R k h hd hk' kk => exact .own R k h hd hk' fun v F' Lo hF hR => let ⟨o, a, b⟩ := kk v F' Lo hF hR; ⟨o, a, fun hr => hk _ _ _ (b hr)⟩
theorem binI_imp {op : BinOp} {k : IntKind} {a b : Int} {K K' : Value → Prop} (h : binI op k a b K) (hk : ∀ v, K v → K' v) : binI op k a b K' := by
  cases op <;> simp only [binI] at h ⊢ <;> first
    | exact h.elim
    | exact ⟨hk _ h.out⟩
    | exact ⟨h.ne, ⟨hk _ h.out.out⟩⟩
    | exact ⟨h.ne, hk _ h.out⟩
    | exact hk _ h
theorem shI_imp {op : BinOp} {k : IntKind} {a b : Int} {K K' : Value → Prop} (h : shI op k a b K) (hk : ∀ v, K v → K' v) : shI op k a b K' := by
  cases op <;> simp only [shI] at h ⊢ <;> first
    | exact h.elim
    | exact ⟨h.1, ⟨hk _ h.2.out⟩⟩
    | exact ⟨h.1, hk _ h.2⟩
theorem binS_imp {op : BinOp} {a b : ByteArray} {K K' : Value → Prop} (h : binS op a b K) (hk : ∀ v, K v → K' v) : binS op a b K' := by
  cases op <;> simp only [binS] at h ⊢ <;> first
    | exact h.elim
    | exact hk _ h
    | exact ⟨h.1, hk _ h.2⟩
theorem outV_imp {o : SOp} {V V' : SV → Prop} {F : Frz} {L : Loc} {ρ : Env} (h : outV o F L ρ V) (hk : ∀ v, V v → V' v) : outV o F L ρ V' := by
  have load : ∀ {a : Option Addr} {j n : Nat} {g : List Value → SV}, LoadPt F L a j n (fun cs => V (g cs)) → LoadPt F L a j n (fun cs => V' (g cs)) := fun h => ⟨let ⟨cs, h1, h2, h3⟩ := h.out; ⟨cs, h1, h2, hk _ h3⟩⟩
  have loadD : ∀ {a : Option Addr} {j n : Nat} {g : List Value → SV}, LoadDPt F a j n (fun cs => V (g cs)) → LoadDPt F a j n (fun cs => V' (g cs)) := fun h => ⟨let ⟨cs, h1, h2, h3⟩ := h.out; ⟨cs, h1, h2, hk _ h3⟩⟩
  cases o <;> simp only [outV] at h ⊢ <;> first
    | exact h.elim
    | exact hk _ h
    | skip
  case pick c a b =>
    generalize ev ρ c = z at h ⊢
    split at h <;> first | exact h.elim | exact hk _ h
  case build zs ps =>
    generalize built L ρ zs ps = z at h ⊢
    split at h <;> first | exact h.elim | exact hk _ h
  case load agg n x =>
    generalize ev ρ x = z at h ⊢
    split at h
    · rename_i k off
      generalize L.get k = y at h ⊢
      split at h
      · rename_i cs
        generalize len? ((cs.drop off).take n) n = b at h ⊢
        cases b
        · exact h.elim
        · exact hk _ h
      · exact h.elim
    · exact load h
    · exact load h
    · exact h.elim
  case loadD agg n x =>
    generalize ev ρ x = z at h ⊢
    split at h
    · rename_i k off
      generalize L.get k = y at h ⊢
      split at h
      · rename_i cs
        generalize len? ((cs.drop off).take n) n = b at h ⊢
        cases b
        · exact h.elim
        · exact hk _ h
      · exact h.elim
    · exact loadD h
    · exact loadD h
    · exact h.elim
  case nilck x =>
    generalize ev ρ x = z at h ⊢
    split at h <;> first | exact h.elim | exact hk _ h | exact ⟨h.1, hk _ h.2⟩
  case bin op x y =>
    generalize ev ρ x = z at h ⊢
    generalize ev ρ y = z' at h ⊢
    split at h
    · rename_i k a k' b
      generalize isSh op = q at h ⊢
      cases q
      · generalize kindEq k k' = r at h ⊢
        cases r
        · exact h.elim
        · exact binI_imp h fun v => hk _
      · exact shI_imp h fun v => hk _
    · exact binS_imp h fun v => hk _
    · exact h.elim
  case eqB neg x y =>
    generalize ev ρ x = z at h ⊢
    generalize ev ρ y = z' at h ⊢
    split at h <;> first | exact h.elim | exact hk _ h
  case eqP neg x y =>
    generalize ev ρ x = z at h ⊢
    generalize ev ρ y = z' at h ⊢
    split at h <;> first | exact h.elim | exact hk _ h
  case eqS neg x y =>
    generalize ev ρ x = z at h ⊢
    generalize ev ρ y = z' at h ⊢
    split at h <;> first | exact h.elim | exact hk _ h
  case eqF neg x y =>
    generalize ev ρ x = z at h ⊢
    generalize ev ρ y = z' at h ⊢
    split at h <;> first | exact h.elim | exact hk _ h
  case un op x =>
    generalize ev ρ x = z at h ⊢
    split at h <;> first | exact h.elim | exact hk _ h | exact ⟨hk _ h.out⟩
  case conv k x =>
    generalize ev ρ x = z at h ⊢
    split at h <;> first | exact h.elim | exact ⟨hk _ h.out⟩
  case b2s x =>
    generalize ev ρ x = z at h ⊢
    split at h
    · exact ⟨let ⟨cs, h1, h2, ⟨bs, h3, h4⟩⟩ := h.out; ⟨cs, h1, h2, ⟨bs, h3, hk _ h4⟩⟩⟩
    · exact h.elim
  case slc sz x lo hi =>
    generalize ev ρ x = z at h ⊢
    split at h
    · rename_i a n c
      generalize optI ρ 0 lo = y at h ⊢
      generalize optI ρ n hi = y' at h ⊢
      split at h
      · exact ⟨h.lo, h.le, h.hi, hk _ h.out⟩
      · exact h.elim
    · exact h.elim
  case slcS x lo hi =>
    generalize ev ρ x = z at h ⊢
    split at h
    · rename_i s
      generalize optI ρ 0 lo = y at h ⊢
      generalize optI ρ s.size hi = y' at h ⊢
      split at h
      · exact ⟨h.lo, h.le, h.hi, hk _ h.out⟩
      · exact h.elim
    · exact h.elim
  case fieldA off x =>
    generalize ev ρ x = z at h ⊢
    split at h <;> first | exact h.elim | exact hk _ h
  case fieldV agg off n x =>
    generalize ev ρ x = z at h ⊢
    split at h
    · rename_i cs
      generalize len? ((cs.toList.drop off).take n) n = b at h ⊢
      cases b
      · exact h.elim
      · exact hk _ h
    · exact h.elim
  case idxA sz x i =>
    generalize ev ρ x = z at h ⊢
    generalize ev ρ i = z' at h ⊢
    split at h
    · exact ⟨h.ne, h.lo, h.hi, hk _ h.out⟩
    · exact h.elim
  case idxS x i =>
    generalize ev ρ x = z at h ⊢
    generalize ev ρ i = z' at h ⊢
    split at h
    · exact ⟨h.lo, h.hi, hk _ h.out⟩
    · exact h.elim
  case extr x i =>
    generalize ev ρ x = z at h ⊢
    split at h
    · rename_i vs
      generalize vs.toList[i]? = y at h ⊢
      cases y
      · exact h.elim
      · exact hk _ h
    · exact h.elim
  case len x =>
    generalize ev ρ x = z at h ⊢
    split at h <;> first | exact h.elim | exact hk _ h
  case lenS x =>
    generalize ev ρ x = z at h ⊢
    split at h <;> first | exact h.elim | exact hk _ h
  case capa x =>
    generalize ev ρ x = z at h ⊢
    split at h <;> first | exact h.elim | exact hk _ h
  case mm mx args =>
    generalize args.map (ev ρ) = z at h ⊢
    split at h
    · rename_i k a l
      generalize mmI mx a l = y at h ⊢
      cases y
      · exact h.elim
      · exact hk _ h
    · exact h.elim
theorem simOut {o : SOp} {d : Option Nat} {K : TK} {F : Frz} {L : Loc} {ρ : Env} {M : TL} {τ : TEnv} (ht : TS G F L ρ M τ) (h : outT o M τ fun v => K M (tput d v τ)) : outV o F L ρ (fun v => Both G K F L (Fr.put d v ρ)) :=
  outV_imp (simV ht h) fun sv ⟨c, hc, hK⟩ => ht.kput hc hK

set_option maxHeartbeats 1000000 in
/-- all operations but calls that are handed something -/
theorem simOp {o : SOp} {d : Option Nat} {K : TK} {F : Frz} {L : Loc} {ρ : Env} {M : TL} {τ : TEnv} (ho : callOp o = false) (ht : TS G F L ρ M τ) (h : evalTOp P o d M τ K) : evalOp P o d F L ρ (Both G K) := by
  have he := ht.env
  cases o
  case call => cases ho
  case callV => cases ho
  case box t x =>
    simp only [evalTOp, fT_eq, fl_eq, fca_eq] at h
    simp only [evalOp]
    split at h
    case h_2 => exact h.elim
    rename_i k
    split at h
    case h_2 => exact h.elim
    rename_i hk hc
    simp only [tl_none ht.tl hk]
    exact fun g => sim_box ht hk hc h g
  case boxD t x =>
    simp only [evalTOp, fT_eq, fl_eq, fca_eq] at h
    simp only [evalOp]
    split at h
    case h_2 => exact h.elim
    rename_i k
    split at h
    case h_2 => exact h.elim
    rename_i hk hc
    simp only [tl_none ht.tl hk]
    exact fun g _ => sim_box ht hk hc h g
  case boxF t x =>
    simp only [evalTOp, fT_eq, fl_eq, fca_eq] at h
    simp only [evalOp]
    split at h
    case h_2 => exact h.elim
    rename_i h1 h2 h3
    intro g F' hF hg
    exact (ht.mono hF).kput (frz_pt hg (ones_can h2) (cans_rel ((pures_rel h3 (vals_cells he h1)).mono hF))) h
  case alloc t zs =>
    simp only [evalTOp, fT_eq, fl_eq, fca_eq] at h
    simp only [evalOp]
    split at h
    case h_2 => exact h.elim
    rename_i k
    split at h
    case h_2 => exact h.elim
    rename_i hk
    simp only [tl_none ht.tl hk]
    exact fun g => sim_alloc ht hk h g
  case allocD t zs =>
    simp only [evalTOp, fT_eq, fl_eq, fca_eq] at h
    simp only [evalOp]
    split at h
    case h_2 => exact h.elim
    rename_i k
    split at h
    case h_2 => exact h.elim
    rename_i hk
    simp only [tl_none ht.tl hk]
    exact fun g _ => sim_alloc ht hk h g
  case mkF e n sz xs =>
    simp only [evalTOp, fT_eq, fl_eq, fca_eq] at h
    simp only [evalOp]
    split at h
    case h_2 => exact h.elim
    rename_i h1 h2 h3
    rw [(parts_sound he h1).1]
    exact fun g F' hF hg => sim_mkF ht h1 (Nat.eq_of_beq_eq_true h2) (Nat.le_of_ble_eq_true h3) h hF hg
  case mkFD e n sz xs =>
    simp only [evalTOp, fT_eq, fl_eq, fca_eq] at h
    simp only [evalOp]
    split at h
    case h_2 => exact h.elim
    rename_i h1 h2 h3
    rw [(parts_sound he h1).1]
    exact fun g F' hF hg _ => sim_mkF ht h1 (Nat.eq_of_beq_eq_true h2) (Nat.le_of_ble_eq_true h3) h hF hg
  case mkR e n sz xs =>
    simp only [evalTOp, fT_eq, fl_eq, fca_eq] at h
    simp only [evalOp]
    split at h
    case h_2 => exact h.elim
    rename_i k h1 h2 h3
    split at h
    case h_2 => exact h.elim
    rename_i hk
    rw [(parts_sound he h1).1]
    simp only [tl_none ht.tl hk]
    exact fun g => sim_mkR ht h1 (Nat.eq_of_beq_eq_true h2) (Nat.le_of_ble_eq_true h3) hk h g
  case s2b e x =>
    simp only [evalTOp, fT_eq, fl_eq, fca_eq] at h
    simp only [evalOp]
    split at h
    case h_2 => exact h.elim
    rename_i s hx
    obtain ⟨e1, e2⟩ := inv_str he hx
    rw [e1]
    intro g c F' hF hf hc
    have hl : (bcells s.data.toList).length = s.size := by simp [bcells]
    have := relV_sl (F := F') (L := L) (els := bcells s.data.toList) (a := some ⟨g, 0, none⟩) (c := c) (sz := 1) (by rw [hl]; exact hc) (by rw [hl]; exact e2) (fun e => by cases e) (RelS_bytes hf)
    rw [hl] at this
    exact (ht.mono hF).kput this h
  case makeS => exact sim_makeS ht h
  case store n y x => exact sim_store ht h
  case storeD n y x => exact sim_storeD ht h
  case callD f args =>
    simp only [evalTOp, fT_eq, fl_eq, fca_eq] at h
    simp only [evalOp]
    refine CallDPt.imp' (sim_callD ht (evals_rel he args) h) ?_
    rintro F' L' v ⟨M', c, h1, h2, h3⟩
    exact h1.kput h2 h3
  case callVD f args =>
    simp only [evalTOp, fT_eq, fl_eq, fca_eq] at h
    simp only [evalOp]
    split at h
    case h_2 => exact h.elim
    rename_i f' fi ca hx
    obtain ⟨fi', ca', e1, h1, h2⟩ := inv_fn he hx
    rw [e1]
    refine CallDPt.imp' (sim_callD ht (conc_vals he h1 h2 args) h) ?_
    rintro F' L' v ⟨M', c, h1, h2, h3⟩
    exact h1.kput h2 h3
  case callO f args =>
    simp only [evalTOp, fT_eq, fl_eq, fca_eq] at h
    simp only [evalOp]
    obtain ⟨ks, ko, Lin, R, h1, h2, h3, h4, h5, h6, h7⟩ := h
    refine CallPt.imp (sim_call0 (K := fun M' τ' v => K M' (tput d v τ')) ht (evals_rel he args) h1 h2 h3 h4 h5 h6 h7) ?_
    rintro F' L' v ⟨M', τ', c, h1, h2, h3⟩ _
    exact h1.kput h2 h3
  case callVO f args =>
    simp only [evalTOp, fT_eq, fl_eq, fca_eq] at h
    simp only [evalOp]
    split at h
    case h_2 => exact h.elim
    rename_i f' fi ca hx
    obtain ⟨fi', ca', e1, g1, g2⟩ := inv_fn he hx
    rw [e1]
    obtain ⟨ks, ko, Lin, R, h1, h2, h3, h4, h5, h6, h7⟩ := h
    refine CallPt.imp (sim_call0 (K := fun M' τ' v => K M' (tput d v τ')) ht (conc_vals he g1 g2 args) h1 h2 h3 h4 h5 h6 h7) ?_
    rintro F' L' v ⟨M', τ', c, h1, h2, h3⟩ _
    exact h1.kput h2 h3
  case app => exact sim_app ht h
  case appX => exact sim_appX ht h
  case appD => exact sim_appD ht h
  case appS => exact sim_appS ht h
  case copy => exact h.elim
  all_goals
    simp only [evalTOp, fT_eq, fl_eq, fca_eq] at h
    simp only [evalOp]
    exact simOut (d := d) (K := K) ht h
end
end Go.Fr.T
