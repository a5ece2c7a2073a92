/- Regions that draw their order: the evaluator's word on one order is its word on all. -/
import Derived.Test.YtgapnemcomkomaaFrDraw2
set_option linter.unusedVariables false
set_option linter.unusedSimpArgs false
namespace Go.Fr
open Go Go.RowKit

def lowRegD (P : Program) (A : Ann) (ops : Array Oper) : List Nat → Option (List SStep)
  | [] => some []
  | i :: is => match lowD P A ops i, lowRegD P A ops is with
    | some s, some ss => some (s :: ss)
    | _, _ => none

def binding (e : Edge) : Bool := Region.binds .any e
/-- the operations that one waits for -/
def direct (ops : Array Oper) (i : Nat) : List Nat :=
  match ops[i]? with
  | some o => (o.after.toList.filter binding).map (·.on)
  | none => []
def clAt : List (List Nat) → Nat → List Nat
  | [], _ => []
  | l :: _, 0 => l
  | _ :: ls, n + 1 => clAt ls n
def anyMem (cl : List (List Nat)) (x : Nat) : List Nat → Bool
  | [] => false
  | z :: zs => match mem? (clAt cl z) x with | true => true | false => anyMem cl x zs
def clOkAt (ops : Array Oper) (cl : List (List Nat)) (y : Nat) : Bool :=
  (direct ops y).all (fun z => Nat.blt z y) && (clAt cl y).all (fun x => mem? (direct ops y) x || anyMem cl x (direct ops y))
def clOk (ops : Array Oper) (cl : List (List Nat)) : Bool := (List.range ops.size).all (clOkAt ops cl)
def pairsOk (cl : List (List Nat)) : List (Nat × SStep) → Bool
  | [] => true
  | (x, sx) :: l => l.all (fun p => pairOk sx p.2 || mem? (clAt cl p.1) x) && pairsOk cl l
def nodup? : List Nat → Bool
  | [] => true
  | x :: l => !mem? l x && nodup? l
def drawOk (P : Program) (ops : Array Oper) (is : List Nat) (cl : List (List Nat)) (ss : List SStep) : Bool :=
  P.follows .mixedOrders && clOk ops cl && nodup? is && Nat.beq is.length ops.size && is.all (fun i => Nat.blt i ops.size) && (List.range ops.size).all (mem? is) && pairsOk cl (is.zip ss)

theorem nodup?_eq : ∀ {l : List Nat}, nodup? l = true → l.Nodup
  | [], _ => List.nodup_nil
  | x :: l, h => by
    simp only [nodup?, Bool.and_eq_true, Bool.not_eq_true'] at h
    refine List.nodup_cons.2 ⟨fun hx => ?_, nodup?_eq h.2⟩
    rw [mem?_eq.2 hx] at h
    cases h.1

theorem anyMem_eq {cl : List (List Nat)} {x : Nat} : ∀ {l : List Nat}, anyMem cl x l = true → ∃ z, z ∈ l ∧ x ∈ clAt cl z
  | [], h => by cases h
  | z :: zs, h => by
    simp only [anyMem] at h
    split at h
    · rename_i hz; exact ⟨z, by simp, mem?_eq.1 hz⟩
    · obtain ⟨z', h1, h2⟩ := anyMem_eq h
      exact ⟨z', by simp [h1], h2⟩

section
variable {P : Program} {K : Kont} {Q : Exit → Act → World → Prop} {ops : Array Oper}

/-- what is done is closed under waiting -/
theorem closed_done {cl : List (List Nat)} (hcl : clOk ops cl = true) {done : Nat → Prop} (hclosed : ∀ i, i < ops.size → done i → ∀ z ∈ direct ops i, done z) : ∀ y, y < ops.size → (∀ z ∈ direct ops y, done z) → ∀ x ∈ clAt cl y, done x := by
  intro y
  induction y using Nat.strongRecOn with
  | _ y ih =>
    intro hy hd x hx
    have h := List.all_eq_true.1 hcl y (List.mem_range.2 hy)
    simp only [clOkAt, Bool.and_eq_true] at h
    have h2 := List.all_eq_true.1 h.2 x hx
    simp only [Bool.or_eq_true] at h2
    rcases h2 with h2 | h2
    · exact hd x (mem?_eq.1 h2)
    · obtain ⟨z, hz, hxz⟩ := anyMem_eq h2
      have hlt : z < y := by
        have h3 : Nat.blt z y = true := List.all_eq_true.1 h.1 z hz
        simpa using h3
      exact ih z hlt (by omega) (hclosed z (by omega) (hd z hz)) x hxz

theorem lowRegD_get {A : Ann} : ∀ {is : List Nat} {ss : List SStep}, lowRegD P A ops is = some ss → ss.length = is.length ∧ ∀ p q y, is = p ++ y :: q → ∃ sp sy sq, ss = sp ++ sy :: sq ∧ sp.length = p.length ∧ lowD P A ops y = some sy ∧ lowRegD P A ops (p ++ q) = some (sp ++ sq)
  | [], ss, h => by
    simp only [lowRegD, Option.some.injEq] at h
    subst h
    refine ⟨rfl, fun p q y e => ?_⟩
    cases p <;> cases e
  | i :: is, ss, h => by
    simp only [lowRegD] at h
    split at h
    case h_2 => cases h
    rename_i s ss' h1 h2
    injection h with h
    subst h
    obtain ⟨e1, e2⟩ := lowRegD_get h2
    refine ⟨by simp [e1], fun p q y e => ?_⟩
    cases p with
    | nil =>
      simp only [List.nil_append, List.cons.injEq] at e
      obtain ⟨rfl, rfl⟩ := e
      exact ⟨[], s, ss', rfl, rfl, h1, by simpa using h2⟩
    | cons x p =>
      simp only [List.cons_append, List.cons.injEq] at e
      obtain ⟨rfl, rfl⟩ := e
      obtain ⟨sp, sy, sq, e3, e4, e5, e6⟩ := e2 p q y rfl
      refine ⟨s :: sp, sy, sq, by simp [e3], by simp [e4], e5, ?_⟩
      simp only [List.cons_append, lowRegD, h1, e6]

theorem pairsOk_del {cl : List (List Nat)} : ∀ {p q : List (Nat × SStep)} {y : Nat × SStep}, pairsOk cl (p ++ y :: q) = true → pairsOk cl (p ++ q) = true ∧ ∀ x ∈ p, pairOk x.2 y.2 = true ∨ x.1 ∈ clAt cl y.1
  | [], q, y, h => by
    obtain ⟨y1, y2⟩ := y
    simp only [List.nil_append, pairsOk, Bool.and_eq_true] at h ⊢
    exact ⟨h.2, fun x hx => by cases hx⟩
  | (x1, x2) :: p, q, y, h => by
    simp only [List.cons_append, pairsOk, Bool.and_eq_true] at h ⊢
    obtain ⟨h1, h2⟩ := h
    obtain ⟨h3, h4⟩ := pairsOk_del h2
    have h1' := List.all_eq_true.1 h1
    refine ⟨⟨List.all_eq_true.2 fun z hz => h1' z ?_, h3⟩, fun x hx => ?_⟩
    · rcases List.mem_append.1 hz with hz | hz
      · exact List.mem_append.2 (.inl hz)
      · exact List.mem_append.2 (.inr (List.mem_cons_of_mem _ hz))
    · rcases List.mem_cons.1 hx with rfl | hx
      · have := h1' y (List.mem_append.2 (.inr (by simp)))
        simp only [Bool.or_eq_true] at this
        rcases this with h | h
        · exact .inl h
        · exact .inr (mem?_eq.1 h)
      · exact h4 x hx

/-- one operation of the region, at a state -/
theorem step_any {A : Ann} {i : Nat} {s : SStep} {rest : List SStep} {F : Frz} {L : Loc} {ρ : Env} {a : Act} {w : World} {KK : Act → World → Prop} (hi : i < ops.size) (hl : lowD P A ops i = some s) (hs : St F L w) (he : EnvOk L ρ a) (hn : a.tmps.size = A.n) (hdf : a.defers = [])
    (hK : evalOps P (s :: rest) F L ρ K)
    (hQ : ∀ a' w' F' L' ρ', St F' L' w' → EnvOk L' ρ' a' → a'.tmps.size = A.n → a'.defers = [] → Step F L w F' L' w' → (∀ j, ((ops[i]?).bind (·.dst)) ≠ some j → a'.tmps.getD j undef = a.tmps.getD j undef) → evalOps P rest F' L' ρ' K → KK a' w') :
    wpOp P ops Q i KK a w := by
  unfold lowD at hl
  split at hl
  case h_1 => cases hl
  rename_i o hoi
  split at hl
  case h_2 => cases hl
  rename_i g s0 hg hop hdst
  have hex : ∃ s', s = .op o.dst s' g ∧ ∀ {F : Frz} {L : Loc} {ρ : Env} {K : Kont}, evalOp P s' o.dst F L ρ K → evalOp P s0 o.dst F L ρ (fun F' L' ρ' => Real F' L' → K F' L' ρ') := by
    split at hl
    · split at hl
      case h_2 => cases hl
      rename_i s' hs'
      injection hl with hl
      exact ⟨s', hl.symm, fun h => undrawO hs' h⟩
    · split at hl
      case h_2 => cases hl
      rename_i s' hs'
      split at hl
      case h_2 => cases hl
      rename_i hcls
      injection hl with hl
      exact ⟨s', hl.symm, fun h => undraw hs' hcls h⟩
  obtain ⟨s', hls, hun⟩ := hex
  subst hls
  have hd : ∀ k, o.dst = some k → k < a.tmps.size := by
    intro k hk
    rw [hk] at hdst
    rw [hn]
    have h2 : Nat.blt k A.n = true := hdst
    simpa using h2
  have hdi : (ops[i]?).bind (·.dst) = o.dst := by rw [hoi]; rfl
  rw [hdi] at hQ
  simp only [wpOp, hoi]
  have goOn : evalOp P s' o.dst F L ρ (fun F' L' ρ' => evalOps P rest F' L' ρ' K) → o.wp P a w KK Q := by
    intro hK
    have h1 := hun hK
    have := evalOp_sound (Q := Q) hs he hd hop h1
    refine Oper.wp_mono ?_ (wp_frame (asg := []) this)
    rintro a' w' ⟨⟨F', L', ρ', g1, g2, g3, g4, g5, g6⟩, hfr⟩
    exact hQ a' w' F' L' ρ' g1 g2 (by rw [g3, hn]) (by rw [g4, hdf]) g5 hfr (g6 ⟨w', g1⟩)
  have skip : evalOps P rest F L (put o.dst (.v undef) ρ) K → KK (a.put o.dst undef) w := by
    intro hK
    exact hQ _ w F L _ hs (he.put hd (v := undef) (x := .v undef) rfl noOwn noEl (boxKeep L)) (by rw [size_put, hn]) (by rw [defers_put, hdf]) (Step.refl _ _ _) (fun j hj => put_frame hj) hK
  cases hgd : o.guard with
  | none =>
    rw [hgd] at hg
    simp only [lowGuard, Option.some.injEq] at hg
    subst hg
    simp only [evalOps] at hK
    rw [if_pos (by simp [Region.wanted, hgd])]
    exact .inl (goOn hK)
  | some p =>
    obtain ⟨j, want⟩ := p
    rw [hgd] at hg
    simp only [lowGuard] at hg
    split at hg
    case h_2 => cases hg
    rename_i d hjd
    injection hg with hg
    subst hg
    simp only [evalOps] at hK
    split at hK
    · rename_i b hb
      have htmp := he.eq d
      rw [hb] at htmp
      have hy : yielded ops a.tmps j = some b := by
        simp only [yielded, hjd, Option.bind_some, getD_bool htmp]
      have hw : Region.wanted o (yielded ops a.tmps) = (b == want) := by
        simp only [Region.wanted, hgd, hy]
        cases b <;> cases want <;> rfl
      rw [hw]
      cases b <;> simp only [brn] at hK
      · rw [put_same hb] at hK
        cases want
        · exact .inl (goOn hK)
        · exact skip hK
      · rw [put_same hb] at hK
        cases want
        · exact skip hK
        · exact .inl (goOn hK)
    · rename_i vs hb
      have htmp := he.eq d
      rw [hb] at htmp
      have hy : yielded ops a.tmps j = none := by
        simp only [yielded, hjd, Option.bind_some]
        rw [Array.getD_eq_getD_getElem?] at htmp
        cases e : a.tmps[d]? with
        | none => rfl
        | some v => rw [e] at htmp; simp only [Option.getD_some, conc] at htmp; rw [htmp]
      have hw : Region.wanted o (yielded ops a.tmps) = false := by
        simp only [Region.wanted, hgd, hy]; rfl
      rw [hw]
      exact skip hK
    · exact hK.elim

theorem EnvOk.vd {L : Loc} {ρ : Env} {a : Act} (he : EnvOk L ρ a) : Vd L ρ := by
  intro t k off e
  exact he.own t k off e

theorem getD_any {l : Array Bool} {z : Nat} (h : z < l.size) (b c : Bool) : l.getD z b = l.getD z c := by
  simp [Array.getD_eq_getD_getElem?, h]
theorem min_mem : ∀ {l : List Nat}, l ≠ [] → ∃ y, y ∈ l ∧ ∀ z ∈ l, y ≤ z
  | [], h => absurd rfl h
  | [x], _ => ⟨x, by simp, fun z hz => by simp at hz; omega⟩
  | x :: x' :: l, _ => by
    obtain ⟨y, h1, h2⟩ := min_mem (l := x' :: l) (by simp)
    by_cases h : x ≤ y
    · exact ⟨x, by simp, fun z hz => by
        rcases List.mem_cons.1 hz with rfl | hz
        · exact Nat.le_refl _
        · exact Nat.le_trans h (h2 z hz)⟩
    · exact ⟨y, List.mem_cons_of_mem _ h1, fun z hz => by
        rcases List.mem_cons.1 hz with rfl | hz
        · omega
        · exact h2 z hz⟩
theorem direct_mem {i z : Nat} {o : Oper} (ho : ops[i]? = some o) : z ∈ direct ops i ↔ ∃ e ∈ o.after, Region.binds .any e = true ∧ e.on = z := by
  simp only [direct, ho, List.mem_map, List.mem_filter, Array.mem_toList_iff, binding]
  constructor
  · rintro ⟨e, ⟨h1, h2⟩, h3⟩; exact ⟨e, h1, h2, h3⟩
  · rintro ⟨e, h1, h2, h3⟩; exact ⟨e, ⟨h1, h2⟩, h3⟩

theorem any_sound {A : Ann} {cl : List (List Nat)} (hcl : clOk ops cl = true) : ∀ (fuel : Nat) (rem : List Nat) (ss : List SStep) (listed : Array Bool) (F : Frz) (L : Loc) (ρ : Env) (a : Act) (w : World),
    lowRegD P A ops rem = some ss → listed.size = ops.size → rem.Nodup → (∀ i, i ∈ rem ↔ i < ops.size ∧ listed.getD i true = false) → rem.length ≤ fuel → pairsOk cl (rem.zip ss) = true →
    (∀ i, i < ops.size → listed.getD i true = true → ∀ z ∈ direct ops i, listed.getD z true = true) →
    St F L w → EnvOk L ρ a → a.tmps.size = A.n → a.defers = [] → evalOps P ss F L ρ K →
    (∀ a' w', Next2 A.n F L w a (dstsOf ops (List.range ops.size)) K a' w' → Q .normal a' w') → wpAny P .any ops Q fuel listed a w := by
  have edgeLt : ∀ y z, y < ops.size → z ∈ direct ops y → z < y := by
    intro y z hy hz
    have h := List.all_eq_true.1 hcl y (List.mem_range.2 hy)
    simp only [clOkAt, Bool.and_eq_true] at h
    have h3 : Nat.blt z y = true := List.all_eq_true.1 h.1 z hz
    simpa using h3
  intro fuel
  induction fuel with
  | zero =>
    intro rem ss listed F L ρ a w hl hsz hnd hrem hlen hp hclosed hs he hn hdf hK hQ
    have : rem = [] := List.eq_nil_of_length_eq_zero (by omega)
    subst this
    simp only [lowRegD, Option.some.injEq] at hl
    subst hl
    refine ⟨?_, hQ a w ⟨F, L, ρ, hs, he, hn, hdf, Step.refl _ _ _, fun _ _ => rfl, hK⟩⟩
    apply List.eq_nil_iff_forall_not_mem.2
    intro i hi
    rw [mem_ready] at hi
    obtain ⟨h1, o, h2, _⟩ := hi
    have := (hrem i).2 ⟨(Array.getElem?_eq_some_iff.1 h2).1, h1⟩
    cases this
  | succ fuel ih =>
    intro rem ss listed F L ρ a w hl hsz hnd hrem hlen hp hclosed hs he hn hdf hK hQ
    refine ⟨fun hr => ?_, fun y hy => ?_⟩
    · have : rem = [] := by
        refine Classical.byContradiction fun hne => ?_
        obtain ⟨y, h1, h2⟩ := min_mem hne
        obtain ⟨h3, h4⟩ := (hrem y).1 h1
        have hmem : y ∈ Region.ready .any ops listed := by
          rw [mem_ready]
          refine ⟨h4, ops[y], Array.getElem?_eq_getElem h3, fun e he1 he2 => ?_⟩
          have hz : e.on ∈ direct ops y := (direct_mem (Array.getElem?_eq_getElem h3)).2 ⟨e, he1, he2, rfl⟩
          have hlt := edgeLt y e.on h3 hz
          rw [getD_any (by omega) false true]
          cases hd : listed.getD e.on true with
          | true => rfl
          | false =>
            have := h2 e.on ((hrem e.on).2 ⟨by omega, hd⟩)
            omega
        rw [hr] at hmem
        cases hmem
      subst this
      simp only [lowRegD, Option.some.injEq] at hl
      subst hl
      exact hQ a w ⟨F, L, ρ, hs, he, hn, hdf, Step.refl _ _ _, fun _ _ => rfl, hK⟩
    · rw [mem_ready] at hy
      obtain ⟨h1, o, ho, hdeps⟩ := hy
      have hylt := (Array.getElem?_eq_some_iff.1 ho).1
      have hyrem := (hrem y).2 ⟨hylt, h1⟩
      obtain ⟨p, q, rfl⟩ := List.append_of_mem hyrem
      obtain ⟨hss, hget⟩ := lowRegD_get hl
      obtain ⟨sp, sy, sq, rfl, hspl, hsy, hl'⟩ := hget p q y rfl
      have hzip : (p ++ y :: q).zip (sp ++ sy :: sq) = p.zip sp ++ (y, sy) :: q.zip sq := by
        rw [List.zip_append hspl.symm]; rfl
      rw [hzip] at hp
      obtain ⟨hp1, hp2⟩ := pairsOk_del hp
      have hdir : ∀ z ∈ direct ops y, listed.getD z true = true := by
        intro z hz
        have hlt := edgeLt y z hylt hz
        obtain ⟨e, he1, he2, rfl⟩ := (direct_mem ho).1 hz
        rw [getD_any (by omega) true false]
        exact hdeps e he1 he2
      have hfront : ∀ sx ∈ sp, pairOk sx sy = true := by
        intro sx hsx
        obtain ⟨k, hk⟩ := List.getElem?_of_mem hsx
        have hkl := (List.getElem?_eq_some_iff.1 hk).1
        have hpk : p[k]? = some (p[k]'(by omega)) := List.getElem?_eq_getElem (by omega)
        have hm : (p[k]'(by omega), sx) ∈ p.zip sp := List.mem_of_getElem? (i := k) (by rw [List.getElem?_zip_eq_some]; exact ⟨hpk, hk⟩)
        rcases hp2 _ hm with h | h
        · exact h
        · exfalso
          have hd := closed_done hcl (done := fun z => listed.getD z true = true) hclosed y hylt hdir _ h
          have hin : p[k]'(by omega) ∈ p ++ y :: q := List.mem_append.2 (.inl (List.mem_of_getElem? hpk))
          have := ((hrem _).1 hin).2
          simp only at hd
          rw [hd] at this
          cases this
      have hK' := frontStep sp hfront ⟨w, hs⟩ he.vd hK
      refine step_any hylt hsy hs he hn hdf hK' ?_
      intro a' w' F' L' ρ' g1 g2 g3 g4 g5 g6 g7
      have hnd' : (p ++ q).Nodup ∧ y ∉ p ++ q := by
        have := (List.perm_middle.nodup_iff).1 hnd
        rw [List.nodup_cons] at this
        exact ⟨this.2, this.1⟩
      have hset : ∀ i, (listed.setIfInBounds y true).getD i true = if i = y then true else listed.getD i true := by
        intro i
        simp only [Array.getD_eq_getD_getElem?, Array.getElem?_setIfInBounds]
        by_cases hi : y = i
        · subst hi; rw [if_pos rfl, if_pos rfl]; simp [hsz, hylt]
        · rw [if_neg hi, if_neg (fun h => hi h.symm)]
      refine ih (p ++ q) (sp ++ sq) _ F' L' ρ' a' w' hl' (by simp [hsz]) hnd'.1 (fun i => ?_) (by simp at hlen ⊢; omega) ?_ ?_ g1 g2 g3 g4 g7 ?_
      · rw [hset]
        have h0 := hrem i
        constructor
        · intro hi
          have hne : i ≠ y := fun e => hnd'.2 (e ▸ hi)
          rw [if_neg hne]
          refine h0.1 ?_
          rcases List.mem_append.1 hi with h | h
          · exact List.mem_append.2 (.inl h)
          · exact List.mem_append.2 (.inr (List.mem_cons_of_mem _ h))
        · rintro ⟨hi1, hi2⟩
          split at hi2
          · cases hi2
          · rename_i hne
            have := h0.2 ⟨hi1, hi2⟩
            rcases List.mem_append.1 this with h | h
            · exact List.mem_append.2 (.inl h)
            · rcases List.mem_cons.1 h with h | h
              · exact absurd h hne
              · exact List.mem_append.2 (.inr h)
      · rw [List.zip_append hspl.symm]; exact hp1
      · intro i hi hd z hz
        rw [hset] at hd ⊢
        split
        · rfl
        · split at hd
          · rename_i h; subst h; exact hdir z hz
          · exact hclosed i hi hd z hz
      · rintro a'' w'' ⟨F'', L'', ρ'', k1, k2, k3, k4, k5, k6, k7⟩
        refine hQ a'' w'' ⟨F'', L'', ρ'', k1, k2, k3, k4, g5.trans k5, fun j hj => ?_, k7⟩
        rw [k6 j hj, g6 j]
        intro e
        apply hj
        have : ∀ (is : List Nat), y ∈ is → j ∈ dstsOf ops is := by
          intro is
          induction is with
          | nil => intro h; cases h
          | cons x is ihx =>
            intro h
            simp only [dstsOf]
            rcases List.mem_cons.1 h with rfl | h
            · rw [e]; simp
            · split
              · exact List.mem_cons_of_mem _ (ihx h)
              · exact ihx h
        exact this _ (List.mem_range.2 hylt)

/-- a region that draws its order -/
theorem draw_sound {A : Ann} {r : Nat} {is : List Nat} {cl : List (List Nat)} {ss : List SStep} {F : Frz} {L : Loc} {ρ : Env} {a : Act} {w : World} (hl : lowRegD P A ops is = some ss) (hc : drawOk P ops is cl ss = true)
    (hs : St F L w) (he : EnvOk L ρ a) (hn : a.tmps.size = A.n) (hd : a.defers = []) (hK : evalOps P ss F L ρ K) (hQ : ∀ a' w', Next2 A.n F L w a (dstsOf ops (List.range ops.size)) K a' w' → Q .normal a' w') :
    (Code.region r ops true).wp P Q a w := by
  simp only [drawOk, Bool.and_eq_true] at hc
  obtain ⟨⟨⟨⟨⟨⟨h1, h2⟩, h3⟩, h4⟩, h5⟩, h7⟩, h6⟩ := hc
  have h3 := nodup?_eq h3
  have h4 := Nat.eq_of_beq_eq_true h4
  have hlt : ∀ i ∈ is, i < ops.size := fun i hi => by
    have h : Nat.blt i ops.size = true := List.all_eq_true.1 h5 i hi
    simpa using h
  refine wp_region_any h1 ?_
  show wpAny P .any ops Q ops.size (Array.replicate ops.size false) a w.drew
  refine any_sound h2 ops.size is ss _ F L ρ a w.drew hl (by simp) h3 (fun i => ?_) (by omega) h6 ?_ hs.drew he hn hd hK ?_
  · constructor
    · intro hi
      refine ⟨hlt i hi, ?_⟩
      simp [Array.getD_eq_getD_getElem?, hlt i hi]
    · rintro ⟨hi, _⟩
      exact mem?_eq.1 (List.all_eq_true.1 h7 i (List.mem_range.2 hi))
  · intro i hi hd'
    simp [Array.getD_eq_getD_getElem?, hi] at hd'
  · rintro a' w' ⟨F', L', ρ', g1, g2, g3, g4, g5, g6, g7⟩
    refine hQ a' w' ⟨F', L', ρ', g1, g2, g3, g4, ?_, g6, g7⟩
    exact ⟨g5.le, g5.os, g5.tape, g5.output, g5.size, g5.same, g5.frz, g5.own⟩
end
end Go.Fr
