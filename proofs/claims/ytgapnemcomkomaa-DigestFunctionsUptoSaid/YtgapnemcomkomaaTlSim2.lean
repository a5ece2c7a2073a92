/- The evaluator over data speaks of the evaluator over addresses: operations that hand back a value, together. -/
import Derived.Test.YtgapnemcomkomaaTlSim1
set_option linter.unusedVariables false
set_option linter.unusedSimpArgs false
namespace Go.Fr.T
open Go Go.RowKit Go.Fr

section
variable {P : Program} {G : Nat → Option (Nat × TypeId)} {F : Frz} {L : Loc} {ρ : Env} {M : TL} {τ : TEnv}

theorem relV_int {k : IntKind} {n : Int} (h : (Lit.int k n).wf = true) : RelV F L (.int k n) (.v (.int k n)) := ⟨_, rfl, by simp only [Rel]; exact ⟨trivial, h⟩⟩
theorem relV_bool {b : Bool} : RelV F L (.bool b) (.v (.bool b)) := ⟨_, rfl, by simp only [Rel]⟩
theorem relV_str {s : ByteArray} (h : s.size ≤ maxLen) : RelV F L (.str s) (.v (.string s)) := ⟨_, rfl, by simp only [Rel]; exact ⟨trivial, h⟩⟩
theorem relV_pt0 {es : List C} {vs : List Value} {ad : Addr} {j : Nat} {arr : Array Value} {t : TypeId} {fr : Nat × Nat} (hb : F ad.block = some (.cells arr t fr)) (hsp : ad.spot = none)
    (hv : ∀ (i : Nat) v, vs[i]? = some v → arr[ad.off + j + i]? = some v) (h1 : onesL es = true) (hr : Rels F [] es vs) : RelV F L (.pt es 0) (.el (some ad) j) := by
  obtain ⟨b, o, sp⟩ := ad
  simp only at hsp
  subst hsp
  exact ⟨b, o, j, vs, .inr rfl, ⟨o + j, arr, t, fr, hb, rfl, hv⟩, h1, hr⟩

theorem bytes_of : ∀ {bs : List UInt8} {vs : List (List Value)}, (∀ (j : Nat) es, (bcells bs)[j]? = some es → ∃ us, vs[j]? = some us ∧ Rels F [] es us) → vs.length = bs.length → vs = bs.map fun b => [Value.int .u8 b.toNat]
  | [], vs, _, hl => List.length_eq_zero_iff.1 (by simpa using hl)
  | b :: bs, vs, h, hl => by
    match vs, hl with
    | v :: vs, hl =>
      obtain ⟨us, h1, h2⟩ := h 0 [bcell b] (by simp [bcells])
      simp only [List.getElem?_cons_zero, Option.some.injEq] at h1
      subst h1
      simp only [Rels, Rel] at h2
      obtain ⟨u, us', rfl, ⟨rfl, _⟩, rfl⟩ := h2
      rw [List.map_cons, bytes_of (bs := bs) (vs := vs) (fun j es he => by
        obtain ⟨us, k1, k2⟩ := h (j + 1) es (by simpa [bcells] using he)
        exact ⟨us, by simpa using k1, k2⟩) (by simpa using hl)]
/-- the cells of a frozen slice of bytes -/
theorem bytes_cells {a : Option Addr} {sz c : Nat} {bs : List UInt8} (hr : RelS F a sz 0 (bcells bs)) (hn : a = none → bcells bs = [] ∧ c = 0) :
    (FCells F a 0 (bs.map fun b => Value.int .u8 b.toNat)) ∨ bs.length = 0 := by
  rw [RelS_iff] at hr
  cases hb : bs with
  | nil => exact .inr rfl
  | cons b0 rest =>
    refine .inl ?_
    have h0 := hr 0 [bcell b0] (by simp [bcells, hb])
    obtain ⟨us, h1, ⟨ad, arr, t, fr, e, hbk, hsp, _⟩, _, h4⟩ := h0
    have hsz : sz = 1 := by rw [← h1, h4.len]; rfl
    subst hsz
    rw [← hb]
    refine ⟨ad, arr, t, fr, e, hbk, hsp, fun i v hi => ?_⟩
    simp only [List.getElem?_map, Option.map_eq_some_iff] at hi
    obtain ⟨b, hb1, rfl⟩ := hi
    obtain ⟨us, h1, ⟨ad', arr', t', fr', e', hbk', hsp', hv⟩, _, h4⟩ := hr i [bcell b] (by simp [bcells, hb1])
    rw [e] at e'
    injection e' with e'
    subst e'
    rw [hbk] at hbk'
    injection hbk' with hbk'
    injection hbk' with q1 q2 q3
    subst q1
    simp only [Rels, Rel] at h4
    obtain ⟨u, us', rfl, ⟨rfl, _⟩, rfl⟩ := h4
    have := hv 0 _ (by simp; rfl)
    simpa using this

theorem relV_sl {els : List (List C)} {a : Option Addr} {c sz : Nat} (h1 : els.length ≤ c) (h2 : els.length ≤ maxLen) (h3 : a = none → els = [] ∧ c = 0) (h4 : RelS F a sz 0 els) : RelV F L (.sl els) (.v (.slice a els.length c)) :=
  ⟨_, rfl, by simp only [Rel]; exact ⟨a, c, rfl, h1, h2, h3, sz, h4⟩⟩
set_option maxHeartbeats 1000000 in
theorem simV {o : SOp} {V : C → Prop} (ht : TS G F L ρ M τ) (h : outT o M τ V) : outV o F L ρ (fun sv => ∃ c, RelV F L c sv ∧ V c) := by
  have he := ht.env
  cases o <;> simp only [outT] at h <;> simp only [outV]
  case mov x => exact ⟨_, ev_rel he x, h⟩
  case pick c a b =>
    split at h
    case h_2 => exact h.elim
    rename_i t hc
    rw [inv_bool he hc]
    cases t
    · exact ⟨_, ev_rel he b, h⟩
    · exact ⟨_, ev_rel he a, h⟩
  case build zs ps =>
    split at h
    case h_2 => exact h.elim
    rename_i cs hc
    obtain ⟨us, h1, h2⟩ := built_rel he ps (cv0s_rel zs) hc
    rw [h1]
    exact ⟨.agg cs, ⟨_, rfl, by simp only [Rel]; exact ⟨us, rfl, h2⟩⟩, h⟩
  case load agg n x =>
    split at h
    · rename_i k off hx
      obtain ⟨e1, _⟩ := inv_own he hx
      rw [e1]
      split at h
      case h_2 => exact h.elim
      rename_i t cs hk
      obtain ⟨g, vs, hL, hr⟩ := tl_box ht.tl hk
      split at h
      case h_2 => exact h.elim
      rename_i hl
      have hr2 := (hr.drop off).take n
      simp only [hL]
      rw [len_of (by rw [hr2.len]; exact lenC_eq hl)]
      exact ⟨_, asC_rel hr2, h⟩
    · rename_i es off hx
      split at h
      case h_2 => exact h.elim
      rename_i hl
      obtain ⟨b, o, j, vs, e1, hp, ho, hr⟩ := inv_pt he hx
      have hr2 : Rels F L ((es.drop off).take n) ((vs.drop off).take n) := ((hr.drop off).take n).lift
      rcases e1 with ⟨e1, rfl⟩ | e1
      · rw [e1]
        exact ⟨_, by rw [hr2.len]; exact lenC_eq hl, .inl (pt_cells (es := es) hp), _, asC_rel hr2, h⟩
      · rw [e1]
        exact ⟨_, by rw [hr2.len]; exact lenC_eq hl, .inl (pt_cells (es := es) hp), _, asC_rel hr2, h⟩
    · rename_i k j off hx
      split at h
      case h_2 => exact h.elim
      rename_i t sz els hk
      obtain ⟨es, h1, h2, h3⟩ := h
      obtain ⟨ad, t', sz', m, c, xs', e1, e2⟩ := inv_elr he hx
      obtain ⟨v, xs, e3, _, hr⟩ := tl_row ht.tl hk
      rw [e2] at e3
      injection e3 with e3
      injection e3 with q1 q2 q3 q4 q5
      subst q2 q3 q5
      obtain ⟨vs, k1, k2, k3, k4⟩ := hr.at h1
      have hr2 : Rels F L ((es.drop off).take n) ((vs.drop off).take n) := ((k3.drop off).take n).lift
      rw [e1]
      refine ⟨_, by rw [hr2.len]; exact lenC_eq h2, .inr (.inl ⟨k, _, _, _, _, _, ad, c, e2, rfl, rfl, fun i u hu => ?_⟩), _, asC_rel hr2, h3⟩
      rw [List.getElem?_take] at hu
      split at hu
      case isFalse => cases hu
      rw [List.getElem?_drop] at hu
      rw [Nat.add_assoc]
      exact k4 _ _ hu
    · exact h.elim
  case loadD agg n x =>
    split at h
    · rename_i k off hx
      obtain ⟨e1, _⟩ := inv_own he hx
      rw [e1]
      split at h
      case h_2 => exact h.elim
      rename_i t cs hk
      obtain ⟨g, vs, hL, hr⟩ := tl_box ht.tl hk
      split at h
      case h_2 => exact h.elim
      rename_i hl
      have hr2 := (hr.drop off).take n
      simp only [hL]
      rw [len_of (by rw [hr2.len]; exact lenC_eq hl)]
      exact ⟨_, asC_rel hr2, h⟩
    · rename_i es off hx
      split at h
      case h_2 => exact h.elim
      rename_i hl
      obtain ⟨b, o, j, vs, e1, hp, ho, hr⟩ := inv_pt he hx
      have hr2 : Rels F L ((es.drop off).take n) ((vs.drop off).take n) := ((hr.drop off).take n).lift
      rcases e1 with ⟨e1, rfl⟩ | e1
      · rw [e1]
        exact ⟨_, by rw [hr2.len]; exact lenC_eq hl, .inl (pt_cells (es := es) hp), _, asC_rel hr2, h⟩
      · rw [e1]
        exact ⟨_, by rw [hr2.len]; exact lenC_eq hl, .inl (pt_cells (es := es) hp), _, asC_rel hr2, h⟩
    · exact h.elim
  case nilck x =>
    split at h
    · rename_i k off hx
      obtain ⟨e1, e2⟩ := inv_own he hx
      rw [e1]
      exact ⟨.own k off, ⟨rfl, e2⟩, h⟩
    · rename_i es off hx
      obtain ⟨b, o, j, vs, e1, hp, ho, hr⟩ := inv_pt he hx
      rcases e1 with ⟨e1, rfl⟩ | e1
      · rw [e1]; exact ⟨.pt es off, ⟨b, o, 0, vs, .inl ⟨rfl, rfl⟩, hp, ho, hr⟩, h⟩
      · rw [e1]; exact ⟨by simp, .pt es off, ⟨b, o, j, vs, .inr rfl, hp, ho, hr⟩, h⟩
    · rename_i f fi ca hx
      obtain ⟨fi', ca', e1, h1, h2⟩ := inv_fn he hx
      rw [e1]
      exact ⟨.fn f fi ca, ⟨_, rfl, by simp only [Rel]; exact ⟨fi', ca', rfl, h1, h2⟩⟩, h⟩
    · exact h.elim
  case bin op x y =>
    split at h
    · rename_i k a k' b hx hy
      obtain ⟨e1, w1⟩ := inv_int he hx
      obtain ⟨e2, w2⟩ := inv_int he hy
      rw [e1, e2]
      split at h
      · rename_i hsh
        simp only [hsh]
        exact shI_mono w1 h fun v hv hV => ⟨_, relV_cvB hv, hV⟩
      · rename_i hsh
        simp only [hsh]
        split at h
        case h_2 => exact h.elim
        rename_i hk
        simp only [hk]
        exact binI_mono w1 h fun v hv hV => ⟨_, relV_cvB hv, hV⟩
    · rename_i a b hx hy
      rw [(inv_str he hx).1, (inv_str he hy).1]
      exact binS_mono h fun v hv hV => ⟨_, relV_cvB hv, hV⟩
    · exact h.elim
  case eqB neg x y =>
    split at h
    case h_2 => exact h.elim
    rename_i a b hx hy
    rw [inv_bool he hx, inv_bool he hy]
    exact ⟨_, relV_bool, h⟩
  case eqP neg x y =>
    have hy : isNilP y = true → ev ρ y = .v (.pointer none) := by
      unfold isNilP
      split
      · intro _; rfl
      · intro e; cases e
    split at h
    · rename_i k off h1 hx
      rw [(inv_own he hx).1, hy h1]
      exact ⟨_, relV_bool, h⟩
    · rename_i k off h1 hx
      obtain ⟨g, t, cs, e1, e2⟩ := inv_ownv he hx
      rw [e2, hy h1]
      exact ⟨_, relV_bool, h⟩
    · rename_i es off h1 hx
      obtain ⟨b, q, j, vs, e1, hp, ho, hr⟩ := inv_pt he hx
      rcases e1 with ⟨e1, rfl⟩ | e1
      · rw [e1, hy h1]; exact ⟨_, relV_bool, h⟩
      · rw [e1, hy h1]; exact ⟨_, relV_bool, h⟩
    · rename_i h1 hx
      rw [inv_nilp he hx, hy h1]
      exact ⟨_, relV_bool, h⟩
    · exact h.elim
  case eqS neg x y =>
    have hy : isNil y = true → ev ρ y = .v (.slice none 0 0) := by
      unfold isNil
      split
      · intro _; rfl
      · intro e; cases e
    split at h
    · rename_i els h1 hx
      obtain ⟨a, c, sz, e1, e2, e3, e4, e5⟩ := inv_sl he hx
      rw [e1, hy h1]
      refine ⟨_, relV_bool, h _ fun hne => ?_⟩
      cases a with
      | none => exact absurd (e4 rfl).1 hne
      | some a => rfl
    · rename_i els h1 hx
      obtain ⟨a, sz, e1, _⟩ := inv_slx he hx
      rw [e1, hy h1]
      exact ⟨_, relV_bool, h⟩
    · rename_i h1 hx
      rw [inv_nils he hx, hy h1]
      exact ⟨_, relV_bool, h⟩
    · exact h.elim
  case eqF neg x y =>
    have hy : isNilF y = true → ev ρ y = .v .nilFunc := by
      unfold isNilF
      split
      · intro _; rfl
      · intro e; cases e
    split at h
    · rename_i h1 hx
      rw [inv_nilf he hx, hy h1]
      exact ⟨_, relV_bool, h⟩
    · rename_i f fi ca h1 hx
      obtain ⟨fi', ca', e1, _, _⟩ := inv_fn he hx
      rw [e1, hy h1]
      exact ⟨_, relV_bool, h⟩
    · exact h.elim
  case un op x =>
    split at h
    · rename_i b hx
      rw [inv_bool he hx]
      exact ⟨_, relV_bool, h⟩
    · rename_i k n hx
      rw [(inv_int he hx).1]
      exact ⟨⟨_, relV_int (wf_wrap _ _), h.out⟩⟩
    · rename_i k n hx
      rw [(inv_int he hx).1]
      exact ⟨_, relV_int (wf_wrap _ _), h⟩
    · exact h.elim
  case conv k x =>
    split at h
    case h_2 => exact h.elim
    rename_i k' n hx
    rw [(inv_int he hx).1]
    exact ⟨⟨_, relV_int (wf_wrap _ _), h.out⟩⟩
  case b2s x =>
    split at h
    · rename_i els hx
      obtain ⟨bs, rfl, h⟩ := h
      obtain ⟨a, c, sz, e1, e2, e3, e4, e5⟩ := inv_slc he hx
      rw [e1]
      have hlen : (bcells bs).length = bs.length := by simp [bcells]
      refine ⟨bs.map fun b => Value.int .u8 b.toNat, by simp [hlen], ?_, bs, rfl, _, relV_str ?_, h⟩
      · rcases bytes_cells e5 e4 with h1 | h1
        · exact .inl h1
        · exact .inr (.inr (by rw [hlen]; exact h1))
      · rw [hlen] at e2
        show bs.toArray.size ≤ maxLen
        simp
        exact (by simpa [bcells] using e3)
    · exact h.elim
  case mkfn f fi ca => exact ⟨.fn f _ _, ⟨_, rfl, by simp only [Rel]; exact ⟨_, _, rfl, evals_rel he fi, evals_rel he ca⟩⟩, h⟩
  case slc sz x lo hi =>
    split at h
    case h_2 => exact h.elim
    rename_i els hx
    split at h
    case h_2 => exact h.elim
    rename_i l r hl hh
    obtain ⟨h1, h2, h3, h4, h5⟩ := h
    obtain ⟨a, c, sz', e1, e2, e3, e4, e5⟩ := inv_slc he hx
    rw [e1]
    simp only [opt_rel he hl, opt_rel he hh]
    refine ⟨h1, h2, by omega, _, ?_, h5⟩
    have hlen : ((els.drop l.toNat).take (r.toNat - l.toNat)).length = r.toNat - l.toNat := by simp; omega
    have hs : els ≠ [] → sz' = sz := by
      intro hne
      obtain ⟨es, hes⟩ := List.exists_mem_of_ne_nil _ hne
      obtain ⟨i, hi⟩ := List.mem_iff_getElem?.1 hes
      obtain ⟨vs, k1, _, _, k4⟩ := RelS_iff.1 e5 i es hi
      rw [← k1, k4.len, h4 es hes]
    have key := RelS_slc (l := l.toNat) (h := r.toNat) e5 e4 (by omega) (by omega) e2
    unfold slcVal
    have := relV_sl (F := F) (L := L) (els := (els.drop l.toNat).take (r.toNat - l.toNat)) (a := if c = l.toNat then a else a.map (·.add (l.toNat * sz))) (c := c - l.toNat) (sz := sz) (by rw [hlen]; omega) (by rw [hlen]; omega) ?_ ?_
    · rw [hlen] at this; exact this
    · intro hn
      have ha : a = none := by
        split at hn
        · exact hn
        · cases a with
          | none => rfl
          | some a => simp at hn
      obtain ⟨q1, q2⟩ := e4 ha
      subst q1
      simp
      omega
    · by_cases hne : els = []
      · subst hne
        simp only [List.drop_nil, List.take_nil, RelS]
      · rw [hs hne] at key
        exact key
  case slcS x lo hi =>
    split at h
    case h_2 => exact h.elim
    rename_i s hx
    split at h
    case h_2 => exact h.elim
    rename_i l r hl hh
    obtain ⟨h1, h2, h3, h5⟩ := h
    rw [(inv_str he hx).1]
    simp only [opt_rel he hl, opt_rel he hh]
    refine ⟨h1, h2, h3, _, relV_str ?_, h5⟩
    have := (inv_str he hx).2
    rw [ByteArray.size_extract]
    omega
  case fieldA off x =>
    split at h
    · rename_i k o hx
      obtain ⟨e1, e2⟩ := inv_own he hx
      rw [e1]
      exact ⟨.own k (o + off), ⟨rfl, e2⟩, h⟩
    · rename_i es o hx
      obtain ⟨b, q, j, vs, e1, hp, ho, hr⟩ := inv_pt he hx
      have hp2 : ∀ j', q + j' = q + j + off → PtB F b (q + j') (o + off) vs := by
        intro j' hj
        obtain ⟨base, arr, t, fr, k1, k2, k3⟩ := hp
        exact ⟨base, arr, t, fr, k1, by omega, k3⟩
      rcases e1 with ⟨e1, rfl⟩ | e1
      · rw [e1]; exact ⟨.pt es (o + off), ⟨b, q, off, vs, .inr rfl, hp2 _ (by omega), ho, hr⟩, h⟩
      · rw [e1]; exact ⟨.pt es (o + off), ⟨b, q, j + off, vs, .inr rfl, hp2 _ (by omega), ho, hr⟩, h⟩
    · rename_i k j o hx
      obtain ⟨ad, t, sz, n, c, xs, e1, e2⟩ := inv_elr he hx
      rw [e1]
      exact ⟨.elr k j (o + off), ⟨ad, t, sz, n, c, xs, by rw [Nat.add_assoc], e2⟩, h⟩
    · exact h.elim
  case fieldV agg off n x =>
    split at h
    case h_2 => exact h.elim
    rename_i cs hx
    split at h
    case h_2 => exact h.elim
    rename_i hl
    obtain ⟨vs, e1, hr⟩ := inv_agg he hx
    have hr2 := (hr.drop off).take n
    rw [e1]
    simp only []
    rw [len_of (by rw [hr2.len]; exact lenC_eq hl)]
    exact ⟨_, asC_rel hr2, h⟩
  case idxA sz x i =>
    split at h
    · rename_i els k i hx hi
      obtain ⟨es, h1, h2, h3, h4⟩ := h
      obtain ⟨a, c, sz', e1, e2, e3, e4, e5⟩ := inv_slc he hx
      rw [e1, (inv_int he hi).1]
      have hlt : i.toNat < els.length := (List.getElem?_eq_some_iff.1 h2).1
      obtain ⟨vs, k1, ⟨ad, arr, t, fr, e, hb, hsp, hv⟩, k3, k4⟩ := RelS_iff.1 e5 _ _ h2
      have hs : sz' = sz := by rw [← k1, k4.len, lenC_eq h3]
      subst hs
      subst e
      refine ⟨by simp, h1, by omega, _, relV_pt0 hb hsp (fun i v hi => ?_) k3 k4, h4⟩
      have := hv i v hi
      simpa using this
    · rename_i k i' i hx hi
      split at h
      case h_2 => exact h.elim
      rename_i t sz' els hk
      split at h
      case h_2 => exact h.elim
      rename_i hsz
      have := Nat.eq_of_beq_eq_true hsz
      subst this
      obtain ⟨h1, h2, h3⟩ := h
      obtain ⟨a, c, t', sz', n, xs', e1, e2⟩ := inv_rw he (can_rw hx)
      obtain ⟨v, xs, e3, ⟨_, a', c', q6, q7⟩, hr⟩ := tl_row ht.tl hk
      rw [e2] at e3
      injection e3 with e3
      injection e3 with q1 q2 q3 q4 q5
      subst q2 q3 q4
      rw [e1, (inv_int he hi).1]
      cases a with
      | none =>
        rw [← q1] at q6
        injection q6 with q6
        have := q7 q6.symm
        omega
      | some ad => exact ⟨by simp, h1, h2, .elr k i.toNat 0, ⟨ad, _, _, _, c, _, by simp, e2⟩, h3⟩
    · exact h.elim
  case idxS x i =>
    split at h
    case h_2 => exact h.elim
    rename_i s k i hx hi
    obtain ⟨h1, h2, h3⟩ := h
    rw [(inv_str he hx).1, (inv_int he hi).1]
    refine ⟨h1, h2, _, relV_int ?_, h3⟩
    have := (s.data.toList.getD i.toNat 0).toNat_lt
    generalize (s.data.toList.getD i.toNat 0).toNat = m at *
    simp [Lit.wf, IntKind.min, IntKind.max, IntKind.bits, IntKind.signed]
    omega
  case extr x i =>
    split at h
    case h_2 => exact h.elim
    rename_i cs hx
    split at h
    case h_2 => exact h.elim
    rename_i v hv
    obtain ⟨vs, e1, hr⟩ := inv_tup he hx
    rw [e1]
    have hlt : i < vs.length := by rw [hr.len]; exact (List.getElem?_eq_some_iff.1 hv).1
    simp only [List.getElem?_eq_getElem hlt]
    exact ⟨_, slt_rel (hr.at hv (List.getElem?_eq_getElem hlt)), h⟩
  case len x =>
    have wl : ∀ n : Nat, n ≤ maxLen → (Lit.int .i64 (n : Int)).wf = true := by
      intro n hn
      simp only [maxLen] at hn
      simp [Lit.wf, IntKind.min, IntKind.max, IntKind.bits, IntKind.signed]
      omega
    split at h
    · rename_i els hx
      obtain ⟨a, c, sz', e1, e2, e3, e4, e5⟩ := inv_slc he hx
      rw [e1]
      exact ⟨_, relV_int (wl _ e3), h⟩
    · rename_i k hx
      split at h
      case h_2 => exact h.elim
      rename_i t sz' els hk
      obtain ⟨a, c, t', sz', n, xs', e1, e2⟩ := inv_rw he (can_rw hx)
      obtain ⟨v, xs, e3, ⟨hm, _⟩, hr⟩ := tl_row ht.tl hk
      rw [e2] at e3
      injection e3 with e3
      injection e3 with q1 q2 q3 q4 q5
      subst q4
      rw [e1]
      exact ⟨_, relV_int (wl _ hm), h⟩
    · exact h.elim
  case lenS x =>
    split at h
    case h_2 => exact h.elim
    rename_i s hx
    obtain ⟨e1, e2⟩ := inv_str he hx
    rw [e1]
    refine ⟨_, relV_int ?_, h⟩
    simp only [maxLen] at e2
    simp [Lit.wf, IntKind.min, IntKind.max, IntKind.bits, IntKind.signed]
    omega
  case mm mx args =>
    split at h
    case h_2 => exact h.elim
    rename_i k a l hl
    split at h
    case h_2 => exact h.elim
    rename_i m hm
    match args, hl with
    | x :: args, hl =>
      simp only [List.map_cons, List.cons.injEq] at hl
      obtain ⟨hx, rfl⟩ := hl
      simp only [List.map_cons, (inv_int he hx).1, mm_rel he mx args hm]
      exact ⟨_, relV_int h.1, h.2⟩
end
end Go.Fr.T
