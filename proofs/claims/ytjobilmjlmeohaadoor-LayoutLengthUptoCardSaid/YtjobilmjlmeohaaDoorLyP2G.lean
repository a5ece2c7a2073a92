/- Part of the proofs of the statements of this seat. -/
import Derived.Test.YtjobilmjlmeohaaDoorLyT12G
/- Layout: values that follow choices. -/
set_option linter.unusedVariables false
set_option linter.unusedSimpArgs false
namespace Go.Fr.Tryd
open Go Go.RowKit Go.Proofs Go.Fr Go.Fr.T Go.Fr.Api

mutual
def makS : Sh → List Int → Val × List Int
  | .num, ch => (.mk 1 0 0 ((ch.headD 0 - 32768) * 30517) [], ch.tail)
  | .hdl k, ch => (.mk k 0 0 ((ch.headD 0).tmod 32768) [], ch.tail)
  | .sum i vs _ _ _ _, ch =>
    (.mk 2 i ((ch.headD 0).tmod vs.length) 0 (makAt vs ((ch.headD 0).tmod vs.length).toNat ch.tail).1, (makAt vs ((ch.headD 0).tmod vs.length).toNat ch.tail).2)
def makAt : List (List Sh) → Nat → List Int → List Val × List Int
  | [], _, ch => ([], ch)
  | l :: _, 0, ch => makFs l ch
  | _ :: r, k + 1, ch => makAt r k ch
def makFs : List Sh → List Int → List Val × List Int
  | [], ch => ([], ch)
  | s :: l, ch => ((makS s ch).1 :: (makFs l (makS s ch).2).1, (makFs l (makS s ch).2).2)
end
theorem makAt_get {vs : List (List Sh)} : ∀ {k : Nat} {l : List Sh} {ch : List Int}, vs[k]? = some l → makAt vs k ch = makFs l ch := by
  induction vs with
  | nil => intro k l ch h; simp at h
  | cons x r ih =>
    intro k l ch h
    cases k with
    | zero =>
      simp only [List.getElem?_cons_zero, Option.some.injEq] at h
      subst h; rw [makAt]
    | succ k => rw [makAt]; exact ih (by simpa using h)
theorem planFs_get {p : Ty → Int → Option Sh × Int} (hp : PlnS p) : ∀ {l : List Ty} {n m : Int} {ss : List Sh}, 0 ≤ n → planFs p l n = (some ss, m) → ∀ (j : Nat) x, l[j]? = some x → ∃ s n' m', ss[j]? = some s ∧ 0 ≤ n' ∧ n' ≤ n ∧ p x n' = (some s, m')
  | [], n, m, ss, h0, h, j, x, hx => by simp at hx
  | y :: l, n, m, ss, h0, h, j, x, hx => by
    rw [planFs] at h
    split at h
    · injection h with h1 h2; cases h1
    · rename_i s k hs
      obtain ⟨g1, g2, g3⟩ := hp y n h0 s k hs
      split at h
      · injection h with h1 h2; cases h1
      · rename_i ss' k' hss
        injection h with h1 h2
        injection h1 with h1
        subst h1
        cases j with
        | zero =>
          simp only [List.getElem?_cons_zero, Option.some.injEq] at hx
          subst hx
          exact ⟨s, n, k, rfl, h0, Int.le_refl _, hs⟩
        | succ j =>
          obtain ⟨s', n', m', a, b, c, d⟩ := planFs_get hp g2 hss j x (by simpa using hx)
          exact ⟨s', n', m', by simpa using a, b, by omega, d⟩
theorem planVs_get {p : Ty → Int → Option Sh × Int} (hp : PlnS p) {t : Ty} : ∀ {l : List Variant} {n m : Int} {ss : List (List Sh)}, 0 ≤ n → planVs p t l n = (some ss, m) → ∀ (j : Nat) x, l[j]? = some x → ∃ s n' m', ss[j]? = some s ∧ 0 ≤ n' ∧ n' ≤ n ∧ planFs p (fldsM t x) n' = (some s, m')
  | [], n, m, ss, h0, h, j, x, hx => by simp at hx
  | y :: l, n, m, ss, h0, h, j, x, hx => by
    rw [planVs] at h
    split at h
    · injection h with h1 h2; cases h1
    · rename_i s k hs
      obtain ⟨g1, g2, g3, _⟩ := planFs_ok hp h0 hs
      split at h
      · injection h with h1 h2; cases h1
      · rename_i ss' k' hss
        injection h with h1 h2
        injection h1 with h1
        subst h1
        cases j with
        | zero =>
          simp only [List.getElem?_cons_zero, Option.some.injEq] at hx
          subst hx
          exact ⟨s, n, k, rfl, h0, Int.le_refl _, hs⟩
        | succ j =>
          obtain ⟨s', n', m', a, b, c, d⟩ := planVs_get hp g2 hss j x (by simpa using hx)
          exact ⟨s', n', m', by simpa using a, b, by omega, d⟩
/-- what a type with a layout is -/
inductive PlanI (ds : List Api.Data) (f : Nat) (t : Ty) (n : Int) (s : Sh) : Prop
  | hdl (h1 : has1 t.kind = true) (h2 : s = .hdl (look1 t.kind))
  | num (h1 : t.kind = 1) (h2 : s = .num)
  | sum (vs : List (List Sh)) (m : Int) (h1 : has1 t.kind = false) (h2 : t.kind = 2) (h3 : ¬ badP ds t) (h4 : ¬ oddP (dataAt ds t) t) (h5 : 0 ≤ n - 1) (h6 : planVs (plan ds (f - 1)) t (dataAt ds t).variants (n - 1) = (some vs, m)) (h7 : s = newSum t.id vs)
theorem plan_inv {ds : List Api.Data} {f : Nat} {t : Ty} {n : Int} {s : Sh} {m : Int} (h : plan ds f t n = (some s, m)) : 0 < f ∧ PlanI ds f t n s := by
  cases f with
  | zero => rw [plan] at h; injection h with h1 h2; cases h1
  | succ f =>
    refine ⟨by omega, ?_⟩
    rw [plan] at h
    split at h
    · injection h with h1 h2; cases h1
    · rename_i hn
      split at h
      · rename_i hh
        injection h with h1 h2
        injection h1 with h1
        exact .hdl hh h1.symm
      · rename_i hh
        split at h
        · rename_i hk
          injection h with h1 h2
          injection h1 with h1
          exact .num hk h1.symm
        · split at h
          · injection h with h1 h2; cases h1
          · rename_i hbad
            split at h
            · injection h with h1 h2; cases h1
            · rename_i hodd
              split at h
              · injection h with h1 h2; cases h1
              · rename_i vs m' hvs
                injection h with h1 h2
                injection h1 with h1
                refine .sum vs m' (by simpa using hh) ?_ hbad hodd (by omega) hvs h1.symm
                by_cases hk : t.kind = 2
                · exact hk
                · exact absurd (.inl hk) hbad
abbrev u16s (l : List Int) : List (List C) := l.map fun c => [.int .u16 c]
abbrev ChB (l : List Int) : Prop := ∀ c ∈ l, 0 ≤ c ∧ c ≤ 65535
theorem chB_tail {l : List Int} (h : ChB l) : ChB l.tail := fun c hc => h c (List.mem_of_mem_tail hc)
mutual
theorem makS_ch : ∀ (s : Sh) {ch : List Int}, ChB ch → ChB (makS s ch).2
  | .num, ch, h => by rw [makS]; exact chB_tail h
  | .hdl k, ch, h => by rw [makS]; exact chB_tail h
  | .sum i vs _ _ _ _, ch, h => by rw [makS]; exact makAt_ch vs (chB_tail h)
theorem makAt_ch : ∀ (vs : List (List Sh)) {k : Nat} {ch : List Int}, ChB ch → ChB (makAt vs k ch).2
  | [], _, ch, h => by rw [makAt]; exact h
  | l :: _, 0, ch, h => by rw [makAt]; exact makFs_ch l h
  | _ :: r, k + 1, ch, h => by rw [makAt]; exact makAt_ch r h
theorem makFs_ch : ∀ (l : List Sh) {ch : List Int}, ChB ch → ChB (makFs l ch).2
  | [], ch, h => by rw [makFs]; exact h
  | s :: l, ch, h => by rw [makFs]; exact makFs_ch l (makS_ch s h)
end
theorem idxC {l : List Int} {k : Nat} {c : Int} {K : List C → Prop} (hx : l[k]? = some c) (h : K [.int .u16 c]) : IdxT (u16s l) (k : Int) 1 K := idxT hx rfl rfl h
theorem szC {a : List Int} : ∀ es ∈ u16s a, es.length = 1 := by
  intro es h
  obtain ⟨x, _, rfl⟩ := List.mem_map.1 h
  rfl
theorem chTail {c : Int} {r : List Int} : C.sl (((u16s (c :: r)).drop (1 : Int).toNat).take (((u16s (c :: r)).length : Int).toNat - (1 : Int).toNat)) = C.sl (u16s r) := by
  have h1 : ((1 : Int)).toNat = 1 := rfl
  rw [h1, Int.toNat_natCast]
  show C.sl ((u16s r).take ((u16s (c :: r)).length - 1)) = _
  rw [List.take_of_length_le (by simp)]
theorem tmod_pos {a b : Int} (h0 : 0 ≤ a) (h1 : 0 < b) : 0 ≤ a.tmod b ∧ a.tmod b < b := by
  rw [Int.tmod_eq_emod_of_nonneg h0]
  exact ⟨Int.emod_nonneg _ (by omega), Int.emod_lt_of_pos _ h1⟩
abbrev makC (r : Val × List Int) : C := .tup [valA r.1, .sl (u16s r.2)]
theorem makFs_step {a : List Val} {s : Sh} {l : List Sh} {ch : List Int} : (a ++ (makFs (s :: l) ch).1, (makFs (s :: l) ch).2) = ((a ++ [(makS s ch).1]) ++ (makFs l (makS s ch).2).1, (makFs l (makS s ch).2).2) := by
  rw [makFs]; simp
set_option maxRecDepth 10000 in
set_option maxHeartbeats 1000000 in
theorem t11n (ds : List Api.Data) (hds : DsB ds) (t : Ty) (s : Sh) (ht : TyB t) (hpi : ∃ f n, 0 ≤ n ∧ PlanI ds f t n s ∧ ∀ x s', TyB x → (∃ n' m', 0 ≤ n' ∧ plan ds (f - 1) x n' = (some s', m')) → ∀ ch, ChB ch → CallsT P 11 [.sl (ds.map dataC), tyA x, .sl (u16s ch)] [] (Ret [] (makC (makS s' ch)))) :
    CallsT P 11 [.sl (ds.map dataC), tyA t, .sl (u16s [])] [] (Ret [] (makC (makS s []))) := by
  obtain ⟨f, n, hn0, hpi, ih⟩ := hpi
  have hb := (tyB_iff t).1 ht
  have hpS := plan_ok ds (f - 1)
  have hget := fun h => (dataAt_get (ds := ds) (t := t) h).1
  have hmem := fun h => (dataAt_get (ds := ds) (t := t) h).2
  have h26 := fun vi d v => t26 ds t vi d v
  have hsub : ∀ (v : Variant), ∀ x ∈ fldsM t v, (∀ y ∈ v.fields, TyB y) → TyB x := by
    intro v x hx hv
    rw [fldsM] at hx
    obtain ⟨y, hy, rfl⟩ := List.mem_map.1 hx
    exact tyB_subst hb.2 y (hv y hy)
  have hfml : ∀ v : Variant, (fldsM t v).length = v.fields.length := fun v => List.length_map _
  cases hpi with
  | num h1 h2 =>
    have e0 : makS s [] = (.mk 1 0 0 ((0 - 32768) * 30517) [], []) := by rw [h2, makS]; rfl
    rw [e0]
    refine callsT_facts Tryd.func11 facts11 rfl fun hw _ => ?_

    refine brn_p (fun _ => ?_) (fun h => absurd h1 h)
    refine Fit.in64 (by omega) (by omega) ?_
    refine Fit.in64 (by omega) (by omega) ?_
    exact retP rfl rfl
  | hdl h1 h2 =>
    have e0 : makS s [] = (.mk (look1 t.kind) 0 0 ((0 : Int).tmod 32768) [], []) := by rw [h2, makS]; rfl
    rw [e0]
    have hk1 : ¬ t.kind = 1 := by
      intro h; rw [h] at h1; exact absurd h1 (by decide)
    have hk3 : t.kind = 3 ∨ t.kind = 4 ∨ t.kind = 6 := by
      rw [has1] at h1
      simp only [Bool.or_eq_true, decide_eq_true_eq] at h1
      omega
    have hlk : ∀ z, t.kind = z → look1 t.kind = look1 z := fun z h => by rw [h]
    generalize look1 t.kind = lk at hlk ⊢
    refine callsT_facts Tryd.func11 facts11 rfl fun hw _ => ?_

    refine brn_p (fun h => absurd h hk1) (fun _ => ?_)
    refine brn_p (fun h => ?_) (fun q3 => ?_)
    · refine NonZ.mk (by decide) ?_
      have hz : lk = 3 := hlk 3 h
      exact retP rfl (by rw [hz]; rfl)
    refine brn_p (fun h => ?_) (fun q4 => ?_)
    · refine NonZ.mk (by decide) ?_
      have hz : lk = 4 := hlk 4 h
      exact retP rfl (by rw [hz]; rfl)
    refine brn_p (fun h => ?_) (fun q6 => ?_)
    · refine NonZ.mk (by decide) ?_
      have hz : lk = 5 := hlk 6 h
      exact retP rfl (by rw [hz]; rfl)
    · omega
  | sum vs m' h1 h2 h3 h4 h5 h6 h7 =>
    have hok := planVs_ok hpS h5 h6
    have hgv := planVs_get hpS h5 h6
    obtain ⟨sz, sp, gr, be, hns⟩ := newSum_some t.id vs
    have hget := hget h3
    have hds2 := hds _ (hmem h3)
    generalize dataAt ds t = d at *
    have hvm : (d.variants.map variantC).length = d.variants.length := List.length_map _
    have hl1 : ¬ (d.variants.length : Int) < 1 := fun q => h4 (.inr (.inl q))
    have hz : 0 ≤ t.id := by
      have : ¬ t.id < 0 := fun q => h3 (.inr (.inl q))
      omega
    have hvl : (vs.length : Int) = (d.variants.map variantC).length := by rw [hvm, hok.2.2.2]
    have hmod := tmod_pos (a := 0) (b := (d.variants.map variantC).length) (by omega) (by omega)
    have e0 : makS s [] = (.mk 2 t.id ((0 : Int).tmod (d.variants.map variantC).length) 0 (makAt vs ((0 : Int).tmod (d.variants.map variantC).length).toNat []).1, (makAt vs ((0 : Int).tmod (d.variants.map variantC).length).toNat []).2) := by
      rw [h7, hns, makS, ← hvl]; rfl
    rw [e0]
    have hk : ¬ t.kind = 1 ∧ ¬ t.kind = 3 ∧ ¬ t.kind = 4 ∧ ¬ t.kind = 6 := by omega
    generalize hkd : (0 : Int).tmod (d.variants.map variantC).length = kv at hmod ⊢
    have hkv : kv.toNat < d.variants.length := by omega
    have hkn : ((kv.toNat : Nat) : Int) = kv := by omega
    obtain ⟨v, hv⟩ : ∃ v, d.variants[kv.toNat]? = some v := ⟨_, List.getElem?_eq_getElem hkv⟩
    have hvm' := List.mem_of_getElem? hv
    obtain ⟨ss, n', m'', hss, hn'0, hn'1, hfs⟩ := hgv _ v hv
    have hgf := planFs_get hpS hn'0 hfs
    have hfo := planFs_ok hpS hn'0 hfs
    rw [makAt_get hss]
    have hv2 := hds2.2 v hvm'
    have h26 := h26 kv.toNat d v hz hget hv hv2.1 hv2.2
    rw [hkn] at h26
    have hsub := fun x hx => hsub v x hx hv2.2
    have hfml := hfml v
    generalize fldsM t v = Fd at *
    have hFm : (Fd.map tyC).length = Fd.length := List.length_map _
    refine callsT_facts Tryd.func11 facts11 rfl fun hw _ => ?_

    refine brn_p (fun h => absurd h hk.1) (fun _ => ?_)
    refine brn_p (fun h => absurd h hk.2.1) (fun _ => ?_)
    refine brn_p (fun h => absurd h hk.2.2.1) (fun _ => ?_)
    refine brn_p (fun h => absurd h hk.2.2.2) (fun _ => ?_)
    refine idxD hz hget ?_
    refine NonZ.mk (by omega) ?_
    have h26' : CallsT P 26 [.sl (ds.map dataC), tyA t, IC ((0 : Int).tmod (d.variants.map variantC).length)] [] (Ret [] (.sl (Fd.map tyC))) := by rw [hkd]; exact h26
    refine callP h26' rfl fun _ => ?_
    refine loopN Fd.length 11 [2] (([], []) : List Val × List Int) (fun s => [.sl (u16s s.2)]) (fun s => [(4, .box 25 [IC t.kind, IC t.id, .sl (t.args.map tyC)]), (6, .box 32 zeroV), (9, .box 32 [IC 2, IC t.id, IC kv, IC 0, .rw 87, .bool false, .nils, .nils]), (87, .row 32 8 (s.1.map valC))])
      (fun j s => (s.1 ++ (makFs (ss.drop j) s.2).1, (makFs (ss.drop j) s.2).2) = makFs ss [] ∧ ChB s.2 ∧ s.1.length = j) ⟨rfl, (fun c hc => by cases hc), rfl⟩ (same_keys rfl) ⟨same_keys rfl, trivial⟩
      ⟨.inl ⟨_, rfl, .inl ⟨rfl, rfl⟩⟩, .inl ⟨_, rfl, .inl ⟨rfl, rfl⟩⟩, .inl ⟨_, rfl, .inr ⟨32, _, _, rfl, rfl, _, _, rfl, same_keys rfl, _, _, rfl, same_keys rfl, _, _, rfl, .inr (.inl ⟨congrArg IC hkd, rfl⟩), _, _, rfl, same_keys rfl, _, _, rfl, nil_rw rfl rfl, _, _, rfl, same_keys rfl, _, _, rfl, same_keys rfl, _, _, rfl, same_keys rfl, rfl⟩⟩, .inr ⟨rfl, 32, 8, rfl⟩, trivial⟩ (fun _ => rfl) (fun _ => rfl) ?_
    rintro j ⟨xs, u⟩ hj ⟨hinv, hub, hxl⟩ _ _ _
    have hub : ChB u := hub
    have hxl : xs.length = j := hxl
    have hxm : (xs.map valC).length = j := (List.length_map _).trans hxl
    refine brn_p (fun hlt => ?_) (fun hge => ?_)
    · have hlt : j < Fd.length := by omega
      refine withGet hlt fun x hx hxm' => ?_
      obtain ⟨s', n3, m3, hs', q0, q1, q2⟩ := hgf j x hx
      have hjs : j < ss.length := (List.getElem?_eq_some_iff.1 hs').1
      have hdr : ss.drop j = s' :: ss.drop (j + 1) := by
        rw [List.drop_eq_getElem_cons hjs]
        have := (List.getElem?_eq_some_iff.1 hs').2
        rw [this]
      have hinv : (xs ++ (makFs (ss.drop j) u).1, (makFs (ss.drop j) u).2) = makFs ss [] := hinv
      rw [hdr, makFs_step] at hinv
      have ihx := ih x s' (hsub x hxm') ⟨n3, m3, q0, q2⟩ u hub
      have hch := makS_ch s' hub
      refine idxTy hx ?_
      refine callP ihx rfl fun _ => ?_
      refine app1' j rfl hxm (by decide) (by omega) ?_
      refine Fit.in64 (by omega) (by omega) ?_
      exact ⟨(j + 1, (xs ++ [(makS s' u).1], (makS s' u).2)), ⟨hlt, hinv, hch, by show (xs ++ [_]).length = j + 1; simp [hxl]⟩, ⟨nextI, same_keys rfl, trivial⟩,
        ⟨.inl ⟨_, rfl, .inl ⟨rfl, rfl⟩⟩, .inl ⟨_, rfl, .inl ⟨rfl, rfl⟩⟩, .inl ⟨_, rfl, .inl ⟨rfl, rfl⟩⟩, .inl ⟨_, rfl, .inl ⟨rowG rowVal, rfl⟩⟩, trivial⟩, nextM hlt⟩
    · have hge : ¬ j < Fd.length := by omega
      have hinv : (xs ++ (makFs (ss.drop j) u).1, (makFs (ss.drop j) u).2) = makFs ss [] := hinv
      rw [drop_end (l := ss) (by omega), makFs] at hinv
      have e : C.tup [.agg [IC 2, IC t.id, IC kv, IC 0, .sl (xs.map valC), .bool false, .sl [], .sl []], .sl (u16s u)] = makC (.mk 2 t.id kv 0 (makFs ss []).1, (makFs ss []).2) := by
        rw [← hinv]; simp [Val.kind, Val.id, Val.var, Val.n, Val.fields]
      exact retF [87] [] ⟨_, [], rfl, rfl, rfl, rfl, e⟩
set_option maxRecDepth 10000 in
set_option maxHeartbeats 1000000 in
theorem t11c (ds : List Api.Data) (hds : DsB ds) (t : Ty) (s : Sh) (ht : TyB t) (c : Int) (r : List Int) (hc : ChB (c :: r)) (hpi : ∃ f n, 0 ≤ n ∧ PlanI ds f t n s ∧ ∀ x s', TyB x → (∃ n' m', 0 ≤ n' ∧ plan ds (f - 1) x n' = (some s', m')) → ∀ ch, ChB ch → CallsT P 11 [.sl (ds.map dataC), tyA x, .sl (u16s ch)] [] (Ret [] (makC (makS s' ch)))) :
    CallsT P 11 [.sl (ds.map dataC), tyA t, .sl (u16s (c :: r))] [] (Ret [] (makC (makS s (c :: r)))) := by
  obtain ⟨f, n, hn0, hpi, ih⟩ := hpi
  have hcb := hc c (by simp)
  have hb := (tyB_iff t).1 ht
  have hpS := plan_ok ds (f - 1)
  have hget := fun h => (dataAt_get (ds := ds) (t := t) h).1
  have hmem := fun h => (dataAt_get (ds := ds) (t := t) h).2
  have h26 := fun vi d v => t26 ds t vi d v
  have hsub : ∀ (v : Variant), ∀ x ∈ fldsM t v, (∀ y ∈ v.fields, TyB y) → TyB x := by
    intro v x hx hv
    rw [fldsM] at hx
    obtain ⟨y, hy, rfl⟩ := List.mem_map.1 hx
    exact tyB_subst hb.2 y (hv y hy)
  have hfml : ∀ v : Variant, (fldsM t v).length = v.fields.length := fun v => List.length_map _
  cases hpi with
  | num h1 h2 =>
    have e0 : makS s (c :: r) = (.mk 1 0 0 ((c - 32768) * 30517) [], r) := by rw [h2, makS]; rfl
    rw [e0]
    refine callsT_facts Tryd.func11 facts11 rfl fun hw _ => ?_
    refine brn_p (fun _ => ?_) (fun h => absurd (by simp only [List.map_cons, List.length_cons]; omega) h)
    refine idxC (k := 0) (l := c :: r) rfl ?_
    refine Fit.in64 (by omega) (by omega) ?_
    refine SlcT.mk (by decide) (by simp only [List.map_cons, List.length_cons]; omega) (Int.le_refl _) szC ?_
    refine brn_p (fun _ => ?_) (fun h => absurd h1 h)
    refine Fit.in64 (by omega) (by omega) ?_
    refine Fit.in64 (by omega) (by omega) ?_
    exact retP rfl (congrArg (fun z => C.tup [_, z]) chTail)
  | hdl h1 h2 =>
    have e0 : makS s (c :: r) = (.mk (look1 t.kind) 0 0 ((c : Int).tmod 32768) [], r) := by rw [h2, makS]; rfl
    rw [e0]
    have hk1 : ¬ t.kind = 1 := by
      intro h; rw [h] at h1; exact absurd h1 (by decide)
    have hk3 : t.kind = 3 ∨ t.kind = 4 ∨ t.kind = 6 := by
      rw [has1] at h1
      simp only [Bool.or_eq_true, decide_eq_true_eq] at h1
      omega
    have hlk : ∀ z, t.kind = z → look1 t.kind = look1 z := fun z h => by rw [h]
    generalize look1 t.kind = lk at hlk ⊢
    refine callsT_facts Tryd.func11 facts11 rfl fun hw _ => ?_
    refine brn_p (fun _ => ?_) (fun h => absurd (by simp only [List.map_cons, List.length_cons]; omega) h)
    refine idxC (k := 0) (l := c :: r) rfl ?_
    refine Fit.in64 (by omega) (by omega) ?_
    refine SlcT.mk (by decide) (by simp only [List.map_cons, List.length_cons]; omega) (Int.le_refl _) szC ?_
    refine brn_p (fun h => absurd h hk1) (fun _ => ?_)
    refine brn_p (fun h => ?_) (fun q3 => ?_)
    · refine NonZ.mk (by decide) ?_
      have hz : lk = 3 := hlk 3 h
      exact retP rfl (by rw [hz]; exact congrArg (fun z => C.tup [_, z]) chTail)
    refine brn_p (fun h => ?_) (fun q4 => ?_)
    · refine NonZ.mk (by decide) ?_
      have hz : lk = 4 := hlk 4 h
      exact retP rfl (by rw [hz]; exact congrArg (fun z => C.tup [_, z]) chTail)
    refine brn_p (fun h => ?_) (fun q6 => ?_)
    · refine NonZ.mk (by decide) ?_
      have hz : lk = 5 := hlk 6 h
      exact retP rfl (by rw [hz]; exact congrArg (fun z => C.tup [_, z]) chTail)
    · omega
  | sum vs m' h1 h2 h3 h4 h5 h6 h7 =>
    have hok := planVs_ok hpS h5 h6
    have hgv := planVs_get hpS h5 h6
    obtain ⟨sz, sp, gr, be, hns⟩ := newSum_some t.id vs
    have hget := hget h3
    have hds2 := hds _ (hmem h3)
    generalize dataAt ds t = d at *
    have hvm : (d.variants.map variantC).length = d.variants.length := List.length_map _
    have hl1 : ¬ (d.variants.length : Int) < 1 := fun q => h4 (.inr (.inl q))
    have hz : 0 ≤ t.id := by
      have : ¬ t.id < 0 := fun q => h3 (.inr (.inl q))
      omega
    have hvl : (vs.length : Int) = (d.variants.map variantC).length := by rw [hvm, hok.2.2.2]
    have hmod := tmod_pos (a := c) (b := (d.variants.map variantC).length) (by omega) (by omega)
    have e0 : makS s (c :: r) = (.mk 2 t.id ((c : Int).tmod (d.variants.map variantC).length) 0 (makAt vs ((c : Int).tmod (d.variants.map variantC).length).toNat r).1, (makAt vs ((c : Int).tmod (d.variants.map variantC).length).toNat r).2) := by
      rw [h7, hns, makS, ← hvl]; rfl
    rw [e0]
    have hk : ¬ t.kind = 1 ∧ ¬ t.kind = 3 ∧ ¬ t.kind = 4 ∧ ¬ t.kind = 6 := by omega
    generalize hkd : (c : Int).tmod (d.variants.map variantC).length = kv at hmod ⊢
    have hkv : kv.toNat < d.variants.length := by omega
    have hkn : ((kv.toNat : Nat) : Int) = kv := by omega
    obtain ⟨v, hv⟩ : ∃ v, d.variants[kv.toNat]? = some v := ⟨_, List.getElem?_eq_getElem hkv⟩
    have hvm' := List.mem_of_getElem? hv
    obtain ⟨ss, n', m'', hss, hn'0, hn'1, hfs⟩ := hgv _ v hv
    have hgf := planFs_get hpS hn'0 hfs
    have hfo := planFs_ok hpS hn'0 hfs
    rw [makAt_get hss]
    have hv2 := hds2.2 v hvm'
    have h26 := h26 kv.toNat d v hz hget hv hv2.1 hv2.2
    rw [hkn] at h26
    have hsub := fun x hx => hsub v x hx hv2.2
    have hfml := hfml v
    generalize fldsM t v = Fd at *
    have hFm : (Fd.map tyC).length = Fd.length := List.length_map _
    refine callsT_facts Tryd.func11 facts11 rfl fun hw _ => ?_
    refine brn_p (fun _ => ?_) (fun h => absurd (by simp only [List.map_cons, List.length_cons]; omega) h)
    refine idxC (k := 0) (l := c :: r) rfl ?_
    refine Fit.in64 (by omega) (by omega) ?_
    refine SlcT.mk (by decide) (by simp only [List.map_cons, List.length_cons]; omega) (Int.le_refl _) szC ?_
    refine brn_p (fun h => absurd h hk.1) (fun _ => ?_)
    refine brn_p (fun h => absurd h hk.2.1) (fun _ => ?_)
    refine brn_p (fun h => absurd h hk.2.2.1) (fun _ => ?_)
    refine brn_p (fun h => absurd h hk.2.2.2) (fun _ => ?_)
    refine idxD hz hget ?_
    refine NonZ.mk (by omega) ?_
    have h26' : CallsT P 26 [.sl (ds.map dataC), tyA t, IC ((c : Int).tmod (d.variants.map variantC).length)] [] (Ret [] (.sl (Fd.map tyC))) := by rw [hkd]; exact h26
    refine callP h26' rfl fun _ => ?_
    refine loopN Fd.length 11 [2] (([], r) : List Val × List Int) (fun s => [.sl (u16s s.2)]) (fun s => [(4, .box 25 [IC t.kind, IC t.id, .sl (t.args.map tyC)]), (6, .box 32 zeroV), (9, .box 32 [IC 2, IC t.id, IC kv, IC 0, .rw 87, .bool false, .nils, .nils]), (87, .row 32 8 (s.1.map valC))])
      (fun j s => (s.1 ++ (makFs (ss.drop j) s.2).1, (makFs (ss.drop j) s.2).2) = makFs ss r ∧ ChB s.2 ∧ s.1.length = j) ⟨rfl, (fun c' hc' => hc c' (List.mem_cons_of_mem _ hc')), rfl⟩ (same_keys rfl) ⟨.inr (.inl ⟨chTail, rfl⟩), trivial⟩
      ⟨.inl ⟨_, rfl, .inl ⟨rfl, rfl⟩⟩, .inl ⟨_, rfl, .inl ⟨rfl, rfl⟩⟩, .inl ⟨_, rfl, .inr ⟨32, _, _, rfl, rfl, _, _, rfl, same_keys rfl, _, _, rfl, same_keys rfl, _, _, rfl, .inr (.inl ⟨congrArg IC hkd, rfl⟩), _, _, rfl, same_keys rfl, _, _, rfl, nil_rw rfl rfl, _, _, rfl, same_keys rfl, _, _, rfl, same_keys rfl, _, _, rfl, same_keys rfl, rfl⟩⟩, .inr ⟨rfl, 32, 8, rfl⟩, trivial⟩ (fun _ => rfl) (fun _ => rfl) ?_
    rintro j ⟨xs, u⟩ hj ⟨hinv, hub, hxl⟩ _ _ _
    have hub : ChB u := hub
    have hxl : xs.length = j := hxl
    have hxm : (xs.map valC).length = j := (List.length_map _).trans hxl
    refine brn_p (fun hlt => ?_) (fun hge => ?_)
    · have hlt : j < Fd.length := by omega
      refine withGet hlt fun x hx hxm' => ?_
      obtain ⟨s', n3, m3, hs', q0, q1, q2⟩ := hgf j x hx
      have hjs : j < ss.length := (List.getElem?_eq_some_iff.1 hs').1
      have hdr : ss.drop j = s' :: ss.drop (j + 1) := by
        rw [List.drop_eq_getElem_cons hjs]
        have := (List.getElem?_eq_some_iff.1 hs').2
        rw [this]
      have hinv : (xs ++ (makFs (ss.drop j) u).1, (makFs (ss.drop j) u).2) = makFs ss r := hinv
      rw [hdr, makFs_step] at hinv
      have ihx := ih x s' (hsub x hxm') ⟨n3, m3, q0, q2⟩ u hub
      have hch := makS_ch s' hub
      refine idxTy hx ?_
      refine callP ihx rfl fun _ => ?_
      refine app1' j rfl hxm (by decide) (by omega) ?_
      refine Fit.in64 (by omega) (by omega) ?_
      exact ⟨(j + 1, (xs ++ [(makS s' u).1], (makS s' u).2)), ⟨hlt, hinv, hch, by show (xs ++ [_]).length = j + 1; simp [hxl]⟩, ⟨nextI, same_keys rfl, trivial⟩,
        ⟨.inl ⟨_, rfl, .inl ⟨rfl, rfl⟩⟩, .inl ⟨_, rfl, .inl ⟨rfl, rfl⟩⟩, .inl ⟨_, rfl, .inl ⟨rfl, rfl⟩⟩, .inl ⟨_, rfl, .inl ⟨rowG rowVal, rfl⟩⟩, trivial⟩, nextM hlt⟩
    · have hge : ¬ j < Fd.length := by omega
      have hinv : (xs ++ (makFs (ss.drop j) u).1, (makFs (ss.drop j) u).2) = makFs ss r := hinv
      rw [drop_end (l := ss) (by omega), makFs] at hinv
      have e : C.tup [.agg [IC 2, IC t.id, IC kv, IC 0, .sl (xs.map valC), .bool false, .sl [], .sl []], .sl (u16s u)] = makC (.mk 2 t.id kv 0 (makFs ss r).1, (makFs ss r).2) := by
        rw [← hinv]; simp [Val.kind, Val.id, Val.var, Val.n, Val.fields]
      exact retF [87] [] ⟨_, [], rfl, rfl, rfl, rfl, e⟩
theorem t11 (ds : List Api.Data) (hds : DsB ds) : ∀ (f : Nat) (t : Ty) (n m : Int) (s : Sh), TyB t → 0 ≤ n → plan ds f t n = (some s, m) → ∀ ch, ChB ch → CallsT P 11 [.sl (ds.map dataC), tyA t, .sl (u16s ch)] [] (Ret [] (makC (makS s ch)))
  | f, t, n, m, s, ht, h0, h, ch, hch => by
    have hi := plan_inv h
    have key : ∃ f n, 0 ≤ n ∧ PlanI ds f t n s ∧ ∀ x s', TyB x → (∃ n' m', 0 ≤ n' ∧ plan ds (f - 1) x n' = (some s', m')) → ∀ ch, ChB ch → CallsT P 11 [.sl (ds.map dataC), tyA x, .sl (u16s ch)] [] (Ret [] (makC (makS s' ch))) := by
      refine ⟨f, n, h0, hi.2, ?_⟩
      rintro x s' hx ⟨n', m', q0, q⟩ ch hch
      have := hi.1
      exact t11 ds hds (f - 1) x n' m' s' hx q0 q ch hch
    cases ch with
    | nil => exact t11n ds hds t s ht key
    | cons c r => exact t11c ds hds t s ht c r hch key
end Go.Fr.Tryd

/- Layout: well-formed types (what the examples need). -/
set_option linter.unusedVariables false
set_option linter.unusedSimpArgs false
namespace Go.Fr.Tryd
open Go Go.RowKit Go.Proofs Go.Fr Go.Fr.T Go.Fr.Api

def dep : Nat → Ty → Prop
  | 0, _ => False
  | k + 1, t => ∀ x ∈ t.args, dep k x
section
variable {L : TL} {ρ : TEnv}
/-- a call whose result is a number within bounds -/
theorem callN {f : Nat} {args args' : List C} {K : TL → TEnv → C → Prop} {b : Nat} (h : CallsT P f args' [] (fun Mo v => Mo = [] ∧ ∃ n : Int, v = IC n ∧ 1 ≤ n ∧ n ≤ b)) (ha : (args.map fun c => c.canA.ren (toIn [] 1000)) = args') (k : ∀ n : Int, 1 ≤ n ∧ n ≤ b → K L ρ (IC n)) : CallT P f args L ρ K := by
  subst ha
  exact ⟨[], [], [], L, [], _, .inl rfl, rfl, rfl, rfl, rfl, rfl, h, fun v Mo ⟨e1, n, e2, hp⟩ hw _ => by subst e1 e2; exact ⟨rfl, k n hp⟩⟩
end
theorem t33 (t : Ty) (h : 1 ≤ t.kind ∧ t.kind ≤ 5) : CallsT P 33 [tyA t] [] (Ret [] (.bool true)) := by
  refine callsT_facts Tryd.func33 facts33 rfl fun hw _ => ?_
  refine brn_p (fun _ => ?_) (fun q => absurd h.1 q)
  have e : C.bool (decide (t.kind ≤ 5)) = .bool true := by rw [decide_eq_true h.2]
  exact retP rfl e
abbrev pcells (ds : List Api.Data) : List C := [.sl [], .sl [], .sl (ds.map dataC), .sl [], .sl [], .sl [], .sl [], IC 0]
abbrev vBox (ds : List Api.Data) (pa : Int) : List TO := [.box 3 [IC pa], .box 63 (pcells ds), .box 80 [.fn 30 [] [.own 1000 0, .own 1001 0, .own 1002 0]]]
abbrev vBox4 (ds : List Api.Data) (pa : Int) (t : Ty) : List TO := [.box 25 [IC t.kind, IC t.id, .sl (t.args.map tyC)], .box 3 [IC pa], .box 63 (pcells ds), .box 80 [.fn 30 [] [.own 1001 0, .own 1002 0, .own 1003 0]]]
abbrev C30 (ds : List Api.Data) (pa : Int) (t : Ty) : Prop := CallsT P 30 [tyA t, .own 1000 0, .own 1001 0, .own 1002 0] (vBox ds pa) (Ret (vBox ds pa) (.bool true))
theorem t32 (ds : List Api.Data) (pa : Int) (t x : Ty) (h : 1 ≤ x.kind ∧ x.kind ≤ 5) (h30 : C30 ds pa x) :
    CallsT P 32 [tyA x, .own 1000 0, .own 1003 0] (vBox4 ds pa t) (Ret (vBox4 ds pa t) (.bool false)) := by
  refine callsT_facts Tryd.func32 facts32 rfl fun hw _ => ?_
  refine brn_p (fun q => ?_) (fun q => ?_)
  · refine callP (t33 x h) rfl fun _ => ?_
    refine callO [1001, 1002, 1003] [1001, 1002, 1003] h30 rfl rfl rfl rfl rfl fun _ _ => ?_
    exact retO [1000, 1001, 1002, 1003] rfl rfl rfl rfl
  · refine callP (t33 x h) rfl fun _ => ?_
    refine callO [1001, 1002, 1003] [1001, 1002, 1003] h30 rfl rfl rfl rfl rfl fun _ _ => ?_
    exact retO [1000, 1001, 1002, 1003] rfl rfl rfl rfl
theorem t38 (ds : List Api.Data) (pa : Int) (t : Ty) (l : List Ty) (h : ∀ x ∈ l, (1 ≤ x.kind ∧ x.kind ≤ 5) ∧ C30 ds pa x) :
    CallsT P 38 [.sl (l.map tyC), .fn 32 [] [.own 1000 0, .own 1003 0]] (vBox4 ds pa t) (Ret (vBox4 ds pa t) (IC (-1))) := by
  refine callsT_facts Tryd.func38 facts38 rfl fun hw _ => ?_
  have hn : l.length ≤ 9223372036854775807 := wf_lenM hw.1
  have hm : (l.map tyC).length = l.length := List.length_map _
  refine loopN l.length 8 [] () (fun _ => []) (fun _ => [(1000, .box 25 [IC t.kind, IC t.id, .sl (t.args.map tyC)]), (1001, .box 3 [IC pa]), (1002, .box 63 (pcells ds)), (1003, .box 80 [.fn 30 [] [.own 1001 0, .own 1002 0, .own 1003 0]])]) (fun _ _ => True) trivial (same_keys rfl) trivial
    ⟨.inl ⟨_, rfl, .inl ⟨rfl, rfl⟩⟩, .inl ⟨_, rfl, .inl ⟨rfl, rfl⟩⟩, .inl ⟨_, rfl, .inl ⟨rfl, rfl⟩⟩, .inl ⟨_, rfl, .inl ⟨rfl, rfl⟩⟩, trivial⟩ (fun _ => rfl) (fun _ => rfl) ?_
  rintro k _ hk _ _ _ _
  refine brn_p (fun hlt => ?_) (fun hge => ?_)
  · have hlt : k < l.length := by omega
    refine withGet hlt fun x hx hxm => ?_
    refine idxTy hx ?_
    refine callO [1000, 1001, 1002, 1003] [1000, 1001, 1002, 1003] (t32 ds pa t x (h x hxm).1 (h x hxm).2) rfl rfl rfl rfl rfl fun _ _ => ?_
    refine Fit.in64 (by omega) (by omega) ?_
    exact ⟨(k + 1, ()), ⟨hlt, trivial⟩, ⟨nextI, trivial⟩, ⟨.inl ⟨_, rfl, .inl ⟨rfl, rfl⟩⟩, .inl ⟨_, rfl, .inl ⟨rfl, rfl⟩⟩, .inl ⟨_, rfl, .inl ⟨rfl, rfl⟩⟩, .inl ⟨_, rfl, .inl ⟨rfl, rfl⟩⟩, trivial⟩, nextM hlt⟩
  · exact retO [1000, 1001, 1002, 1003] rfl rfl rfl rfl
theorem t31 (ds : List Api.Data) (pa : Int) (t : Ty) (l : List Ty) (h : ∀ x ∈ l, (1 ≤ x.kind ∧ x.kind ≤ 5) ∧ C30 ds pa x) :
    CallsT P 31 [.sl (l.map tyC), .fn 32 [] [.own 1000 0, .own 1003 0]] (vBox4 ds pa t) (Ret (vBox4 ds pa t) (.bool false)) := by
  refine callsT_facts Tryd.func31 facts31 rfl fun hw _ => ?_
  refine callO [1000, 1001, 1002, 1003] [1000, 1001, 1002, 1003] (t38 ds pa t l h) rfl rfl rfl rfl rfl fun _ _ => ?_
  exact retO [1000, 1001, 1002, 1003] rfl rfl rfl rfl
theorem t30i (ds : List Api.Data) (pa : Int) (t : Ty) (h1 : t.kind = 1) (h2 : t.id = 0) (h3 : t.args.length = 0) (h : ∀ x ∈ t.args, (1 ≤ x.kind ∧ x.kind ≤ 5) ∧ C30 ds pa x) : C30 ds pa t := by
  have ham : (t.args.map tyC).length = t.args.length := List.length_map _
  refine callsT_facts Tryd.func30 facts30 rfl fun hw _ => ?_
  refine brn_p (fun _ => ?_) (fun q => absurd h1 q)
  refine brn_p (fun _ => ?_) (fun q => absurd h1 q)
  refine brn_split (fun q => ?_) (fun q => ?_)
  · refine brn_split (fun q => ?_) (fun q => ?_)
    · exact absurd h2 (by simpa using q)
    refine brn_split (fun q => ?_) (fun q => ?_)
    · exact absurd h3 (by rw [← ham]; simpa using q)
    refine callO [4, 1000, 1001, 1002] [4, 1000, 1001, 1002] (t31 ds pa t t.args h) rfl rfl rfl rfl rfl fun _ _ => ?_
    exact retO [1000, 1001, 1002] rfl rfl rfl rfl
  · refine brn_split (fun q => ?_) (fun q => ?_)
    · exact absurd h3 (by rw [← ham]; simpa using q)
    refine callO [4, 1000, 1001, 1002] [4, 1000, 1001, 1002] (t31 ds pa t t.args h) rfl rfl rfl rfl rfl fun _ _ => ?_
    exact retO [1000, 1001, 1002] rfl rfl rfl rfl
theorem t30b (ds : List Api.Data) (pa : Int) (t : Ty) (h1 : t.kind = 3) (h2 : t.id = 0) (h3 : t.args.length = 1) (h : ∀ x ∈ t.args, (1 ≤ x.kind ∧ x.kind ≤ 5) ∧ C30 ds pa x) : C30 ds pa t := by
  have ham : (t.args.map tyC).length = t.args.length := List.length_map _
  refine callsT_facts Tryd.func30 facts30 rfl fun hw _ => ?_
  refine brn_p (fun q => absurd q (by omega)) (fun _ => ?_)
  refine brn_p (fun q => absurd q (by omega)) (fun _ => ?_)
  refine brn_p (fun q => absurd q (by omega)) (fun _ => ?_)
  refine brn_p (fun q => absurd q (by omega)) (fun _ => ?_)
  refine brn_p (fun _ => ?_) (fun q => absurd h1 q)
  refine brn_p (fun _ => ?_) (fun q => absurd h1 q)
  refine brn_split (fun q => ?_) (fun q => ?_)
  · refine brn_split (fun q => ?_) (fun q => ?_)
    · exact absurd h2 (by simpa using q)
    refine brn_split (fun q => ?_) (fun q => ?_)
    · exact absurd h3 (by rw [← ham]; intro e; rw [e] at q; simp at q)
    refine callO [4, 1000, 1001, 1002] [4, 1000, 1001, 1002] (t31 ds pa t t.args h) rfl rfl rfl rfl rfl fun _ _ => ?_
    exact retO [1000, 1001, 1002] rfl rfl rfl rfl
  · refine brn_split (fun q => ?_) (fun q => ?_)
    · exact absurd h3 (by rw [← ham]; intro e; rw [e] at q; simp at q)
    refine callO [4, 1000, 1001, 1002] [4, 1000, 1001, 1002] (t31 ds pa t t.args h) rfl rfl rfl rfl rfl fun _ _ => ?_
    exact retO [1000, 1001, 1002] rfl rfl rfl rfl
theorem t30d (ds : List Api.Data) (pa : Int) (t : Ty) (d : Api.Data) (h1 : t.kind = 2) (h0 : 0 ≤ t.id) (h2 : ds[t.id.toNat]? = some d) (h3 : (t.args.length : Int) = d.params) (h : ∀ x ∈ t.args, (1 ≤ x.kind ∧ x.kind ≤ 5) ∧ C30 ds pa x) : C30 ds pa t := by
  have ham : (t.args.map tyC).length = t.args.length := List.length_map _
  have hdm : (ds.map dataC).length = ds.length := List.length_map _
  have hl : t.id.toNat < ds.length := (List.getElem?_eq_some_iff.1 h2).1
  refine callsT_facts Tryd.func30 facts30 rfl fun hw _ => ?_
  refine brn_p (fun q => absurd q (by omega)) (fun _ => ?_)
  refine brn_p (fun q => absurd q (by omega)) (fun _ => ?_)
  refine brn_p (fun q => absurd q (by omega)) (fun _ => ?_)
  refine brn_p (fun _ => ?_) (fun q => absurd h1 q)
  refine brn_p (fun q => absurd q (by omega)) (fun _ => ?_)
  refine brn_p (fun q => absurd q (by omega)) (fun _ => ?_)
  refine idxD h0 h2 ?_
  refine brn_split (fun q => ?_) (fun q => ?_)
  · exact absurd h1 (by intro e; rw [e] at q; simp at q)
  · refine brn_split (fun q => ?_) (fun q => ?_)
    · exact absurd h3 (by rw [← ham]; intro e; rw [e] at q; simp at q)
    refine callO [4, 1000, 1001, 1002] [4, 1000, 1001, 1002] (t31 ds pa t t.args h) rfl rfl rfl rfl rfl fun _ _ => ?_
    exact retO [1000, 1001, 1002] rfl rfl rfl rfl
/-- the depth of a type of which nothing but its greatest value is asked -/
theorem t29 : ∀ (k : Nat) (t : Ty), k ≤ 100 → dep k t → CallsT P 29 [tyA t] [] (fun Mo v => Mo = [] ∧ ∃ n : Int, v = IC n ∧ 1 ≤ n ∧ n ≤ k)
  | 0, t, _, h => h.elim
  | k + 1, t, hk, h => by
    have ih : ∀ x ∈ t.args, CallsT P 29 [tyA x] [] (fun Mo v => Mo = [] ∧ ∃ n : Int, v = IC n ∧ 1 ≤ n ∧ n ≤ k) := fun x hx => t29 k x (by omega) (h x hx)
    have ham : (t.args.map tyC).length = t.args.length := List.length_map _
    refine callsT_facts Tryd.func29 facts29 rfl fun hw _ => ?_
    have hn : t.args.length ≤ 9223372036854775807 := wf_lenM hw.1.2.2.1
    refine loopN t.args.length 9 [3] (0 : Int) (fun n => [IC n]) (fun _ => [(1, .box 25 [IC t.kind, IC t.id, .sl (t.args.map tyC)])]) (fun _ n => 0 ≤ n ∧ n ≤ k) ⟨by decide, by omega⟩ (same_keys rfl) ⟨same_keys rfl, trivial⟩ ⟨.inl ⟨_, rfl, .inl ⟨rfl, rfl⟩⟩, trivial⟩ (fun _ => rfl) (fun _ => rfl) ?_
    rintro j n hj ⟨hn0, hn1⟩ _ _ _
    refine brn_p (fun hlt => ?_) (fun hge => ?_)
    · have hlt : j < t.args.length := by omega
      refine withGet hlt fun x hx hxm => ?_
      refine idxTy hx ?_
      refine callN (ih x hxm) rfl fun m hm => ?_
      have hmax : (if m > n then m else n) = max n m := by split <;> omega
      have hmw : (Lit.int .i64 (if m > n then m else n)).wf = true := by rw [hmax]; exact wf_of_bd (by omega) (by omega)
      refine ⟨hmw, ?_⟩
      refine Fit.in64 (by omega) (by omega) ?_
      exact ⟨(j + 1, if m > n then m else n), ⟨hlt, by show 0 ≤ (if m > n then m else n); rw [hmax]; omega, by show (if m > n then m else n) ≤ _; rw [hmax]; omega⟩, ⟨nextI, same_keys rfl, trivial⟩, ⟨.inl ⟨_, rfl, .inl ⟨rfl, rfl⟩⟩, trivial⟩, nextM hlt⟩
    · refine Fit.in64 (by omega) (by omega) ?_
      exact ⟨[], [], _, _, _, [], rfl, .inl ⟨rfl, rfl⟩, rfl, rfl, rfl, fun _ => ⟨rfl, n + 1, rfl, by omega, by omega⟩⟩
theorem t22 (ds : List Api.Data) (t : Ty) (hd : dep 8 t) (h : C30 ds 0 t) : CallsT P 22 [.agg (pcells ds), IC 0, tyA t] [] (Ret [] (.bool true)) := by
  refine callsT_facts Tryd.func22 facts22 rfl fun hw _ => ?_
  refine callN (t29 8 t (by decide) hd) rfl fun n hn => ?_
  refine brn_p (fun q => absurd q (by omega)) (fun _ => ?_)
  refine callO [4, 3, 7] [4, 3, 7] h rfl rfl rfl rfl rfl fun _ _ => ?_
  exact retP rfl rfl
end Go.Fr.Tryd

/- Layout: the fixed examples. -/
set_option linter.unusedVariables false
set_option linter.unusedSimpArgs false
namespace Go.Fr.Tryd
open Go Go.RowKit Go.Proofs Go.Fr Go.Fr.T Go.Fr.Api

abbrev tI : Ty := .mk 1 0 []
abbrev tB : Ty := .mk 3 0 [tI]
abbrev tD (i : Int) (l : List Ty) : Ty := .mk 2 i l
theorem exB : DsB exDs := by
  intro d hd
  simp only [exDs, List.mem_cons, List.not_mem_nil, or_false] at hd
  rcases hd with rfl | rfl | rfl <;> simp [TyB, TyBs]
theorem tyB_ex1 : TyB (tD 0 [tB]) := by simp [TyB, TyBs]
theorem tyB_ex2 : TyB (tD 0 [tI]) := by simp [TyB, TyBs]
theorem tyB_ex3 : TyB (tD 0 [tD 0 [tB]]) := by simp [TyB, TyBs]
theorem tyB_ex4 : TyB (tD 1 [tI, tB]) := by simp [TyB, TyBs]
theorem tyB_ex5 : TyB (tD 2 [tI]) := by simp [TyB, TyBs]
theorem p1 : planO exDs (tD 0 [tB]) = some (.sum 0 [[], [.hdl 3]] 1 32767 1 32768) := by kernel_rfl
theorem p2 : planO exDs (tD 0 [tI]) = some (.sum 0 [[], [.num]] 2 65534 (-1) 0) := by kernel_rfl
theorem p3 : planO exDs (tD 0 [tD 0 [tB]]) = some (.sum 0 [[], [.sum 0 [[], [.hdl 3]] 1 32767 1 32768]] 1 32766 1 32769) := by kernel_rfl
theorem p4 : planO exDs (tD 1 [tI, tB]) = some (.sum 1 [[.num, .hdl 3]] 2 0 0 0) := by kernel_rfl
theorem p5 : planO exDs (tD 2 [tI]) = some (.sum 2 [[], [.num, .hdl 3]] 3 65534 (-1) 0) := by kernel_rfl
theorem e1 : encM exDs (tD 0 [tB]) (.mk 2 0 0 0 []) = ([32768], 0) := by kernel_rfl
theorem e2 : encM exDs (tD 0 [tB]) (.mk 2 0 1 0 [.mk 3 0 0 5 []]) = ([5], 0) := by kernel_rfl
theorem d1 : decM exDs (tD 0 [tB]) [32768] = (.mk 2 0 0 0 [], 0) := by kernel_rfl
theorem d2 : decM exDs (tD 0 [tB]) [32769] = (.mk 0 0 0 0 [], 16) := by kernel_rfl
abbrev exC : C := .sl (exDs.map dataC)
theorem h12a : CallsT P 12 [exC, tyA (tD 0 [tB]), valA (.mk 2 0 0 0 [])] [] (Ret [] (.tup [.sl (ics [32768]), IC 0])) := by
  have h := t12 exDs exB _ tyB_ex1 (.mk 2 0 0 0 [])
  rw [e1] at h; exact h
theorem h12b : CallsT P 12 [exC, tyA (tD 0 [tB]), valA (.mk 2 0 1 0 [.mk 3 0 0 5 []])] [] (Ret [] (.tup [.sl (ics [5]), IC 0])) := by
  have h := t12 exDs exB _ tyB_ex1 (.mk 2 0 1 0 [.mk 3 0 0 5 []])
  rw [e2] at h; exact h
theorem h15a : CallsT P 15 [exC, tyA (tD 0 [tB]), .sl (ics [32768])] [] (Ret [] (.tup [valA (.mk 2 0 0 0 []), IC 0])) := by
  have h := t15 exDs exB _ tyB_ex1 [32768]
  rw [d1] at h; exact h
theorem h15b : CallsT P 15 [exC, tyA (tD 0 [tB]), .sl (ics [32769])] [] (Ret [] (.tup [valA (.mk 0 0 0 0 []), IC 16])) := by
  have h := t15 exDs exB _ tyB_ex1 [32769]
  rw [d2] at h; exact h
theorem hw1 : CallsT P 14 [exC, tyA (tD 0 [tB])] [] (Ret [] (IC 1)) := by have h := t14 exDs exB _ tyB_ex1; rw [p1] at h; exact h
theorem hn1 : CallsT P 13 [exC, tyA (tD 0 [tB])] [] (Ret [] (IC 32767)) := by have h := t13 exDs exB _ tyB_ex1; rw [p1] at h; exact h
theorem hw2 : CallsT P 14 [exC, tyA (tD 0 [tI])] [] (Ret [] (IC 2)) := by have h := t14 exDs exB _ tyB_ex2; rw [p2] at h; exact h
theorem hn2 : CallsT P 13 [exC, tyA (tD 0 [tI])] [] (Ret [] (IC 65534)) := by have h := t13 exDs exB _ tyB_ex2; rw [p2] at h; exact h
theorem hn3 : CallsT P 13 [exC, tyA (tD 0 [tD 0 [tB]])] [] (Ret [] (IC 32766)) := by have h := t13 exDs exB _ tyB_ex3; rw [p3] at h; exact h
theorem hw4 : CallsT P 14 [exC, tyA (tD 1 [tI, tB])] [] (Ret [] (IC 2)) := by have h := t14 exDs exB _ tyB_ex4; rw [p4] at h; exact h
theorem hn4 : CallsT P 13 [exC, tyA (tD 1 [tI, tB])] [] (Ret [] (IC 0)) := by have h := t13 exDs exB _ tyB_ex4; rw [p4] at h; exact h
theorem hw5 : CallsT P 14 [exC, tyA (tD 2 [tI])] [] (Ret [] (IC 3)) := by have h := t14 exDs exB _ tyB_ex5; rw [p5] at h; exact h
theorem v1 : C30 exDs 0 tI := t30i exDs 0 tI rfl rfl rfl fun x hx => by cases hx
theorem v2 : C30 exDs 0 tB := t30b exDs 0 tB rfl rfl rfl fun x hx => by
  rcases List.mem_cons.1 hx with rfl | hx
  · exact ⟨⟨by decide, by decide⟩, v1⟩
  · cases hx
theorem v3 : C30 exDs 0 (tD 0 [tB]) := t30d exDs 0 (tD 0 [tB]) _ rfl (by decide) rfl rfl fun x hx => by
  rcases List.mem_cons.1 hx with rfl | hx
  · exact ⟨⟨by decide, by decide⟩, v2⟩
  · cases hx
theorem h22 : CallsT P 22 [.agg (pcells exDs), IC 0, tyA (tD 0 [tB])] [] (Ret [] (.bool true)) := t22 exDs _ (by simp [dep, Ty.args]) v3
set_option maxRecDepth 10000 in
theorem t8 : CallsT P 8 [] [] (Ret [] (.bool true)) := by
  refine callsT_facts Tryd.func8 facts8 rfl fun hw _ => ?_
  refine callP t20 rfl fun _ => ?_
  refine callP t21 rfl fun _ => ?_
  refine callP (t18 3 tI) rfl fun _ => ?_
  refine callP (t19 0 [tB]) rfl fun _ => ?_
  refine callP h12a rfl fun _ => ?_
  refine callP (t19 0 [tB]) rfl fun _ => ?_
  refine callP h12b rfl fun _ => ?_
  refine callP (t19 0 [tB]) rfl fun _ => ?_
  refine callP h15a rfl fun _ => ?_
  refine callP (t19 0 [tB]) rfl fun _ => ?_
  refine callP h15b rfl fun _ => ?_
  refine callP (t19 0 [tB]) rfl fun _ => ?_
  refine callP hw1 rfl fun _ => ?_
  refine callP (t19 0 [tB]) rfl fun _ => ?_
  refine callP hn1 rfl fun _ => ?_
  refine callP (t19 0 [tI]) rfl fun _ => ?_
  refine callP hw2 rfl fun _ => ?_
  refine callP (t19 0 [tI]) rfl fun _ => ?_
  refine callP hn2 rfl fun _ => ?_
  refine callP (t19 0 [tB]) rfl fun _ => ?_
  refine callP (t19 0 [tD 0 [tB]]) rfl fun _ => ?_
  refine callP hn3 rfl fun _ => ?_
  refine callP (t19 1 [tI, tB]) rfl fun _ => ?_
  refine callP hw4 rfl fun _ => ?_
  refine callP (t19 1 [tI, tB]) rfl fun _ => ?_
  refine callP hn4 rfl fun _ => ?_
  refine callP (t19 2 [tI]) rfl fun _ => ?_
  refine callP hw5 rfl fun _ => ?_
  refine callP (t17 [32768]) rfl fun _ => ?_
  refine callP (t17 [5]) rfl fun _ => ?_
  refine callP (t19 0 [tB]) rfl fun _ => ?_
  refine callP h22 rfl fun _ => ?_
  exact retP rfl rfl
end Go.Fr.Tryd

/- Layout, plain: what is read is written, and what is written is read. -/
set_option linter.unusedVariables false
set_option linter.unusedSimpArgs false
namespace Go.Fr.Tryd
open Go Go.RowKit Go.Proofs Go.Fr Go.Fr.T Go.Fr.Api

theorem allZ {r : List Int} (h : r.all (fun n => decide (n = 0)) = true) : r = List.replicate r.length 0 := by
  refine List.eq_replicate_iff.2 ⟨rfl, fun x hx => ?_⟩
  have := List.all_eq_true.1 h x hx
  simpa using this
theorem getVs_ok {i gr be : Int} {w : List Int} : ∀ {r : List (List Sh)} {k : Nat}, (getVs i gr be r k w).2 = true → ∃ j : Nat, ∃ l xs rest, r[j]? = some l ∧ cand gr be l ((k + j : Nat) : Int) w = some (xs, rest) ∧ rest.all (fun n => decide (n = 0)) = true ∧ getVs i gr be r k w = (.mk 2 i ((k + j : Nat) : Int) 0 xs, true)
  | [], k, h => by rw [getVs] at h; cases h
  | l :: r, k, h => by
    have step : getVs i gr be (l :: r) k w = getVs i gr be r ((k + 1 : Nat) : Int) w → ∃ j : Nat, ∃ l' xs rest, (l :: r)[j]? = some l' ∧ cand gr be l' ((k + j : Nat) : Int) w = some (xs, rest) ∧ rest.all (fun n => decide (n = 0)) = true ∧ getVs i gr be (l :: r) k w = (.mk 2 i ((k + j : Nat) : Int) 0 xs, true) := by
      intro e
      rw [e] at h
      obtain ⟨j, l', xs, rest, h1, h2, h3, h4⟩ := getVs_ok h
      have ek : k + 1 + j = k + (j + 1) := by omega
      rw [ek] at h2 h4
      exact ⟨j + 1, l', xs, rest, by simpa using h1, h2, h3, by rw [e]; exact h4⟩
    cases hc : cand gr be l k w with
    | none => exact step (getVs_none hc)
    | some p =>
      obtain ⟨xs, rest⟩ := p
      by_cases hz : rest.all (fun n => decide (n = 0)) = true
      · refine ⟨0, l, xs, rest, rfl, hc, hz, ?_⟩
        rw [getVs_some hc, if_pos hz]; rfl
      · exact step (by rw [getVs_some hc, if_neg hz]; rfl)
theorem getFs_ok : ∀ {l : List Sh} {w : List Int} {xs : List Val} {rest : List Int}, (∀ s ∈ l, 0 ≤ s.words ∧ ∀ u : List Int, (u.length : Int) = s.words → (getM s u).2 = true → putM s (getM s u).1 = (u, true)) → total l ≤ w.length → getFs l w = some (xs, rest) →
    xs.length = l.length ∧ ∃ u, putFs l xs = some u ∧ w = u ++ rest
  | [], w, xs, rest, _, _, h => by
    rw [getFs] at h
    injection h with h
    injection h with h1 h2
    subst h1 h2
    exact ⟨rfl, [], by rw [putFs], rfl⟩
  | s :: l, w, xs, rest, hi, ht, h => by
    rw [getFs] at h
    split at h
    · rename_i hb
      obtain ⟨p, h1, h2⟩ := Option.map_eq_some_iff.1 h
      obtain ⟨ys, r'⟩ := p
      injection h2 with h3 h4
      subst h3 h4
      obtain ⟨hw0, hi0⟩ := hi s (by simp)
      have htl : 0 ≤ total l := total_nonneg fun x hx => (hi x (by simp [hx])).1
      rw [total] at ht
      have hput := hi0 (w.take s.words.toNat) (by rw [List.length_take]; omega) hb
      obtain ⟨g1, u, g2, g3⟩ := getFs_ok (fun x hx => hi x (by simp [hx])) (by rw [List.length_drop]; omega) h1
      refine ⟨by simp [g1], w.take s.words.toNat ++ u, ?_, ?_⟩
      · rw [putFs, hput, if_pos rfl, g2]; rfl
      · show w = _ ++ r'
        rw [List.append_assoc, ← g3, List.take_append_drop]
    · cases h
theorem mark_pos (gr be k : Int) : (markM gr be k).toList.length ≤ 1 := by cases markM gr be k <;> simp
theorem put_get : ∀ {s : Sh}, Good s → ∀ w : List Int, (w.length : Int) = s.words → (getM s w).2 = true → putM s (getM s w).1 = (w, true)
  | .num, _, w, hl, h => by
    have hl : (w.length : Int) = 1 := hl
    obtain ⟨n, rfl⟩ := List.length_eq_one_iff.1 (show w.length = 1 by omega)
    rw [getM] at h ⊢
    rw [putM]
    have h := of_decide_eq_true h
    have h0 : -1000000000 ≤ n ∧ n ≤ 1000000000 := h
    show ([n], decide _) = ([n], true)
    rw [decide_eq_true]
    exact ⟨rfl, h0.1, h0.2⟩
  | .hdl k, _, w, hl, h => by
    have hl : (w.length : Int) = 1 := hl
    obtain ⟨n, rfl⟩ := List.length_eq_one_iff.1 (show w.length = 1 by omega)
    rw [getM] at h ⊢
    rw [putM]
    have h := of_decide_eq_true h
    have h0 : 0 ≤ n ∧ n ≤ 32767 := h
    show ([n], decide _) = ([n], true)
    rw [decide_eq_true]
    exact ⟨rfl, h0.1, h0.2⟩
  | .sum i vs sz sp gr be, hg, w, hl, h => by
    have hf := good_form hg
    have hg' := hg
    rw [Good, goodVs_iff] at hg'
    have hl : (w.length : Int) = sz := hl
    rw [getM] at h ⊢
    have h' : (getVs i gr be vs ((0 : Nat) : Int) w).2 = true := h
    obtain ⟨j, l, xs, rest, h1, h2, h3, h4⟩ := getVs_ok h'
    have h4 : getVs i gr be vs 0 w = (.mk 2 i (j : Int) 0 xs, true) := by
      have e : 0 + j = j := by omega
      rw [e] at h4; exact h4
    have h2 : cand gr be l (j : Int) w = some (xs, rest) := by
      have e : 0 + j = j := by omega
      rw [e] at h2; exact h2
    rw [h4]
    have hroom := form_room hf h1
    have hlm := List.mem_of_getElem? h1
    have hfs : ∀ w' : List Int, total l ≤ w'.length → getFs l w' = some (xs, rest) → xs.length = l.length ∧ ∃ u, putFs l xs = some u ∧ w' = u ++ rest := fun w' ht hh =>
      getFs_ok (fun s hs => ⟨(words_bd (hg'.2.2.2 l hlm s hs)).1, fun u hu hb => put_get (hg'.2.2.2 l hlm s hs) u hu hb⟩) ht hh
    have key : ∃ u, xs.length = l.length ∧ putFs l xs = some u ∧ w = (markM gr be j).toList ++ (u ++ rest) := by
      cases hm : markM gr be j with
      | none =>
        rw [cand_none hm] at h2
        rw [hm] at hroom
        obtain ⟨a, u, b, c⟩ := hfs w (by simp at hroom; omega) h2
        exact ⟨u, a, b, by simpa using c⟩
      | some m =>
        rw [cand_some hm] at h2
        rw [hm] at hroom
        split at h2
        · rename_i hh
          have htl : 0 ≤ total l := total_nonneg fun s hs => (words_bd (hg'.2.2.2 l hlm s hs)).1
          have hr1 : 1 + total l ≤ sz := hroom
          obtain ⟨a, u, b, c⟩ := hfs w.tail (by rw [List.length_tail]; omega) h2
          refine ⟨u, a, b, ?_⟩
          cases w with
          | nil => simp at hl; omega
          | cons x r =>
            simp only [List.headD_cons] at hh
            simp only [List.tail_cons] at c
            rw [hh, c]; rfl
        · cases h2
    obtain ⟨u, k1, k2, k3⟩ := key
    rw [putM]
    have c0 : ¬ ((Val.mk 2 i (j : Int) 0 xs).kind ≠ 2 ∨ (Val.mk 2 i (j : Int) 0 xs).id ≠ i ∨ (Val.mk 2 i (j : Int) 0 xs).var < 0) := by
      rintro (q | q | q)
      · exact q rfl
      · exact q rfl
      · have q : (j : Int) < 0 := q
        omega
    rw [if_neg c0, putVs_at]
    have e1 : (Val.mk 2 i (j : Int) 0 xs).var.toNat = j := Int.toNat_natCast j
    rw [e1, h1]
    show (match (if xs.length = l.length then putFs l xs else none) with | none => ([], false) | some w => ((markM gr be (j : Int)).toList ++ w ++ List.replicate (sz - (((markM gr be (j : Int)).toList ++ w).length : Int)).toNat 0, true)) = (w, true)
    rw [if_pos k1, k2]
    show ((markM gr be (j : Int)).toList ++ u ++ List.replicate (sz - (((markM gr be (j : Int)).toList ++ u).length : Int)).toNat 0, true) = (w, true)
    have hrl : (sz - (((markM gr be (j : Int)).toList ++ u).length : Int)).toNat = rest.length := by
      have : w.length = ((markM gr be (j : Int)).toList ++ u).length + rest.length := by
        rw [k3, ← List.append_assoc, List.length_append]
      omega
    rw [hrl, ← allZ h3, List.append_assoc, ← k3]
termination_by s => SizeOf.sizeOf s
decreasing_by
  have h1 := List.sizeOf_lt_of_mem hs
  have h2 := List.sizeOf_lt_of_mem hlm
  simp only [Sh.sum.sizeOf_spec]
  omega
end Go.Fr.Tryd
