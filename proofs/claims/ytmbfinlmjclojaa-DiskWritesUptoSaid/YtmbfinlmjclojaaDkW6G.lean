/- Part of the proofs of the statements of this seat. -/
import Derived.Test.YtmbfinlmjclojaaDkP6G
/- Disk: DiskWrites, walked. -/
set_option linter.unusedVariables false
set_option linter.unusedSimpArgs false
namespace Go.Fr.Try
open Go Go.RowKit Go.Proofs Go.Fr Go.Fr.T
theorem flat_get : ∀ (l : List (List UInt8)) (q k : Nat) (x : List UInt8), (∀ p ∈ l, p.length = 256) → l[q]? = some x → k < 256 → l.flatten[q * 256 + k]? = x[k]?
  | [], q, k, x, _, h, _ => by cases h
  | p :: l, 0, k, x, h, hx, hk => by
    have hp := h p (List.mem_cons_self ..)
    simp only [List.getElem?_cons_zero, Option.some.injEq] at hx
    subst hx
    rw [List.flatten_cons, Nat.zero_mul, Nat.zero_add, List.getElem?_append_left (by omega)]
  | p :: l, q + 1, k, x, h, hx, hk => by
    have hp := h p (List.mem_cons_self ..)
    rw [List.getElem?_cons_succ] at hx
    have ih := flat_get l q k x (fun y hy => h y (List.mem_cons_of_mem _ hy)) hx hk
    rw [List.flatten_cons, List.getElem?_append_right (by omega), hp, show (q + 1) * 256 + k - 256 = q * 256 + k by omega]
    exact ih
theorem space_get {d : List (List UInt8)} (hv : validD d = true) {h p k : Nat} {x : List UInt8} (h1 : h * (d.length / 2) < p) (h2 : p < h * (d.length / 2) + d.length / 2) (hx : d[p]? = some x) (hk : k < 256) :
    (spaceD d h)[(p - h * (d.length / 2) - 1) * 256 + k]? = x[k]? := by
  obtain ⟨v1, v2, v3⟩ := validD_iff.1 hv
  unfold spaceD
  refine flat_get _ _ _ _ (fun q hq => v3 q (List.mem_of_mem_drop (List.mem_of_mem_take hq))) ?_ hk
  rw [List.getElem?_take, if_pos (by omega), List.getElem?_drop, ← hx]
  congr 1
  omega
/-- what the writes of an operation leave as it is -/
structure Left (d A : List (List UInt8)) (tr : Bool) (F n2 e : Nat) : Prop where
  app : tr = false → ∀ p : Nat, (p ≤ F ∨ F + n2 ≤ p) → A[p]? = d[p]?
  trunc : tr = true → ∀ p : Nat, F ≤ p → p < F + n2 → A[p]? = d[p]?
  bytes : ∀ (p k : Nat) (x y : List UInt8), F < p → p < F + n2 → k < 256 → (p - F - 1) * 256 + k < e → A[p]? = some x → d[p]? = some y → x[k]? = y[k]?
theorem op_left {d rs : List (List UInt8)} {tr : Bool} (he : (opD d rs tr).2.2 = 0) : Left d (applyAll d (opD d rs tr).1) tr (presD d * (d.length / 2)) (d.length / 2) (parse (spaceD d (presD d))).2 := by
  have hh := pres_le d
  cases tr
  · rw [opD_f] at he ⊢
    obtain ⟨-, -, -, h4⟩ := append_ok he
    obtain ⟨g1, g2, g3, g4, -⟩ := h4 _ rfl
    obtain ⟨hv, -⟩ := append_eq he
    refine ⟨fun _ => g3, fun h => (by cases h), ?_⟩
    intro p k x y h1 h2 hk hlt hx hy
    have hx' := space_get g1 (h := presD d) (p := p) (k := k) (by rw [g2]; exact h1) (by rw [g2]; exact h2) hx hk
    have hy' := space_get hv (h := presD d) (p := p) (k := k) h1 h2 hy hk
    rw [g2] at hx'
    rw [← hx', ← hy']
    have e := congrArg (fun l => l[(p - presD d * (d.length / 2) - 1) * 256 + k]?) g4
    simp only [List.getElem?_take] at e
    rw [if_pos hlt, if_pos hlt] at e
    exact e
  · rw [opD_t] at he ⊢
    obtain ⟨-, -, -, h4⟩ := truncate_ok he
    obtain ⟨g1, g2, g3, -⟩ := h4 _ rfl
    refine ⟨fun h => (by cases h), fun _ => g3, ?_⟩
    intro p k x y h1 h2 hk hlt hx hy
    rw [g3 p (by omega) h2, hy] at hx
    cases hx
    rfl
set_option maxRecDepth 10000 in
theorem t6_false (d rs : List (List UInt8)) : CallsT P 6 [.agg (diskC d), .sl (rs.map pgC), .bool false] [] (Ret [] (.bool true)) := by
  have c9 := t9
  have c10 := t10 d rs
  have c25 := t25 d
  have c24 := fun hb => t24 d rs false hb
  have hfr := @few_frames d rs
  have hleft := @op_left d rs false
  have hok := @op_ok d rs false
  have hh := pres_le d
  have c29 := t29 d
  have hspl := @space_len d
  have c31 := fun h1 h2 h3 => t31 d (presD d) hh h1 h2 h3
  have c30 := fun hs => t30 (spaceD d (presD d)) hs
  have c32 := t32 d
  have hple := (@parse_recs_le (spaceD d (presD d)) _ (Nat.le_refl _)).2
  have hvi := @validD_iff d
  have h1n := mul_le1 (n := d.length / 2) hh
  have c28 := fun w => t28 d w
  have hdm : (d.map pgC).length = d.length := List.length_map _
  have c19 := fun hv hk => apply_whole (d := d) (l := (opD d rs false).1) hv hk ▸ t19 d (opD d rs false).1 (-1)
  generalize hfb : fewD d rs = fb at c10
  generalize hvb : validD d = vb at c25
  generalize opD d rs false = R at c24 hleft hok c19
  obtain ⟨l, want, e⟩ := R
  simp only at c24 hleft hok c19
  generalize hA : applyAll d l = A at hleft c19
  have c25a := t25 A
  have hAm : (A.map pgC).length = A.length := List.length_map _
  generalize hN : d.length / 2 = n2 at hspl c31 c32 h1n hleft
  generalize hH : presD d = H at hh c29 c31 c30 hple h1n hleft
  have hsp : validD d = true → (spaceD d H).length = (n2 - 1) * 256 := fun hv => hspl hv hh
  clear hspl
  generalize spaceD d H = S at c31 c30 hple hleft hsp
  generalize hF : H * n2 = F at h1n hleft
  generalize parse S = PS at c30 hple hleft
  obtain ⟨recs, en⟩ := PS
  simp only at c30 hple hleft
  have hlm : (l.map wrC).length = l.length := List.length_map _
  refine callsT_facts Try.func6 facts6 rfl fun hw _ => ?_
  refine callP c9 rfl fun _ => ?_
  refine callP c10 rfl fun _ => ?_
  refine brn_split (fun h1 => ?_) (fun h1 => ?_)
  · exact retP rfl rfl
  have hf : fewD d rs = true := by rw [hfb]; cases fb; cases h1; rfl
  refine callP c25 rfl fun _ => ?_
  refine brn_split (fun h2 => ?_) (fun h2 => ?_)
  · exact retP rfl rfl
  have hv : validD d = true := by rw [hvb]; cases vb; cases h2; rfl
  have hbig : (framesB rs).length ≤ 2 ^ 38 := Nat.le_trans (hfr hf) (by omega)
  refine callP (c24 hbig) rfl fun hwl => ?_
  refine brn_split (fun h3 => ?_) (fun h3 => ?_)
  · exact retP rfl rfl
  have he : e = 0 := by simpa using h3
  have hll : l.length ≤ 9223372036854775807 := wf_lenM hwl.1
  have q := hok he
  have qok := q.ok
  have qv := q.valid'
  have ql := q.len'
  rw [hA] at qv ql
  have qL := hleft he
  have hvd := hvi.1 hv
  have hd1 := hvd.1
  have hd2 := hvd.2.1
  have hd3 := hvd.2.2
  have hAv := validD_iff.1 qv
  have hA3 := hAv.2.2
  have hsl := hsp hv
  have hn2 : n2 ≤ 200 := by omega
  refine loopN l.length 11 [] () (fun _ => []) (fun _ => [(3, .box 24 (diskC d))]) (fun k _ => True) trivial (same_keys rfl) trivial ⟨.inl ⟨_, rfl, .inl ⟨rfl, rfl⟩⟩, trivial⟩ (fun _ => rfl) (fun _ => rfl) ?_
  rintro k _ hk hinv _ _ _
  refine brn_p (fun hlt => ?_) (fun hge => ?_)
  · have hlt : k < l.length := by simpa using hlt
    refine withGet hlt fun w hx hxm => ?_
    refine idxT (f := wrC) hx rfl rfl ?_
    refine callPD (c28 w) rfl fun _ => ?_
    refine brn_split (fun hq => ?_) (fun hq => ?_)
    · rw [qok w hxm] at hq; cases hq
    · refine Fit.in64 (by omega) (by omega) ?_
      exact ⟨(k + 1, ()), ⟨hlt, trivial⟩, ⟨nextI, trivial⟩, ⟨.inl ⟨_, rfl, .inl ⟨rfl, rfl⟩⟩, trivial⟩, nextM hlt⟩
  refine callP (c19 hv qok) rfl fun _ => ?_
  have c25b : CallsT P 25 [.agg (diskC A)] [] (Ret [] (.bool true)) := by rw [← qv]; exact c25a
  refine callP c25b rfl fun _ => ?_
  refine brn_split (fun h4 => ?_) (fun h4 => ?_)
  · have : ((A.map pgC).length : Int) = ((d.map pgC).length : Int) := by rw [hAm, hdm, ql]
    rw [decide_eq_true this] at h4
    cases h4
  refine callP (c29 hv) rfl fun _ => ?_
  refine callO [] [77] (c31 (by omega) (by omega) fun p hp => by rw [hd3 p hp]; omega) rfl rfl rfl rfl rfl fun _ _ => ?_
  refine callF [77] [] [] (c30 (by omega)) ⟨[], rfl, rfl, rfl, rfl, rfl, fun _ _ => ?_⟩
  refine callP c32 rfl fun _ => ?_
  refine Fit.to (m := ((F : Nat) : Int)) (by rw [wrap_i64 (by rw [← Int.natCast_mul]; omega) (by rw [← Int.natCast_mul]; omega), ← hF]; exact Int.natCast_mul .. |>.symm) ?_
  refine loopN d.length 17 [] () (fun _ => []) (fun _ => [(3, .box 24 (diskC d)), (12, .box 24 (diskC A))]) (fun k _ => True) trivial (same_keys rfl) trivial ⟨.inl ⟨_, rfl, .inl ⟨rfl, rfl⟩⟩, .inl ⟨_, rfl, .inl ⟨rfl, rfl⟩⟩, trivial⟩ (fun _ => rfl) (fun _ => rfl) ?_
  rintro p _ hp _ _ _ _
  refine brn_p (fun hlt => ?_) (fun hge => ?_)
  · have hlt : p < d.length := by omega
    have hltA : p < A.length := by omega
    refine withGet hlt fun y hy hym => ?_
    refine withGet hltA fun x hx hxm => ?_
    have hyl := hd3 y hym
    have hxl := hA3 x hxm
    have hbl := bcells_len y
    refine brn_p (fun h5 => ?_) (fun h5 => ?_)
    · refine callP c32 rfl fun _ => ?_
      refine Fit.to (m := ((F + n2 : Nat) : Int)) (by rw [wrap_i64 (by omega) (by omega)]; omega) ?_
      refine brn_p (fun h9 => ?_) (fun h9 => ?_)
      · omega
      refine callP c32 rfl fun _ => ?_
      refine Fit.to (m := ((F + n2 : Nat) : Int)) (by rw [wrap_i64 (by omega) (by omega)]; omega) ?_
      refine idxT (f := pgC) hx rfl rfl ?_
      refine BytesT.mk ⟨_, rfl, ?_⟩
      refine idxT (f := pgC) hy rfl rfl ?_
      refine BytesT.mk ⟨_, rfl, ?_⟩
      refine brn_split (fun h10 => ?_) (fun h10 => ?_)
      · have h10' : ¬ ((p : Int) < ((F + n2 : Nat) : Int)) := by simpa using h10
        have hxy : x = y := by
          have hAd := qL.app rfl p (.inr (by omega))
          rw [hx, hy] at hAd
          exact Option.some.inj hAd
        refine brn_split (fun h11 => ?_) (fun h11 => ?_)
        · rw [streq_bytes, decide_eq_true hxy] at h11; cases h11
        refine loopN 256 21 [] () (fun _ => []) (fun _ => [(3, .box 24 (diskC d)), (12, .box 24 (diskC A))]) (fun k _ => True) trivial (same_keys rfl) trivial ⟨.inl ⟨_, rfl, .inl ⟨rfl, rfl⟩⟩, .inl ⟨_, rfl, .inl ⟨rfl, rfl⟩⟩, trivial⟩ (fun _ => rfl) (fun _ => rfl) ?_
        rintro k _ hk _ _ _ _
        refine brn_p (fun h6 => ?_) (fun h6 => ?_)
        · omega
        · refine Fit.in64 (by omega) (by omega) ?_
          exact ⟨(p + 1, ()), ⟨hlt, trivial⟩, ⟨nextI, trivial⟩, ⟨.inl ⟨_, rfl, .inl ⟨rfl, rfl⟩⟩, .inl ⟨_, rfl, .inl ⟨rfl, rfl⟩⟩, trivial⟩, nextM hlt⟩
      · have h10' : ((p : Int) < ((F + n2 : Nat) : Int)) := by simpa using h10
        refine loopN 256 21 [] () (fun _ => []) (fun _ => [(3, .box 24 (diskC d)), (12, .box 24 (diskC A))]) (fun k _ => True) trivial (same_keys rfl) trivial ⟨.inl ⟨_, rfl, .inl ⟨rfl, rfl⟩⟩, .inl ⟨_, rfl, .inl ⟨rfl, rfl⟩⟩, trivial⟩ (fun _ => rfl) (fun _ => rfl) ?_
        rintro k _ hk _ _ _ _
        refine brn_p (fun h6 => ?_) (fun h6 => ?_)
        · refine idxT (f := pgC) hy rfl rfl ?_
          refine brn_p (fun hk2 => ?_) (fun hk2 => ?_)
          · have hk2 : k < 256 := by omega
            refine Fit.to (m := ((p - F : Nat) : Int)) (by rw [wrap_i64 (by omega) (by omega)]; omega) ?_
            refine Fit.to (m := ((p - F - 1 : Nat) : Int)) (by rw [wrap_i64 (by omega) (by omega)]; omega) ?_
            refine Fit.to (m := (((p - F - 1) * 256 : Nat) : Int)) (by rw [wrap_i64 (by omega) (by omega)]; omega) ?_
            refine Fit.to (m := (((p - F - 1) * 256 + k : Nat) : Int)) (by rw [wrap_i64 (by omega) (by omega)]; omega) ?_
            refine brn_p (fun h7 => ?_) (fun h7 => ?_)
            · have hb := qL.bytes p k x y (by omega) (by omega) hk2 (by omega) hx hy
              have hky : k < y.length := by omega
              refine withGet hky fun z hz _ => ?_
              have hz2 : x[k]? = some z := by rw [hb]; exact hz
              refine idxT (f := pgC) hx rfl rfl ?_
              refine idxB hz2 ?_
              refine idxT (f := pgC) hy rfl rfl ?_
              refine idxB hz ?_
              refine brn_split (fun h8 => ?_) (fun h8 => ?_)
              · rw [decide_eq_true rfl] at h8; cases h8
              · refine Fit.in64 (by omega) (by omega) ?_
                exact ⟨(k + 1, ()), ⟨hk2, trivial⟩, ⟨nextI, trivial⟩, ⟨.inl ⟨_, rfl, .inl ⟨rfl, rfl⟩⟩, .inl ⟨_, rfl, .inl ⟨rfl, rfl⟩⟩, trivial⟩, nextM hk2⟩
            · refine Fit.in64 (by omega) (by omega) ?_
              exact ⟨(p + 1, ()), ⟨hlt, trivial⟩, ⟨nextI, trivial⟩, ⟨.inl ⟨_, rfl, .inl ⟨rfl, rfl⟩⟩, .inl ⟨_, rfl, .inl ⟨rfl, rfl⟩⟩, trivial⟩, nextM hlt⟩
          · refine Fit.in64 (by omega) (by omega) ?_
            exact ⟨(p + 1, ()), ⟨hlt, trivial⟩, ⟨nextI, trivial⟩, ⟨.inl ⟨_, rfl, .inl ⟨rfl, rfl⟩⟩, .inl ⟨_, rfl, .inl ⟨rfl, rfl⟩⟩, trivial⟩, nextM hlt⟩
        · omega
    · refine brn_p (fun h9 => ?_) (fun h9 => ?_)
      · refine idxT (f := pgC) hx rfl rfl ?_
        refine BytesT.mk ⟨_, rfl, ?_⟩
        refine idxT (f := pgC) hy rfl rfl ?_
        refine BytesT.mk ⟨_, rfl, ?_⟩
        have hxy : x = y := by
          have hAd := qL.app rfl p (.inl (by omega))
          rw [hx, hy] at hAd
          exact Option.some.inj hAd
        refine brn_split (fun h11 => ?_) (fun h11 => ?_)
        · rw [streq_bytes, decide_eq_true hxy] at h11; cases h11
        refine loopN 256 21 [] () (fun _ => []) (fun _ => [(3, .box 24 (diskC d)), (12, .box 24 (diskC A))]) (fun k _ => True) trivial (same_keys rfl) trivial ⟨.inl ⟨_, rfl, .inl ⟨rfl, rfl⟩⟩, .inl ⟨_, rfl, .inl ⟨rfl, rfl⟩⟩, trivial⟩ (fun _ => rfl) (fun _ => rfl) ?_
        rintro k _ hk _ _ _ _
        refine Fit.in64 (by omega) (by omega) ?_
        exact ⟨(p + 1, ()), ⟨hlt, trivial⟩, ⟨nextI, trivial⟩, ⟨.inl ⟨_, rfl, .inl ⟨rfl, rfl⟩⟩, .inl ⟨_, rfl, .inl ⟨rfl, rfl⟩⟩, trivial⟩, nextM hlt⟩
      · refine callP c32 rfl fun _ => ?_
        refine Fit.to (m := ((F + n2 : Nat) : Int)) (by rw [wrap_i64 (by omega) (by omega)]; omega) ?_
        refine idxT (f := pgC) hx rfl rfl ?_
        refine BytesT.mk ⟨_, rfl, ?_⟩
        refine idxT (f := pgC) hy rfl rfl ?_
        refine BytesT.mk ⟨_, rfl, ?_⟩
        have hxy : x = y := by
          have hAd := qL.app rfl p (.inl (by omega))
          rw [hx, hy] at hAd
          exact Option.some.inj hAd
        refine brn_split (fun h11 => ?_) (fun h11 => ?_)
        · rw [streq_bytes, decide_eq_true hxy] at h11; cases h11
        refine loopN 256 21 [] () (fun _ => []) (fun _ => [(3, .box 24 (diskC d)), (12, .box 24 (diskC A))]) (fun k _ => True) trivial (same_keys rfl) trivial ⟨.inl ⟨_, rfl, .inl ⟨rfl, rfl⟩⟩, .inl ⟨_, rfl, .inl ⟨rfl, rfl⟩⟩, trivial⟩ (fun _ => rfl) (fun _ => rfl) ?_
        rintro k _ hk _ _ _ _
        refine Fit.in64 (by omega) (by omega) ?_
        exact ⟨(p + 1, ()), ⟨hlt, trivial⟩, ⟨nextI, trivial⟩, ⟨.inl ⟨_, rfl, .inl ⟨rfl, rfl⟩⟩, .inl ⟨_, rfl, .inl ⟨rfl, rfl⟩⟩, trivial⟩, nextM hlt⟩
  · exact retP rfl rfl
set_option maxRecDepth 10000 in
theorem t6_true (d rs : List (List UInt8)) : CallsT P 6 [.agg (diskC d), .sl (rs.map pgC), .bool true] [] (Ret [] (.bool true)) := by
  have c9 := t9
  have c10 := t10 d rs
  have c25 := t25 d
  have c24 := fun hb => t24 d rs true hb
  have hfr := @few_frames d rs
  have hleft := @op_left d rs true
  have hok := @op_ok d rs true
  have hh := pres_le d
  have c29 := t29 d
  have hspl := @space_len d
  have c31 := fun h1 h2 h3 => t31 d (presD d) hh h1 h2 h3
  have c30 := fun hs => t30 (spaceD d (presD d)) hs
  have c32 := t32 d
  have hple := (@parse_recs_le (spaceD d (presD d)) _ (Nat.le_refl _)).2
  have hvi := @validD_iff d
  have h1n := mul_le1 (n := d.length / 2) hh
  have c28 := fun w => t28 d w
  have hdm : (d.map pgC).length = d.length := List.length_map _
  have c19 := fun hv hk => apply_whole (d := d) (l := (opD d rs true).1) hv hk ▸ t19 d (opD d rs true).1 (-1)
  generalize hfb : fewD d rs = fb at c10
  generalize hvb : validD d = vb at c25
  generalize opD d rs true = R at c24 hleft hok c19
  obtain ⟨l, want, e⟩ := R
  simp only at c24 hleft hok c19
  generalize hA : applyAll d l = A at hleft c19
  have c25a := t25 A
  have hAm : (A.map pgC).length = A.length := List.length_map _
  generalize hN : d.length / 2 = n2 at hspl c31 c32 h1n hleft
  generalize hH : presD d = H at hh c29 c31 c30 hple h1n hleft
  have hsp : validD d = true → (spaceD d H).length = (n2 - 1) * 256 := fun hv => hspl hv hh
  clear hspl
  generalize spaceD d H = S at c31 c30 hple hleft hsp
  generalize hF : H * n2 = F at h1n hleft
  generalize parse S = PS at c30 hple hleft
  obtain ⟨recs, en⟩ := PS
  simp only at c30 hple hleft
  have hlm : (l.map wrC).length = l.length := List.length_map _
  refine callsT_facts Try.func6 facts6 rfl fun hw _ => ?_
  refine callP c9 rfl fun _ => ?_
  refine callP c10 rfl fun _ => ?_
  refine brn_split (fun h1 => ?_) (fun h1 => ?_)
  · exact retP rfl rfl
  have hf : fewD d rs = true := by rw [hfb]; cases fb; cases h1; rfl
  refine callP c25 rfl fun _ => ?_
  refine brn_split (fun h2 => ?_) (fun h2 => ?_)
  · exact retP rfl rfl
  have hv : validD d = true := by rw [hvb]; cases vb; cases h2; rfl
  have hbig : (framesB rs).length ≤ 2 ^ 38 := Nat.le_trans (hfr hf) (by omega)
  refine callP (c24 hbig) rfl fun hwl => ?_
  refine brn_split (fun h3 => ?_) (fun h3 => ?_)
  · exact retP rfl rfl
  have he : e = 0 := by simpa using h3
  have hll : l.length ≤ 9223372036854775807 := wf_lenM hwl.1
  have q := hok he
  have qok := q.ok
  have qv := q.valid'
  have ql := q.len'
  rw [hA] at qv ql
  have qL := hleft he
  have hvd := hvi.1 hv
  have hd1 := hvd.1
  have hd2 := hvd.2.1
  have hd3 := hvd.2.2
  have hAv := validD_iff.1 qv
  have hA3 := hAv.2.2
  have hsl := hsp hv
  have hn2 : n2 ≤ 200 := by omega
  refine loopN l.length 11 [] () (fun _ => []) (fun _ => [(3, .box 24 (diskC d))]) (fun k _ => True) trivial (same_keys rfl) trivial ⟨.inl ⟨_, rfl, .inl ⟨rfl, rfl⟩⟩, trivial⟩ (fun _ => rfl) (fun _ => rfl) ?_
  rintro k _ hk hinv _ _ _
  refine brn_p (fun hlt => ?_) (fun hge => ?_)
  · have hlt : k < l.length := by simpa using hlt
    refine withGet hlt fun w hx hxm => ?_
    refine idxT (f := wrC) hx rfl rfl ?_
    refine callPD (c28 w) rfl fun _ => ?_
    refine brn_split (fun hq => ?_) (fun hq => ?_)
    · rw [qok w hxm] at hq; cases hq
    · refine Fit.in64 (by omega) (by omega) ?_
      exact ⟨(k + 1, ()), ⟨hlt, trivial⟩, ⟨nextI, trivial⟩, ⟨.inl ⟨_, rfl, .inl ⟨rfl, rfl⟩⟩, trivial⟩, nextM hlt⟩
  refine callP (c19 hv qok) rfl fun _ => ?_
  have c25b : CallsT P 25 [.agg (diskC A)] [] (Ret [] (.bool true)) := by rw [← qv]; exact c25a
  refine callP c25b rfl fun _ => ?_
  refine brn_split (fun h4 => ?_) (fun h4 => ?_)
  · have : ((A.map pgC).length : Int) = ((d.map pgC).length : Int) := by rw [hAm, hdm, ql]
    rw [decide_eq_true this] at h4
    cases h4
  refine callP (c29 hv) rfl fun _ => ?_
  refine callO [] [77] (c31 (by omega) (by omega) fun p hp => by rw [hd3 p hp]; omega) rfl rfl rfl rfl rfl fun _ _ => ?_
  refine callF [77] [] [] (c30 (by omega)) ⟨[], rfl, rfl, rfl, rfl, rfl, fun _ _ => ?_⟩
  refine callP c32 rfl fun _ => ?_
  refine Fit.to (m := ((F : Nat) : Int)) (by rw [wrap_i64 (by rw [← Int.natCast_mul]; omega) (by rw [← Int.natCast_mul]; omega), ← hF]; exact Int.natCast_mul .. |>.symm) ?_
  refine loopN d.length 17 [] () (fun _ => []) (fun _ => [(3, .box 24 (diskC d)), (12, .box 24 (diskC A))]) (fun k _ => True) trivial (same_keys rfl) trivial ⟨.inl ⟨_, rfl, .inl ⟨rfl, rfl⟩⟩, .inl ⟨_, rfl, .inl ⟨rfl, rfl⟩⟩, trivial⟩ (fun _ => rfl) (fun _ => rfl) ?_
  rintro p _ hp _ _ _ _
  refine brn_p (fun hlt => ?_) (fun hge => ?_)
  · have hlt : p < d.length := by omega
    have hltA : p < A.length := by omega
    refine withGet hlt fun y hy hym => ?_
    refine withGet hltA fun x hx hxm => ?_
    have hyl := hd3 y hym
    have hxl := hA3 x hxm
    have hbl := bcells_len y
    refine brn_p (fun h5 => ?_) (fun h5 => ?_)
    · refine callP c32 rfl fun _ => ?_
      refine Fit.to (m := ((F + n2 : Nat) : Int)) (by rw [wrap_i64 (by omega) (by omega)]; omega) ?_
      refine brn_p (fun h9 => ?_) (fun h9 => ?_)
      · omega
      refine callP c32 rfl fun _ => ?_
      refine Fit.to (m := ((F + n2 : Nat) : Int)) (by rw [wrap_i64 (by omega) (by omega)]; omega) ?_
      refine idxT (f := pgC) hx rfl rfl ?_
      refine BytesT.mk ⟨_, rfl, ?_⟩
      refine idxT (f := pgC) hy rfl rfl ?_
      refine BytesT.mk ⟨_, rfl, ?_⟩
      refine brn_split (fun h10 => ?_) (fun h10 => ?_)
      · have h10' : ¬ (((F + n2 : Nat) : Int) ≤ (p : Int)) := by simpa using h10
        have hxy : x = y := by
          have hAd := qL.trunc rfl p (by omega) (by omega)
          rw [hx, hy] at hAd
          exact Option.some.inj hAd
        refine brn_split (fun h11 => ?_) (fun h11 => ?_)
        · rw [streq_bytes, decide_eq_true hxy] at h11; cases h11
        refine loopN 256 21 [] () (fun _ => []) (fun _ => [(3, .box 24 (diskC d)), (12, .box 24 (diskC A))]) (fun k _ => True) trivial (same_keys rfl) trivial ⟨.inl ⟨_, rfl, .inl ⟨rfl, rfl⟩⟩, .inl ⟨_, rfl, .inl ⟨rfl, rfl⟩⟩, trivial⟩ (fun _ => rfl) (fun _ => rfl) ?_
        rintro k _ hk _ _ _ _
        refine brn_p (fun h6 => ?_) (fun h6 => ?_)
        · refine idxT (f := pgC) hy rfl rfl ?_
          refine brn_p (fun hk2 => ?_) (fun hk2 => ?_)
          · have hk2 : k < 256 := by omega
            refine Fit.to (m := ((p - F : Nat) : Int)) (by rw [wrap_i64 (by omega) (by omega)]; omega) ?_
            refine Fit.to (m := ((p - F - 1 : Nat) : Int)) (by rw [wrap_i64 (by omega) (by omega)]; omega) ?_
            refine Fit.to (m := (((p - F - 1) * 256 : Nat) : Int)) (by rw [wrap_i64 (by omega) (by omega)]; omega) ?_
            refine Fit.to (m := (((p - F - 1) * 256 + k : Nat) : Int)) (by rw [wrap_i64 (by omega) (by omega)]; omega) ?_
            refine brn_p (fun h7 => ?_) (fun h7 => ?_)
            · have hb := qL.bytes p k x y (by omega) (by omega) hk2 (by omega) hx hy
              have hky : k < y.length := by omega
              refine withGet hky fun z hz _ => ?_
              have hz2 : x[k]? = some z := by rw [hb]; exact hz
              refine idxT (f := pgC) hx rfl rfl ?_
              refine idxB hz2 ?_
              refine idxT (f := pgC) hy rfl rfl ?_
              refine idxB hz ?_
              refine brn_split (fun h8 => ?_) (fun h8 => ?_)
              · rw [decide_eq_true rfl] at h8; cases h8
              · refine Fit.in64 (by omega) (by omega) ?_
                exact ⟨(k + 1, ()), ⟨hk2, trivial⟩, ⟨nextI, trivial⟩, ⟨.inl ⟨_, rfl, .inl ⟨rfl, rfl⟩⟩, .inl ⟨_, rfl, .inl ⟨rfl, rfl⟩⟩, trivial⟩, nextM hk2⟩
            · refine Fit.in64 (by omega) (by omega) ?_
              exact ⟨(p + 1, ()), ⟨hlt, trivial⟩, ⟨nextI, trivial⟩, ⟨.inl ⟨_, rfl, .inl ⟨rfl, rfl⟩⟩, .inl ⟨_, rfl, .inl ⟨rfl, rfl⟩⟩, trivial⟩, nextM hlt⟩
          · refine Fit.in64 (by omega) (by omega) ?_
            exact ⟨(p + 1, ()), ⟨hlt, trivial⟩, ⟨nextI, trivial⟩, ⟨.inl ⟨_, rfl, .inl ⟨rfl, rfl⟩⟩, .inl ⟨_, rfl, .inl ⟨rfl, rfl⟩⟩, trivial⟩, nextM hlt⟩
        · omega
      · have h10' : (((F + n2 : Nat) : Int) ≤ (p : Int)) := by simpa using h10
        refine loopN 256 21 [] () (fun _ => []) (fun _ => [(3, .box 24 (diskC d)), (12, .box 24 (diskC A))]) (fun k _ => True) trivial (same_keys rfl) trivial ⟨.inl ⟨_, rfl, .inl ⟨rfl, rfl⟩⟩, .inl ⟨_, rfl, .inl ⟨rfl, rfl⟩⟩, trivial⟩ (fun _ => rfl) (fun _ => rfl) ?_
        rintro k _ hk _ _ _ _
        refine brn_p (fun h6 => ?_) (fun h6 => ?_)
        · omega
        · refine Fit.in64 (by omega) (by omega) ?_
          exact ⟨(p + 1, ()), ⟨hlt, trivial⟩, ⟨nextI, trivial⟩, ⟨.inl ⟨_, rfl, .inl ⟨rfl, rfl⟩⟩, .inl ⟨_, rfl, .inl ⟨rfl, rfl⟩⟩, trivial⟩, nextM hlt⟩
    · refine brn_p (fun h9 => ?_) (fun h9 => ?_)
      · refine idxT (f := pgC) hx rfl rfl ?_
        refine BytesT.mk ⟨_, rfl, ?_⟩
        refine idxT (f := pgC) hy rfl rfl ?_
        refine BytesT.mk ⟨_, rfl, ?_⟩
        refine loopN 256 21 [] () (fun _ => []) (fun _ => [(3, .box 24 (diskC d)), (12, .box 24 (diskC A))]) (fun k _ => True) trivial (same_keys rfl) trivial ⟨.inl ⟨_, rfl, .inl ⟨rfl, rfl⟩⟩, .inl ⟨_, rfl, .inl ⟨rfl, rfl⟩⟩, trivial⟩ (fun _ => rfl) (fun _ => rfl) ?_
        rintro k _ hk _ _ _ _
        refine Fit.in64 (by omega) (by omega) ?_
        exact ⟨(p + 1, ()), ⟨hlt, trivial⟩, ⟨nextI, trivial⟩, ⟨.inl ⟨_, rfl, .inl ⟨rfl, rfl⟩⟩, .inl ⟨_, rfl, .inl ⟨rfl, rfl⟩⟩, trivial⟩, nextM hlt⟩
      · refine callP c32 rfl fun _ => ?_
        refine Fit.to (m := ((F + n2 : Nat) : Int)) (by rw [wrap_i64 (by omega) (by omega)]; omega) ?_
        refine idxT (f := pgC) hx rfl rfl ?_
        refine BytesT.mk ⟨_, rfl, ?_⟩
        refine idxT (f := pgC) hy rfl rfl ?_
        refine BytesT.mk ⟨_, rfl, ?_⟩
        refine brn_split (fun h10 => ?_) (fun h10 => ?_)
        · have h10' : ¬ (((F + n2 : Nat) : Int) ≤ (p : Int)) := by simpa using h10
          have hxy : x = y := by
            have hAd := qL.trunc rfl p (by omega) (by omega)
            rw [hx, hy] at hAd
            exact Option.some.inj hAd
          refine brn_split (fun h11 => ?_) (fun h11 => ?_)
          · rw [streq_bytes, decide_eq_true hxy] at h11; cases h11
          refine loopN 256 21 [] () (fun _ => []) (fun _ => [(3, .box 24 (diskC d)), (12, .box 24 (diskC A))]) (fun k _ => True) trivial (same_keys rfl) trivial ⟨.inl ⟨_, rfl, .inl ⟨rfl, rfl⟩⟩, .inl ⟨_, rfl, .inl ⟨rfl, rfl⟩⟩, trivial⟩ (fun _ => rfl) (fun _ => rfl) ?_
          rintro k _ hk _ _ _ _
          refine Fit.in64 (by omega) (by omega) ?_
          exact ⟨(p + 1, ()), ⟨hlt, trivial⟩, ⟨nextI, trivial⟩, ⟨.inl ⟨_, rfl, .inl ⟨rfl, rfl⟩⟩, .inl ⟨_, rfl, .inl ⟨rfl, rfl⟩⟩, trivial⟩, nextM hlt⟩
        · have h10' : (((F + n2 : Nat) : Int) ≤ (p : Int)) := by simpa using h10
          omega
  · exact retP rfl rfl
theorem t6 (d rs : List (List UInt8)) (tr : Bool) : CallsT P 6 [.agg (diskC d), .sl (rs.map pgC), .bool tr] [] (Ret [] (.bool true)) := by
  cases tr
  · exact t6_false d rs
  · exact t6_true d rs
end Go.Fr.Try
