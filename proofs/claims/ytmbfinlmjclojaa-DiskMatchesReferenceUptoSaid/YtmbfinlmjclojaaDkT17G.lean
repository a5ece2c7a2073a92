/- Part of the proofs of the statements of this seat. -/
import Derived.Test.YtmbfinlmjclojaaDkP3G
/- Disk: the writes that cover, the reference. -/
set_option linter.unusedVariables false
set_option linter.unusedSimpArgs false
namespace Go.Fr.Try
open Go Go.RowKit Go.Proofs Go.Fr Go.Fr.T
theorem appDFe {F : Frz} {L : Loc} (kd n : Nat) (xs : List Value) (m : Nat) (news : List Value) {d : Option Nat} {e sz bytes : Nat} {s x : Value} {ad : Option Addr} {cx : Nat} {K : Loc → Value → Prop} (hx : x = .slice ad m cx)
    (h1 : L.get kd = some (.row s e sz n xs) ∨ (d = some kd ∧ L.get kd = none ∧ n = 0 ∧ xs = [] ∧ s = .slice none 0 0)) (h2 : news.length = m * sz) (h3 : FCells F ad 0 news ∨ (m = 0 ∧ news = [])) (h4 : ∀ u ∈ news, u.oneCell' = true) (h5 : n + m ≤ maxLen) (h6 : (n + m) * bytes ≤ 140737488355328)
    (kk : ∀ a c, (a = none → n + m = 0) → Real F (L.set kd (.row (.slice a (n + m) c) e sz (n + m) (xs ++ news))) → K (L.set kd (.row (.slice a (n + m) c) e sz (n + m) (xs ++ news))) (.slice a (n + m) c)) : AppDPt F L d e sz bytes s x K := by
  subst hx
  exact appDF kd n xs m news h1 h2 h3 h4 h5 h6 kk
set_option maxRecDepth 10000 in
theorem t42 (d : List (List UInt8)) (h : Nat) (at' : Nat) (b : List UInt8) (hv : validD d = true) (hh : h ≤ 1) (hab : at' + b.length ≤ (spaceD d h).length) (hat : at' < (spaceD d h).length) :
    CallsT Try.prog 42 [.agg (diskC d), IC h, IC at', .sl (bcells b)] [] (Ret [.row 52 2 ((coverW (h * (d.length / 2) + 1) (spaceD d h) at' b).map wrC)] (.rw 1000)) := by
  obtain ⟨v1, v2, v3⟩ := validD_iff.1 hv
  have h31 := t31 d h hh (by omega) v2 fun p hp => by rw [v3 p hp]; omega
  have h32 := t32 d
  have hsl := space_len hv hh
  have h1n := mul_le1 (n := d.length / 2) hh
  generalize spaceD d h = s at h31 hsl hab hat ⊢
  generalize hN : d.length / 2 = n2 at h32 hsl h1n ⊢
  have hmul : ((h : Nat) : Int) * ((n2 : Nat) : Int) = ((h * n2 : Nat) : Int) := (Int.natCast_mul ..).symm
  generalize h * n2 = F1n at h1n hmul ⊢
  have hol := overlay_len (b := b) (Nat.le_of_lt hat)
  have hsp := splice_overlay (s := s) (b := b) (k := at')
  have hcw : ∀ e q M, e = at' + min b.length (s.length - at') → q = at' / 256 → M = (e + 255) / 256 - q → coverW (F1n + 1) s at' b = (List.range M).map (coverE (F1n + 1) (overlay s at' b) q e) := by
    rintro e q M rfl rfl rfl; rfl
  obtain ⟨e, he⟩ : ∃ e, e = at' + min b.length (s.length - at') := ⟨_, rfl⟩
  obtain ⟨q, hq⟩ : ∃ q, q = at' / 256 := ⟨_, rfl⟩
  obtain ⟨M, hM⟩ : ∃ M, M = (e + 255) / 256 - q := ⟨_, rfl⟩
  have hcw := hcw e q M he hq hM
  have hea : e = at' + b.length := by omega
  generalize coverW (F1n + 1) s at' b = W at hcw ⊢
  subst hcw
  refine ⟨fun F Li vs hl0 ht hr => ?_⟩
  have hLi : Li = [] := List.length_eq_zero_iff.1 hl0
  subst hLi
  simp only [Rels] at hr
  obtain ⟨v0, _, rfl, hv0, vh, _, rfl, hvh, v1, _, rfl, hv1, v2, _, rfl, hv2, rfl⟩ := hr
  have hv0' := hv0
  simp only [Rel, diskC, Rels] at hv0'
  obtain ⟨cs, rfl, c0, _, rfl, hc0, rfl⟩ := hv0'
  simp only [Rel] at hv1 hvh
  obtain ⟨rfl, hwat⟩ := hv1
  obtain ⟨rfl, hwh⟩ := hvh
  obtain ⟨ab, cb, rfl, hcb, hmb, _⟩ := sl_bytes hv2
  clear hc0
  refine callsA2_facts (svs := [_, _, _, _]) rfl facts42 rfl rfl (vals_own [_, _, _, _]) ResA.mono' ?_
  intro g4
  refine callTBRow 15 h31 ⟨_, _, rfl, hv0, _, _, rfl, ⟨rfl, hwh⟩, rfl⟩ rfl (by omega) fun g15 c F1 hle1 hmx hc => ?_
  refine SlcPt.mk (by omega) (by omega) (by omega) ?_
  refine CopyPt.mk ⟨15, s.length - at', _, _, _, ⟨g15, 0, none⟩, c, c - at', at', b.length, ab, cb, bvals (b.take (s.length - at')), rfl, rfl, ?_, by omega, rfl, ?_, ?_, bvals_ones _, ?_⟩
  · exact slcVal_ne (by omega)
  · rw [bvals_len, List.length_take, Nat.mul_one, Nat.min_comm]
  · exact (src_bytes (hv2.mono hle1)).imp (fun h => bvals_take ▸ fcells_take h) (fun h => ⟨by omega, by rw [bvals_take, h.2]; simp⟩)
  refine FrzPt.mk ⟨_, _, _, _, _, rfl, fun F2 hle2 hr12 => ?_⟩
  have hs2 : Rel F2 [] (.sl (bcells (overlay s at' b))) (.slice (some ⟨g15, 0, none⟩) s.length c) := by
    have h := hr12
    rw [hsp] at h
    refine frow_rel h (RelRow_of_bvals _) ?_ hmx
    rw [bcells_len, hol]
  clear hr12
  generalize overlay s at' b = S at hs2 hol ⊢
  refine NonZ.mk (by omega) ?_
  refine Fit.to (m := ((q : Nat) : Int)) (by
    have h1 : (at' : Int).tdiv 256 = ((at' / 256 : Nat) : Int) := rfl
    rw [h1, wrap_i64 (by omega) (by omega)]; omega) ?_
  refine LoopPt2.mk ⟨Nat × (Option Addr × Nat) × List Value, (0, (none, 0), []), fun y F => y.1 ≤ M ∧ RelRow F 2 (((List.range y.1).map (coverE (F1n + 1) S q e)).map wrC) y.2.2, [11, 10], fun y => [.int .i64 ((q + y.1 : Nat) : Int), .slice y.2.1.1 y.1 y.2.1.2],
    fun y => [(4, .box g4 24 [c0]), (57, .row (.slice y.2.1.1 y.1 y.2.1.2) 52 2 y.1 y.2.2)], fun y => M - y.1,
    ⟨Nat.zero_le _, by simp [RelRow]⟩, ⟨rfl, rfl, trivial⟩, givesR_of ⟨.inl rfl, .inr ⟨rfl, 52, 2, rfl⟩, trivial⟩, fun _ => ⟨⟨_, rfl⟩, trivial⟩, ?_⟩
  intro y F3 jk hle3 hinv hre
  have hyM := hinv.1
  have hM2 : M ≤ 400 * 256 := by omega
  refine Fit.to (m := (((q + y.1) * 256 : Nat) : Int)) (by rw [wrap_i64 (by omega) (by omega)]; omega) ?_
  refine Fit.to (m := ((e : Nat) : Int)) (by rw [wrap_i64 (by omega) (by omega)]; omega) ?_
  refine brn_p (fun hlt => ?_) (fun hge => ?_)
  · have hlt : (q + y.1) * 256 < e := by omega
    have hlt2 : y.1 < M := by omega
    refine Fit.to (m := ((q + y.1 + 1 : Nat) : Int)) (by rw [wrap_i64 (by omega) (by omega)]; omega) ?_
    refine Fit.to (m := (((q + y.1) * 256 + 256 : Nat) : Int)) (by rw [wrap_i64 (by omega) (by omega)]; omega) ?_
    refine Fit.to (m := ((e : Nat) : Int)) (by rw [wrap_i64 (by omega) (by omega)]; omega) ?_
    refine Fit.to (m := (((q + y.1) * 256 : Nat) : Int)) (by rw [wrap_i64 (by omega) (by omega)]; omega) ?_
    have hmm : (if (e : Int) < (((q + y.1) * 256 + 256 : Nat) : Int) then (e : Int) else (((q + y.1) * 256 + 256 : Nat) : Int)).toNat = (q + y.1) * 256 + min 256 (e - (q + y.1) * 256) := by
      split <;> omega
    have hmm0 : ((((q + y.1) * 256 : Nat)) : Int).toNat = (q + y.1) * 256 := by omega
    have hmm1 : (((q + y.1) * 256 : Nat) : Int) ≤ (if (e : Int) < (((q + y.1) * 256 + 256 : Nat) : Int) then (e : Int) else (((q + y.1) * 256 + 256 : Nat) : Int)) := by split <;> omega
    have hmm2 : (if (e : Int) < (((q + y.1) * 256 + 256 : Nat) : Int) then (e : Int) else (((q + y.1) * 256 + 256 : Nat) : Int)) ≤ c := by split <;> omega
    refine SlcPt.mk (by omega) hmm1 hmm2 ?_
    have hex : ∃ (pb : List UInt8) (ac : Option Addr × Nat), slcVal (some ⟨g15, 0, none⟩) c ((((q + y.1) * 256 : Nat)) : Int).toNat (if (e : Int) < (((q + y.1) * 256 + 256 : Nat) : Int) then (e : Int) else (((q + y.1) * 256 + 256 : Nat) : Int)).toNat 1 = .slice ac.1 pb.length ac.2 ∧ (FCells F3 ac.1 0 (bvals pb) ∨ (pb.length = 0 ∧ bvals pb = [])) ∧ pb.length ≤ 256 ∧
        ∀ (F : Frz) (v : Value), Rel F [] (.sl (bcells pb)) v → RelRow F 2 [wrC (coverE (F1n + 1) S q e y.1)] [.int .i64 ((F1n + 1 + (q + y.1) : Nat) : Int), v] := by
      have hpart := rel_slc (L' := inp []) (hs2.mono hle3) (l := ((((q + y.1) * 256 : Nat)) : Int).toNat) (h := (if (e : Int) < (((q + y.1) * 256 + 256 : Nat) : Int) then (e : Int) else (((q + y.1) * 256 + 256 : Nat) : Int)).toNat) (by omega) (by omega)
      have hpe : (S.drop ((((q + y.1) * 256 : Nat)) : Int).toNat).take ((if (e : Int) < (((q + y.1) * 256 + 256 : Nat) : Int) then (e : Int) else (((q + y.1) * 256 + 256 : Nat) : Int)).toNat - ((((q + y.1) * 256 : Nat)) : Int).toNat) = (coverE (F1n + 1) S q e y.1).2 := by
        rw [hmm, hmm0, Nat.add_sub_cancel_left]; rfl
      rw [hpe] at hpart
      obtain ⟨a, cc, h1, _, _, h2⟩ := sl_bytes hpart
      refine ⟨_, (a, cc), h1, h2, ?_, fun F v hvv => wr_row (wf_nat (n := F1n + 1 + (q + y.1)) (by omega)) hvv⟩
      show (List.take _ _).length ≤ _
      rw [List.length_take]; omega
    refine exE hex fun pb hpb => exE hpb fun ac hpb => ?_
    have hpe := hpb.1
    have hsrc := hpb.2.1
    have hp256 := hpb.2.2.1
    have hwr := hpb.2.2.2
    refine callTIntD h32 ⟨_, _, rfl, hv0.mono (Frz.le_trans (Frz.le_trans hle1 hle2) hle3), rfl⟩ fun F4 hle4 hre4 => ?_
    refine Fit.to (m := ((F1n : Nat) : Int)) (by rw [hmul, wrap_i64 (by omega) (by omega)]) ?_
    refine Fit.to (m := ((F1n + 1 : Nat) : Int)) (by rw [wrap_i64 (by omega) (by omega)]; omega) ?_
    refine Fit.to (m := ((F1n + 1 + (q + y.1) : Nat) : Int)) (by rw [wrap_i64 (by omega) (by omega)]; omega) ?_
    intro g48 hre48
    refine appDFe 48 0 [] pb.length (bvals pb) hpe (.inl rfl) (by rw [bvals_len, Nat.mul_one]) (hsrc.imp (fun h => h.mono hle4) id) (bvals_ones _) (by simp only [maxLen]; omega) (by omega) (fun a48 c48 hn48 hre48' => ?_)
    intro g56 F5 hle5 hF56 hre5
    refine appDF 57 y.1 y.2.2 1 [.int .i64 ((F1n + 1 + (q + y.1) : Nat) : Int), .slice a48 (0 + pb.length) c48] (.inl rfl) rfl (.inl (lit_cells hF56)) ?_ (by simp only [maxLen]; omega) (by omega) (fun a c hn hre57 => ?_)
    · intro u hu
      cases hu with
      | head => rfl
      | tail _ h => cases h with | head => rfl | tail _ h => cases h
    refine FrzPt.mk ⟨_, _, _, _, _, rfl, fun F6 hle6 hr48 => ?_⟩
    have hp6 : Rel F6 [] (.sl (bcells pb)) (.slice a48 (0 + pb.length) c48) := by
      refine frow_rel hr48 ?_ (by rw [bcells_len, Nat.zero_add]) (by simp only [maxLen]; omega)
      exact RelRow_of_bvals pb
    refine Fit.to (m := ((q + (y.1 + 1) : Nat) : Int)) (by rw [wrap_i64 (by omega) (by omega)]; omega) ?_
    refine ⟨(y.1 + 1, (a, c), _), ⟨hlt2, ?_⟩, ⟨rfl, rfl, trivial⟩, givesR_of ⟨.inl rfl, .inl rfl, trivial⟩, by show M - (y.1 + 1) < M - y.1; omega⟩
    rw [range_snoc]
    exact (hinv.2.mono (Frz.le_trans hle4 (Frz.le_trans hle5 hle6))).append (hwr F6 _ hp6)
  · have hk : y.1 = M := by omega
    have hr : RelRow F3 2 (((List.range M).map (coverE (F1n + 1) S q e)).map wrC) y.2.2 := hk ▸ hinv.2
    exact retRowF 57 hre rfl hr (by simp [hk])
end Go.Fr.Try

/- Disk: the reference's Records and Append. -/
set_option linter.unusedVariables false
set_option linter.unusedSimpArgs false
namespace Go.Fr.Try
open Go Go.RowKit Go.Proofs Go.Fr Go.Fr.T
theorem callDW {P : Program} {L : TL} {f : Nat} {args args' : List C} {K : TL → C → Prop} {t sz : Nat} {els : List (List C)} {k : Nat} (h : CallsT P f args' [] (Ret [.row t sz els] (.rw 1000))) (ha : (args.map fun c => c.canA.ren (toIn [] 1000)) = args') (hk : L.get k = none) (kk : K (L.set k (.row t sz els)) (.rw k)) : CallDT P f args L (some k) K := by
  subst ha
  refine .own _ k h rfl hk fun v Mo hR _ _ => ?_
  obtain ⟨rfl, rfl⟩ := hR
  exact ⟨_, rfl, kk⟩
theorem t23 (d : List (List UInt8)) : CallsT P 23 [.agg (diskC d)] [] (Ret [] (.sl ((recsD d).map pgC))) := by
  have h25 := t25 d
  have hrec : recsD d = if validD d then (parse (spaceD d (presD d))).1 else [] := rfl
  have h29 := t29 d
  have hpr : presD d ≤ 1 := by unfold presD; split <;> omega
  have hlen : validD d = true → (spaceD d (presD d)).length ≤ 2 ^ 40 := fun hv => by
    rw [space_len hv hpr]
    have := (validD_iff.1 hv).2.1
    omega
  have h31 : validD d = true → _ := fun hv => (t31 d (presD d) hpr (by have := (validD_iff.1 hv).1; omega) (validD_iff.1 hv).2.1 fun p hp => by rw [(validD_iff.1 hv).2.2 p hp]; omega).give
  have h30 : validD d = true → _ := fun hv => t30 (spaceD d (presD d)) (hlen hv)
  generalize recsD d = R at hrec ⊢
  generalize validD d = bv at h25 hrec h29 h31 h30
  generalize presD d = h at h29 h31 h30 hrec
  generalize spaceD d h = s at h31 h30 hrec
  generalize parse s = PS at h30 hrec
  refine callsT_facts Try.func23 facts23 rfl fun hw _ => ?_
  refine callP h25 rfl fun _ => ?_
  refine brn_split (fun hq => ?_) (fun hq => ?_)
  · have : bv = false := by cases bv; rfl; cases hq
    have e : C.sl [] = C.sl (R.map pgC) := by rw [hrec, this]; rfl
    exact retP rfl e
  · have hv : bv = true := by cases bv; cases hq; rfl
    have e : C.sl (PS.1.map pgC) = C.sl (R.map pgC) := by rw [hrec, if_pos hv]
    refine callPD (h29 hv) rfl fun _ => ?_
    refine callPD (h31 hv) rfl fun _ => ?_
    refine callPD (h30 hv) rfl fun _ => ?_
    exact retP rfl e
theorem coverW_ended {f a : Nat} {s b : List UInt8} (h : a + b.length ≤ s.length) : coverW f s a (endedB b a s.length) = coverW f s a (b ++ [0]) := by
  unfold endedB
  split
  · rfl
  · have hl : s.length - a = b.length := by omega
    have hb : (b ++ [0]).length = b.length + 1 := by simp
    have e : overlay s a (b ++ [0]) = overlay s a b := by
      unfold overlay
      rw [hl, hb, List.take_left' rfl, List.take_length, Nat.min_self, Nat.min_eq_right (by omega)]
    unfold coverW
    rw [e, hl, hb, Nat.min_self, Nat.min_eq_right (by omega)]
theorem sz_wr {l : List Wri} : ∀ es ∈ l.map wrC, es.length = 2 := by
  intro es he
  obtain ⟨y, _, rfl⟩ := List.mem_map.1 he
  rfl
set_option maxRecDepth 10000 in
theorem t14 (d : List (List UInt8)) (r : List UInt8) : CallsT P 14 [.agg (diskC d), .sl (bcells r)] [] (Ret [] (.tup [.sl ((appendD d r).1.map wrC), IC (appendD d r).2])) := by
  have h25 := t25 d
  have hrn := bcells_len r
  by_cases hbad : validD d = false ∨ 65535 < r.length
  case pos =>
    have e : appendD d r = ([], 1) := by unfold appendD; rw [if_pos hbad]
    rw [e]
    generalize validD d = bv at h25 hbad
    refine callsT_facts Try.func14 facts14 rfl fun hw _ => ?_
    refine callP h25 rfl fun _ => ?_
    refine brn_split (fun hq => ?_) (fun hq => ?_)
    · exact retP rfl rfl
    refine brn_p (fun hq2 => ?_) (fun hq2 => ?_)
    · exact retP rfl rfl
    · rcases hbad with h | h
      · rw [h] at hq; cases hq
      · omega
  have hv : validD d = true := by
    cases h : validD d with
    | true => rfl
    | false => exact absurd (.inl h) hbad
  have hr : r.length ≤ 65535 := by omega
  obtain ⟨hd1, hd2, hpl⟩ := validD_iff.1 hv
  have hpr : presD d ≤ 1 := by unfold presD; split <;> omega
  have h29 := t29 d hv
  have h31 := t31 d (presD d) hpr (by omega) hd2 fun p hp => by rw [hpl p hp]; omega
  have hsl := space_len hv hpr
  have h30 := t30 (spaceD d (presD d)) (by rw [hsl]; omega)
  have h42 := fun a b h1 h2 => t42 d (presD d) a b hv hpr h1 h2
  have hfull : (spaceD d (presD d)).length < (parse (spaceD d (presD d))).2 + 3 + r.length → appendD d r = ([], 19) := fun h => by
    unfold appendD; rw [if_neg hbad, if_pos h]
  have hok : ¬ (spaceD d (presD d)).length < (parse (spaceD d (presD d))).2 + 3 + r.length → appendD d r = (coverW (presD d * (d.length / 2) + 1) (spaceD d (presD d)) (parse (spaceD d (presD d))).2 (frameB 0 r ++ [0]) ++ coverW (presD d * (d.length / 2) + 1) (spaceD d (presD d)) (parse (spaceD d (presD d))).2 [1], 0) := fun h => by
    unfold appendD; rw [if_neg hbad, if_neg h]
  have hpar := (parse_recs_le (s := spaceD d (presD d)) (Nat.le_refl _)).2
  rw [hv] at h25
  generalize appendD d r = AD at hfull hok ⊢
  generalize spaceD d (presD d) = s at h31 hsl h30 hfull hok h42 hpar
  generalize presD d * (d.length / 2) + 1 = f1 at h42 hok
  generalize presD d = hf at h29 h31 h42
  generalize parse s = PS at h30 hfull hok hpar
  obtain ⟨recs, at'⟩ := PS
  simp only at h30 hfull hok hpar
  have hs40 : s.length ≤ 400 * 256 := by rw [hsl]; omega
  have hsn := bcells_len s
  have h44 := t44 r 0 hr
  have hfn : (frameB 0 r).length = r.length + 3 := by simp [frameB]
  generalize frameB 0 r = fr at h44 hfn hok
  have h43 := t43 fr at' s.length (by omega) (by omega)
  have hew : at' + fr.length ≤ s.length → coverW f1 s at' (endedB fr at' s.length) = coverW f1 s at' (fr ++ [0]) := fun h => coverW_ended h
  have hel : at' + fr.length ≤ s.length → at' + (endedB fr at' s.length).length ≤ s.length := fun h => by
    unfold endedB; split
    · rw [List.length_append]; simp; omega
    · omega
  generalize endedB fr at' s.length = eb at h43 hew hel
  have hlen1 : at' ≤ s.length → (coverW f1 s at' eb).length ≤ s.length + 1 := fun h => cover_len (first := f1) (s := s) (k := at') (b := eb) h
  have hlen2 : at' ≤ s.length → (coverW f1 s at' [1]).length ≤ s.length + 1 := fun h => cover_len (first := f1) (s := s) (k := at') (b := [1]) h
  refine callsT_facts Try.func14 facts14 rfl fun hw _ => ?_
  refine callP h25 rfl fun _ => ?_
  refine brn_p (fun hq2 => ?_) (fun hq2 => ?_)
  · omega
  refine callP h29 rfl fun _ => ?_
  refine callO [] [23] h31 rfl rfl rfl rfl rfl fun _ _ => ?_
  refine callF [23] [] [] h30 ⟨[], rfl, rfl, rfl, rfl, rfl, fun _ _ => ?_⟩
  refine Fit.in64 (by omega) (by omega) ?_
  refine Fit.in64 (by omega) (by omega) ?_
  refine brn_p (fun hc => ?_) (fun hc => ?_)
  · have e := hfull (by omega)
    exact retP rfl (by rw [e]; rfl)
  have e := hok (by omega)
  refine callPD h44 rfl fun _ => ?_
  have e43 : [C.sl (bcells fr), IC at', .int .i64 ((bcells s).length : Nat)] = [C.sl (bcells fr), IC at', IC s.length] := by rw [hsn]
  refine callPD h43 e43 fun _ => ?_
  refine callDW (h42 at' eb (hel (by omega)) (by omega)) rfl rfl ?_
  refine callO [] [52] (h42 at' [1] (by simp; omega) (by omega)) rfl rfl rfl rfl rfl fun _ _ => ?_
  have hl1 := hlen1 (by omega)
  have hl2 := hlen2 (by omega)
  refine AppT.mk sz_wr ?_ ?_ ?_
  · show ((coverW f1 s at' eb).map wrC).length + ((coverW f1 s at' [1]).map wrC).length ≤ maxLen
    rw [List.length_map, List.length_map]; simp only [maxLen]; omega
  · show (((coverW f1 s at' eb).map wrC).length + ((coverW f1 s at' [1]).map wrC).length) * 32 ≤ _
    rw [List.length_map, List.length_map]; omega
  have eW : (coverW f1 s at' eb).map wrC ++ (coverW f1 s at' [1]).map wrC = AD.1.map wrC := by
    rw [e, hew (by omega), List.map_append]
  have e0 : ((0 : Nat) : Int) = (AD.2 : Int) := by rw [e]
  exact retF [46] [] ⟨_, [], rfl, rfl, rfl, rfl, congr (congrArg (fun a b => C.tup [C.sl a, IC b]) eW) e0⟩
end Go.Fr.Try

/- Disk: the reference's Truncate. -/
set_option linter.unusedVariables false
set_option linter.unusedSimpArgs false
namespace Go.Fr.Try
open Go Go.RowKit Go.Proofs Go.Fr Go.Fr.T
theorem byte_i {n m : Nat} (h : n = m) (hm : m < 256) : ((UInt8.ofNat n).toNat : Int) = (m : Int) := by
  rw [UInt8.toNat_ofNat', h]; omega
set_option maxRecDepth 10000 in
theorem t16 (d rs : List (List UInt8)) (hb : (framesB rs).length ≤ 2 ^ 38) : CallsT P 16 [.agg (diskC d), .sl (rs.map pgC)] [] (Ret [] (.tup [.sl ((truncD d rs).1.map wrC), IC (truncD d rs).2])) := by
  have h25 := t25 d
  by_cases hv : validD d = false
  case pos =>
    have e : truncD d rs = ([], 1) := by unfold truncD; rw [if_pos (.inl hv)]
    rw [e]
    rw [hv] at h25
    refine callsT_facts Try.func16 facts16 rfl fun hw _ => ?_
    refine callP h25 rfl fun _ => ?_
    exact retP rfl rfl
  have hv : validD d = true := by
    cases h : validD d with
    | true => rfl
    | false => exact absurd h hv
  rw [hv] at h25
  obtain ⟨hd1, hd2, hpl⟩ := validD_iff.1 hv
  have hpr : presD d ≤ 1 := by unfold presD; split <;> omega
  have hor : 1 - presD d ≤ 1 := by omega
  have hhb := half_le (n := d.length) hor
  have h29 := t29 d hv
  have h32 := t32 d
  have h33 := t33 d (presD d) (headP d (presD d)) hpr (headP_ok hv hpr).1 (headP_ok hv hpr).2
  have hhd := headP_ok hv hor
  have hsl := space_len hv hor
  have h42 := fun b h1 h2 => (t42 d (1 - presD d) 0 b hv hor h1 h2).give
  have hlong : longR rs = true → truncD d rs = ([], 1) := fun h => by unfold truncD; rw [if_pos (.inr h)]
  have hlr : ∀ r ∈ rs, 65535 < r.length → longR rs = true := fun r hr hl => List.any_eq_true.2 ⟨r, hr, by simpa using hl⟩
  have hnl : (∀ r ∈ rs, r.length ≤ 65535) → ¬ (validD d = false ∨ longR rs = true) := fun h hx => by
    rcases hx with hx | hx
    · rw [hv] at hx; cases hx
    · obtain ⟨r, h1, h2⟩ := List.any_eq_true.1 hx
      have := h r h1
      simp at h2; omega
  have hfull : (∀ r ∈ rs, r.length ≤ 65535) → (spaceD d (1 - presD d)).length < (framesB rs).length ∨ gen0 d = 4294967295 → truncD d rs = ([], 19) := fun h0 h => by
    unfold truncD; rw [if_neg (hnl h0), if_pos h]
  have hok : (∀ r ∈ rs, r.length ≤ 65535) → ¬ ((spaceD d (1 - presD d)).length < (framesB rs).length ∨ gen0 d = 4294967295) → truncD d rs = _ := fun h0 h => by
    unfold truncD; rw [if_neg (hnl h0), if_neg h]
  have hgr := genP_range (headP d (presD d))
  have hg0 : gen0 d = (genP (headP d (presD d))).toNat := rfl
  have hstep := fun k r (h : rs[k]? = some r) => framesB_snoc h
  have hle := framesB_le rs
  have hend : ∀ k, ¬ k < rs.length → framesB (rs.take k) = framesB rs := fun k h => by rw [List.take_of_length_le (by omega)]
  have h00 : framesB (rs.take 0) = [] := rfl
  have h44 := fun r (h : r.length ≤ 65535) => t44 r 1 h
  generalize truncD d rs = TD at hlong hfull hok ⊢
  generalize longR rs = lr at hlong hlr
  have hlong : ∀ r ∈ rs, 65535 < r.length → TD = ([], 1) := fun r h1 h2 => hlong (hlr r h1 h2)
  clear hlr hnl
  generalize gen0 d = g0 at hfull hok hg0
  generalize framesB rs = fb at hfull hok hend hle hb
  obtain ⟨V, hV⟩ : ∃ V : Nat → List UInt8, ∀ k, V k = framesB (rs.take k) := ⟨_, fun _ => rfl⟩
  simp only [← hV] at hstep hle hend h00
  clear hV
  generalize spaceD d (1 - presD d) = s at hsl hfull hok h42
  generalize headP d (1 - presD d) = hd at hhd hok
  obtain ⟨hhd, hhl⟩ := hhd
  generalize genP (headP d (presD d)) = gp at h33 hgr hg0
  have hf2 : (((1 - presD d : Nat) : Int)) * ((d.length / 2 : Nat) : Int) = (((1 - presD d) * (d.length / 2) : Nat) : Int) := (Int.natCast_mul ..).symm
  have hf2l : (1 - presD d) * (d.length / 2) ≤ d.length / 2 := mul_le1 hor
  generalize (1 - presD d) * (d.length / 2) = f2 at hhd h42 hok hhb hf2 hf2l
  generalize hoth : 1 - presD d = oth at h42 hf2
  generalize presD d = pr at h29 h33 hpr hoth
  have hs40 : s.length ≤ 400 * 256 := by rw [hsl]; omega
  have hs0 : 0 < s.length := by rw [hsl]; omega
  generalize hn2 : d.length / 2 = n2 at h32 hsl hf2 hf2l hhb
  have hn2a : 2 ≤ n2 := by omega
  have hn2b : n2 ≤ 200 := by omega
  have h43 := t43 fb 0 s.length (by omega) (by omega)
  have hew : fb.length ≤ s.length → coverW (f2 + 1) s 0 (endedB fb 0 s.length) = coverW (f2 + 1) s 0 (fb ++ [0]) := fun h => coverW_ended (by omega)
  have hel : fb.length ≤ s.length → (endedB fb 0 s.length).length ≤ s.length := fun h => by
    unfold endedB; split
    · rw [List.length_append]; simp; omega
    · omega
  generalize endedB fb 0 s.length = eb at h43 hew hel
  have hclen := cover_len (first := f2 + 1) (s := s) (k := 0) (b := eb) (by omega)
  have h42' := fun h => h42 eb h hs0
  have ht4 : ((bcells hd).drop (Int.toNat 0)).take (Int.toNat 4 - Int.toNat 0) = bcells (hd.take 4) := by
    show (bcells hd).take 4 = _
    simp [bcells, List.map_take]
  have hhn := bcells_len hd
  have hsn := bcells_len s
  have hfn := bcells_len fb
  have hCW : coverW (f2 + 1) s 0 eb = coverW (f2 + 1) s 0 eb := rfl
  generalize hCWg : coverW (f2 + 1) s 0 eb = CW at h42' hclen hew
  have hbyte : ∀ n : Nat, n < 4294967296 → ∃ b3 b2 b1 b0 : UInt8, wordB n 4 = [b3, b2, b1, b0] ∧ (b3.toNat : Int) = ((n / 16777216 : Nat) : Int) ∧ (b2.toNat : Int) = ((n / 65536 % 256 : Nat) : Int) ∧ (b1.toNat : Int) = ((n / 256 % 256 : Nat) : Int) ∧ (b0.toNat : Int) = ((n % 256 : Nat) : Int) := fun n hn =>
    ⟨_, _, _, _, rfl, byte_i (by show n / 16777216 % 256 = _; omega) (by omega), byte_i (by show n / 65536 % 256 = _; rfl) (by omega), byte_i (by show n / 256 % 256 = _; rfl) (by omega), byte_i (by show n / 1 % 256 = _; omega) (by omega)⟩
  refine callsT_facts Try.func16 facts16 rfl fun hw _ => ?_
  have hl : rs.length ≤ 9223372036854775807 := wf_lenM hw.2.1
  refine callP h25 rfl fun _ => ?_
  refine loopN rs.length 7 [6] ([] : List UInt8) (fun _ => [.rw 35]) (fun s => [(2, .box 24 (diskC d)), (35, .row 5 1 (bcells s))]) (fun k s => s = V k ∧ ∀ x ∈ rs.take k, x.length ≤ 65535) ⟨h00.symm, by simp⟩ (same_keys rfl) ⟨.inr (.inr (.inr (.inl ⟨rfl, 35, 5, 1, rfl, rfl, rfl⟩))), trivial⟩ ⟨.inl ⟨_, rfl, .inl ⟨rfl, rfl⟩⟩, .inr ⟨rfl, 5, 1, rfl⟩, trivial⟩ (fun _ => rfl) (fun _ => rfl) ?_
  rintro k z hk hinv _ _ _
  have hzn := bcells_len z
  have hzl := hle k
  rw [← hinv.1] at hzl
  refine brn_p (fun hlt => ?_) (fun hge => ?_)
  · have hlt : k < rs.length := by simpa using hlt
    refine withGet hlt fun r hx hxm => ?_
    have hrn2 := bcells_len r
    refine idxT (f := pgC) hx rfl rfl ?_
    refine brn_p (fun hlg => ?_) (fun hlg => ?_)
    · have e := hlong r hxm (by omega)
      exact retP rfl (by rw [e]; rfl)
    have hrl : r.length ≤ 65535 := by omega
    have hst := hstep k r hx
    have hs1 := hle (k + 1)
    have hrn := bcells_len (frameB 1 r)
    have hs2 : (V (k + 1)).length = (V k).length + (frameB 1 r).length := by rw [hst, List.length_append]
    rw [← hinv.1] at hs2
    refine idxT (f := pgC) hx rfl rfl ?_
    refine callP (h44 r hrl) rfl fun _ => ?_
    refine AppT.mk bcells_sz ?_ ?_ ?_
    · show (bcells z).length + (bcells (frameB 1 r)).length ≤ maxLen
      simp only [maxLen]; omega
    · show ((bcells z).length + (bcells (frameB 1 r)).length) * 1 ≤ _
      omega
    refine Fit.in64 (by omega) (by omega) ?_
    refine ⟨(k + 1, z ++ frameB 1 r), ⟨hlt, by rw [hst, hinv.1], take_all hinv.2 hx hrl⟩, ⟨nextI, same_keys rfl, trivial⟩, ⟨.inl ⟨_, rfl, .inl ⟨rfl, rfl⟩⟩, .inl ⟨_, rfl, .inl ⟨congrArg (TO.row 5 1) (bcells_app z (frameB 1 r)).symm, rfl⟩⟩, trivial⟩, nextM hlt⟩
  have hge : ¬ k < rs.length := by simpa using hge
  have hall : ∀ x ∈ rs, x.length ≤ 65535 := by have := hinv.2; rw [List.take_of_length_le (by omega)] at this; exact this
  have hfull := hfull hall
  have hok := hok hall
  have hzf : z = fb := by rw [hinv.1, hend k hge]
  have hzl2 : z.length = fb.length := by rw [hzf]
  refine callP h29 rfl fun _ => ?_
  refine callP h33 rfl fun _ => ?_
  have hmx : (if gp > 0 then gp else 0 : Int) = (g0 : Int) := by split <;> omega
  refine ⟨by rw [hmx]; exact wf_nat (by omega), ?_⟩
  refine callP h32 rfl fun _ => ?_
  refine Fit.to (m := ((n2 - 1 : Nat) : Int)) (by rw [wrap_i64 (by omega) (by omega)]; omega) ?_
  refine Fit.to (m := ((s.length : Nat) : Int)) (by rw [wrap_i64 (by omega) (by omega)]; omega) ?_
  refine brn_p (fun hf => ?_) (fun hf => ?_)
  · have e := hfull (.inl (by omega))
    exact retP rfl (by rw [e]; rfl)
  refine brn_p (fun hq2 => ?_) (fun hq2 => ?_)
  · have hq2 : (if gp > 0 then gp else 0 : Int) = 4294967295 := hq2
    rw [hmx] at hq2
    have e := hfull (.inr (by omega))
    exact retP rfl (by rw [e]; rfl)
  have hq2' : ¬ (if gp > 0 then gp else 0 : Int) = 4294967295 := hq2
  rw [hmx] at hq2'
  have e := hok (by omega)
  refine Fit.to (m := ((oth : Nat) : Int)) (by rw [wrap_i64 (by omega) (by omega)]; omega) ?_
  refine callP h32 rfl fun _ => ?_
  refine Fit.to (m := ((f2 : Nat) : Int)) (by rw [hf2, wrap_i64 (by omega) (by omega)]) ?_
  refine idxT (f := pgC) hhd rfl rfl ?_
  refine SlcT.mk (by omega) (by omega) (by omega) bcells_sz ?_
  have hx4 := congrArg List.length ht4
  have hx5 := bcells_len (hd.take 4)
  have hx6 : (hd.take 4).length = 4 := by rw [List.length_take]; omega
  have hsz4 : ∀ es ∈ ((bcells hd).drop (Int.toNat 0)).take (Int.toNat 4 - Int.toNat 0), es.length = 1 := by rw [ht4]; exact bcells_sz
  have hln4 : 0 + (((bcells hd).drop (Int.toNat 0)).take (Int.toNat 4 - Int.toNat 0)).length ≤ maxLen := by rw [hx4, hx5, hx6]; simp [maxLen]
  have hln5 : (0 + (((bcells hd).drop (Int.toNat 0)).take (Int.toNat 4 - Int.toNat 0)).length) * 1 ≤ 140737488355328 := by rw [hx4, hx5, hx6]; omega
  have hln6 : (([] : List (List C)) ++ ((bcells hd).drop (Int.toNat 0)).take (Int.toNat 4 - Int.toNat 0)).length + 1 ≤ maxLen := by rw [List.nil_append, hx4, hx5, hx6]; simp [maxLen]
  have hln7 : ((([] : List (List C)) ++ ((bcells hd).drop (Int.toNat 0)).take (Int.toNat 4 - Int.toNat 0)).length + 1) * 1 ≤ 140737488355328 := by rw [List.nil_append, hx4, hx5, hx6]; omega
  refine AppT.mk hsz4 hln4 hln5 ?_
  refine AppT.mk ?_ hln6 hln7 ?_
  · intro es he
    rcases List.mem_cons.1 he with rfl | he
    · rfl
    · cases he
  have e43 : [C.sl (bcells z), IC 0, .int .i64 ((s.length : Nat) : Int)] = [C.sl (bcells fb), IC 0, IC s.length] := by rw [hzf]
  refine callPD h43 e43 fun _ => ?_
  refine callPD (h42' (by have := hel (by omega); omega)) rfl fun _ => ?_
  refine AppT.mk sz_wr ?_ ?_ ?_
  · show 1 + (CW.map wrC).length ≤ maxLen
    rw [List.length_map]; simp only [maxLen]; omega
  · show (1 + (CW.map wrC).length) * 32 ≤ _
    rw [List.length_map]; omega
  refine Fit.to (m := ((g0 + 1 : Nat) : Int)) (by
    have hm : (match true with | true => if gp > 0 then gp else 0 | false => if gp < 0 then gp else (0 : Int)) = (g0 : Int) := hmx
    first
      | rw [hm, wrap_i64 (by omega) (by omega)]; omega
      | (show IntKind.i64.wrap ((if gp > 0 then gp else 0 : Int) + 1) = _; rw [hmx, wrap_i64 (by omega) (by omega)]; omega)) ?_
  have hg1 : g0 + 1 < 4294967296 := by omega
  refine exE (hbyte (g0 + 1) hg1) fun b3 hb3 => exE hb3 fun b2 hb2 => exE hb2 fun b1 hb1 => exE hb1 fun b0 hb0 => ?_
  have hw4 := hb0.1
  have q3 := hb0.2.1
  have q2 := hb0.2.2.1
  have q1 := hb0.2.2.2.1
  have q0 := hb0.2.2.2.2
  refine NonZ.mk (by omega) ?_
  refine Fit.to (m := (((g0 + 1) / 16777216 : Nat) : Int)) (by
    have : ((g0 + 1 : Nat) : Int).tdiv 16777216 = (((g0 + 1) / 16777216 : Nat) : Int) := rfl
    rw [this]; exact wrap_i64 (by omega) (by omega)) ?_
  refine Fit.to (m := (b3.toNat : Int)) (by rw [wrap_u8]; omega) ?_
  refine NonZ.mk (by omega) ?_
  refine Fit.to (m := (((g0 + 1) / 65536 : Nat) : Int)) (by
    have : ((g0 + 1 : Nat) : Int).tdiv 65536 = (((g0 + 1) / 65536 : Nat) : Int) := rfl
    rw [this]; exact wrap_i64 (by omega) (by omega)) ?_
  refine NonZ.mk (by omega) ?_
  refine Fit.to (m := (b2.toNat : Int)) (by
    have : (((g0 + 1) / 65536 : Nat) : Int).tmod 256 = (((g0 + 1) / 65536 % 256 : Nat) : Int) := rfl
    rw [this, wrap_u8]; omega) ?_
  refine NonZ.mk (by omega) ?_
  refine Fit.to (m := (((g0 + 1) / 256 : Nat) : Int)) (by
    have : ((g0 + 1 : Nat) : Int).tdiv 256 = (((g0 + 1) / 256 : Nat) : Int) := rfl
    rw [this]; exact wrap_i64 (by omega) (by omega)) ?_
  refine NonZ.mk (by omega) ?_
  refine Fit.to (m := (b1.toNat : Int)) (by
    have : (((g0 + 1) / 256 : Nat) : Int).tmod 256 = (((g0 + 1) / 256 % 256 : Nat) : Int) := rfl
    rw [this, wrap_u8]; omega) ?_
  refine NonZ.mk (by omega) ?_
  refine Fit.to (m := (b0.toNat : Int)) (by
    have : ((g0 + 1 : Nat) : Int).tmod 256 = (((g0 + 1) % 256 : Nat) : Int) := rfl
    rw [this, wrap_u8]; omega) ?_
  refine AppT.mk ?_ ?_ ?_ ?_
  · intro es he
    rcases List.mem_cons.1 he with rfl | he
    · rfl
    · cases he
  · show ((CW.map wrC).length + 1) + 1 ≤ maxLen
    rw [List.length_map]; simp only [maxLen]; omega
  · show (((CW.map wrC).length + 1) + 1) * 32 ≤ _
    rw [List.length_map]; omega
  have eW : ([IC f2, C.sl ([] ++ ((bcells hd).drop (Int.toNat 0)).take (Int.toNat 4 - Int.toNat 0) ++ [[C.int .u8 0]])] :: (CW.map wrC)) ++ [[IC f2, C.sl [[bcell b3], [bcell b2], [bcell b1], [bcell b0], [C.int .u8 1]]]] = TD.1.map wrC := by
    rw [e, ht4, hew (by omega), hw4]
    simp [wrC, bcells]
  have e0 : ((0 : Nat) : Int) = (TD.2 : Int) := by rw [e]
  exact retP rfl (congr (congrArg (fun a b => C.tup [C.sl a, IC b]) eW) e0)
end Go.Fr.Try
