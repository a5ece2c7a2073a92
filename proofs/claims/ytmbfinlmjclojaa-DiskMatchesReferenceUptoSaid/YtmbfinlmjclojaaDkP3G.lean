/- Part of the proofs of the statements of this seat. -/
import Derived.Test.YtmbfinlmjclojaaDkR5G
import Derived.Test.YtmbfinlmjclojaaFW3
/- Disk: Append. -/
set_option linter.unusedVariables false
set_option linter.unusedSimpArgs false
namespace Go.Fr.Try
open Go Go.RowKit Go.Proofs Go.Fr Go.Fr.T
/-- the writes of an append, and its error -/
def appendD (d : List (List UInt8)) (r : List UInt8) : List Wri × Nat :=
  if validD d = false ∨ 65535 < r.length then ([], 1)
  else if (spaceD d (presD d)).length < (parse (spaceD d (presD d))).2 + 3 + r.length then ([], 19)
  else (coverW (presD d * (d.length / 2) + 1) (spaceD d (presD d)) (parse (spaceD d (presD d))).2 (frameB 0 r ++ [0]) ++ coverW (presD d * (d.length / 2) + 1) (spaceD d (presD d)) (parse (spaceD d (presD d))).2 [1], 0)
theorem tupWr {F : Frz} {L : Loc} {W : List Wri} {v : Value} {e : Nat} (h : Rel F [] (.sl (W.map wrC)) v) (he : e ≤ 100) : Rel F L (.tup [.sl (W.map wrC), IC e]) (.tuple #[v, .int .i64 e]) := by
  have h1 : Rel F L (.sl (W.map wrC)) v := h.lift
  simp only [Rel, Rels] at h1 ⊢
  exact ⟨[v, .int .i64 e], rfl, _, _, rfl, h1, _, _, rfl, ⟨rfl, wf_nat (by omega)⟩, rfl⟩
theorem sl_flat {F : Frz} {L : Loc} {els : List (List C)} {a : Option Addr} {n c sz : Nat} (h : Rel F L (.sl els) (.slice a n c)) (hs : ∀ es ∈ els, es.length = sz) : n = els.length ∧ ∃ xs, xs.length = n * sz ∧ (FCells F a 0 xs ∨ (n = 0 ∧ xs = [])) ∧ RelRow F sz els xs := by
  simp only [Rel] at h
  obtain ⟨a', c', h1, h2, h3, h4, sz', h5⟩ := h
  injection h1 with e1 e2 e3
  subst e1 e2 e3
  obtain ⟨xs, f1, f2, f3⟩ := RelS_flat (sz := sz) h5 hs
  exact ⟨rfl, xs, f1, f2, f3⟩
theorem rel_lit {F : Frz} {L : Loc} {els : List (List C)} {g sz n : Nat} {cs : List Value} {t : TypeId} (hg : F g = some (.cells cs.toArray t (0, 0))) (h : RelRow F sz els cs) (hn : n = els.length) (hm : n ≤ maxLen) : Rel F L (.sl els) (.slice (some ⟨g, 0, none⟩) n n) :=
  frow_rel (.inr ⟨_, _, rfl, lit_cells hg, Nat.le_refl _⟩) h hn hm
theorem pages2 {F : Frz} {p q : List UInt8} {v u : Value} (h1 : Rel F [] (.sl (bcells p)) v) (h2 : Rel F [] (.sl (bcells q)) u) : RelRow F 1 ([p, q].map pgC) [v, u] := by
  simp only [List.map_cons, List.map_nil, RelRow, pgC]
  exact ⟨[v], [u], rfl, rfl, rfl, by simp only [Rels]; exact ⟨_, _, rfl, h1, rfl⟩, [u], [], rfl, rfl, rfl, by simp only [Rels]; exact ⟨_, _, rfl, h2, rfl⟩, rfl⟩
theorem callTSl {P : Program} {f : Nat} {vs : List Value} {F : Frz} {L : Loc} {K : Frz → Loc → Value → Prop} {args : List C} {els : List (List C)} (h : CallsT P f args [] (Ret [] (.sl els))) (hr : Rels F (inp []) args vs)
    (kk : ∀ a c F', F.le F' → Rel F' [] (.sl els) (.slice a els.length c) → K F' L (.slice a els.length c)) : CallPt P f vs F L K :=
  callTVal h hr fun v F' hle hR => by
    obtain ⟨a, c, rfl, _⟩ := sl_form hR
    exact kk a c F' hle hR
theorem cover_len {first k : Nat} {s b : List UInt8} (hk : k ≤ s.length) : (coverW first s k b).length ≤ s.length + 1 := by
  simp only [coverW, List.length_map, List.length_range]
  omega
set_option maxRecDepth 10000 in
theorem n13 (d : List (List UInt8)) (r : List UInt8) (hb : validD d = false ∨ 65535 < r.length) : CallsT Try.prog 13 [.agg (diskC d), .sl (bcells r)] [] (Ret [] (.tup [.sl (([] : List Wri).map wrC), IC (1 : Nat)])) := by
  have h35 := t35 d
  generalize validD d = bv at h35 hb
  refine ⟨fun F Li vs hl0 ht hr => ?_⟩
  have hLi : Li = [] := List.length_eq_zero_iff.1 hl0
  subst hLi
  simp only [Rels] at hr
  obtain ⟨v0, _, rfl, hv0, v1, _, rfl, hv1, rfl⟩ := hr
  have hv0' := hv0
  simp only [Rel, diskC, Rels] at hv0'
  obtain ⟨cs, rfl, c0, _, rfl, hc0, rfl⟩ := hv0'
  clear hc0
  obtain ⟨ar, cr, rfl, hcr, hmr, _⟩ := sl_bytes hv1
  refine callsA3_facts (svs := [_, _]) rfl facts13 rfl rfl (vals_own [_, _]) (fun _ _ _ _ h => ResA.monoC h) ?_
  intro g2
  refine callTBool h35 ⟨_, _, rfl, hv0, rfl⟩ fun F1 hle1 => ?_
  refine brn_split (fun hbv => ?_) (fun hbv => ?_)
  · exact ⟨[], [], rfl, .nil, resVal' rfl (tupWr nil_sl (by omega))⟩
  refine brn_p (fun hlen => ?_) (fun hlen => ?_)
  · exact ⟨[], [], rfl, .nil, resVal' rfl (tupWr nil_sl (by omega))⟩
  · rcases hb with hb | hb
    · rw [hb] at hbv; cases hbv
    · exact absurd hlen (by omega)
end Go.Fr.Try

/- Disk: Append, walked. -/
set_option linter.unusedVariables false
set_option linter.unusedSimpArgs false
namespace Go.Fr.Try
open Go Go.RowKit Go.Proofs Go.Fr Go.Fr.T
theorem fold_snoc {l : List (Nat × Nat)} {i : Nat × Nat} : (l ++ [i]).foldl (fun _ i => i.2) 0 = i.2 := by simp
set_option maxRecDepth 10000 in
theorem v13 (d : List (List UInt8)) (r : List UInt8) (hv : validD d = true) (hr : r.length ≤ 65535) : CallsT Try.prog 13 [.agg (diskC d), .sl (bcells r)] [] (Ret [] (.tup [.sl ((appendD d r).1.map wrC), IC (appendD d r).2])) := by
  have h35 := t35 d
  rw [hv] at h35
  obtain ⟨hd1, hd2, hpl⟩ := validD_iff.1 hv
  have h36 := t36 d hv
  have hpr : presD d ≤ 1 := by unfold presD; split <;> omega
  have hhb := half_le (n := d.length) hpr
  have hp6 : ∀ p ∈ d, p.length ≤ 65536 := fun p hp => by rw [hpl p hp]; omega
  have h37 := (t37 d (presD d * (d.length / 2)) (d.length / 2) hhb (by omega) hd2 hp6).give
  have hsl := space_len hv hpr
  have hsp : ((d.drop (presD d * (d.length / 2) + 1)).take (d.length / 2 - 1)).flatten = spaceD d (presD d) := rfl
  rw [hsp] at h37
  have h39 : ∀ (k : Nat) (b : List UInt8), k < (spaceD d (presD d)).length → b.length ≤ 2 ^ 40 → _ := fun k b h1 h2 => t39 d (presD d * (d.length / 2)) (d.length / 2) k b hhb (by omega) hd2 hp6 h1 h2
  rw [hsp] at h39
  have hfull : (spaceD d (presD d)).length < (parse (spaceD d (presD d))).2 + 3 + r.length → appendD d r = ([], 19) := fun h => by
    unfold appendD; rw [if_neg (by rw [hv]; simp; omega), if_pos h]
  have hok : ¬ (spaceD d (presD d)).length < (parse (spaceD d (presD d))).2 + 3 + r.length → appendD d r = (coverW (presD d * (d.length / 2) + 1) (spaceD d (presD d)) (parse (spaceD d (presD d))).2 (frameB 0 r ++ [0]) ++ coverW (presD d * (d.length / 2) + 1) (spaceD d (presD d)) (parse (spaceD d (presD d))).2 [1], 0) := fun h => by
    unfold appendD; rw [if_neg (by rw [hv]; simp; omega), if_neg h]
  have hit := (items_parse (s := spaceD d (presD d)) (n := (spaceD d (presD d)).length) (k := 0) (by omega) (by omega)).2.1
  rw [List.drop_zero, Nat.zero_add] at hit
  have hpar := (parse_recs_le (s := spaceD d (presD d)) (Nat.le_refl _)).2
  generalize appendD d r = AD at hfull hok ⊢
  generalize spaceD d (presD d) = s at h37 hsl hit hfull hok h39 hpar
  generalize presD d * (d.length / 2) = f1 at h36 h37 h39 hok
  generalize (1 - presD d) * (d.length / 2) = f2 at h36
  generalize (parse s).2 = at' at hit hfull hok hpar
  have hs40 : s.length ≤ 400 * 256 := by rw [hsl]; omega
  have hs0 : 0 < s.length := by rw [hsl]; omega
  generalize hn2 : d.length / 2 = n2 at h36 h37 h39
  have h41 := (t41 r 0 hr).give
  have hfl : [frameB 0 r, [0]].flatten = frameB 0 r ++ [0] := by simp
  have hfn : (frameB 0 r).length = r.length + 3 := by simp [frameB]
  have h40 := (t40 [frameB 0 r, [0]] (by simp) (by rw [hfl, List.length_append, hfn]; simp; omega)).give
  rw [hfl] at h40
  have hbl : (frameB 0 r ++ [0]).length = r.length + 4 := by rw [List.length_append, hfn]; simp
  generalize frameB 0 r = fr at h41 h40 hfn hbl hok
  refine ⟨fun F Li vs hl0 ht hr0 => ?_⟩
  have hLi : Li = [] := List.length_eq_zero_iff.1 hl0
  subst hLi
  simp only [Rels] at hr0
  obtain ⟨v0, _, rfl, hv0, v1, _, rfl, hv1, rfl⟩ := hr0
  have hv0' := hv0
  simp only [Rel, diskC, Rels] at hv0'
  obtain ⟨cs, rfl, c0, _, rfl, hc0, rfl⟩ := hv0'
  clear hc0
  obtain ⟨ar, cr, rfl, hcr, hmr, _⟩ := sl_bytes hv1
  refine callsA3_facts (svs := [_, _]) rfl facts13 rfl rfl (vals_own [_, _]) (fun _ _ _ _ h => ResA.monoC h) ?_
  intro g2
  refine callTBool h35 ⟨_, _, rfl, hv0, rfl⟩ fun F1 hle1 => ?_
  refine brn_p (fun hlen => ?_) (fun hlen => ?_)
  · exact absurd hlen (by omega)
  refine callHalves h36 ⟨_, _, rfl, hv0.mono hle1, rfl⟩ fun a1 cc1 a2 cc2 F2 hle2 hh1 hh2 => ?_
  intro g6 g7
  refine callBytes h37 ⟨_, _, rfl, hh1.lift, rfl⟩ hs0 fun b off c F3 hle3 hs3 => ?_
  intro g9
  refine callFrames fun gb F4 hle4 hgb => ?_
  have hs4 := hs3.mono hle4
  have e04 : F.le F4 := Frz.le_trans (Frz.le_trans (Frz.le_trans hle1 hle2) hle3) hle4
  have e24 : F2.le F4 := Frz.le_trans hle3 hle4
  refine ⟨rfl, rfFrames (N := _) gb b off c s (by omega) rfl hgb hs4 (σ := Nat) 0 (fun pre x F => x = pre.foldl (fun _ i => i.2) 0)
    (fun x => [(2, .box g2 24 [c0]), (6, .box g6 61 [.slice a1 d.length cc1, .int .i64 f1, .int .i64 n2]), (7, .box g7 61 [.slice a2 d.length cc2, .int .i64 f2, .int .i64 n2]), (9, .box g9 3 [.int .i64 (x : Nat)])])
    rfl (givesR_of ⟨.inl rfl, .inl rfl, .inl rfl, .inl rfl, trivial⟩) (fun _ => ⟨⟨_, rfl⟩, ⟨_, rfl⟩, ⟨_, rfl⟩, ⟨_, rfl⟩, trivial⟩) (fun pre x Fa Fb hz h => h) ?_ ?_⟩
  · intro pre i x F5 hi1 hi2 hle5 hM hinv hre
    exact ⟨i.2, fold_snoc.symm, givesR_of ⟨.inl rfl, .inl rfl, .inl rfl, .inl rfl, trivial⟩⟩
  · intro x F5 hle5 hinv hre
    rw [hit] at hinv
    rw [← hinv] at hfull hok hpar
    refine Fit.in64 (by omega) (by omega) ?_
    refine Fit.in64 (by omega) (by omega) ?_
    refine brn_p (fun hf => ?_) (fun hf => ?_)
    · have e := hfull (by omega)
      exact ⟨[], [], rfl, .nil, resVal' rfl (by rw [e]; exact tupWr nil_sl (by omega))⟩
    have e := hok (by omega)
    have e05 := Frz.le_trans e04 hle5
    refine callTBytesD h41 ⟨_, _, rfl, (hv1.mono e05), _, _, rfl, ⟨rfl, rfl⟩, rfl⟩ fun a43 c43 F6 hle6 hr6 hre6 => ?_
    intro g44 F7 hle7 hF44 hre7 g45 F8 hle8 hF45 hre8
    have hz : Rel F8 [] (.sl (bcells [0])) (.slice (some ⟨g44, 0, none⟩) 1 1) := bytes_sl (p := [0]) (lit_cells (hle8 _ _ hF44)) (by simp) (by simp [maxLen])
    have hl45 : Rel F8 (inp []) (.sl ([fr, [0]].map pgC)) (.slice (some ⟨g45, 0, none⟩) 2 2) := rel_lit hF45 (pages2 ((hr6.mono hle7).mono hle8) hz) rfl (by simp [maxLen])
    refine callTBytesD h40 ⟨_, _, rfl, hl45, rfl⟩ fun a46 c46 F9 hle9 hr9 hre9 => ?_
    have e29 : F2.le F9 := Frz.le_trans (Frz.le_trans (Frz.le_trans (Frz.le_trans (Frz.le_trans e24 hle5) hle6) hle7) hle8) hle9
    have hx' : x < s.length := by omega
    refine callTRowD 47 (h39 x (fr ++ [0]) hx' (by omega)) ⟨_, _, rfl, (hh1.mono e29).lift, _, _, rfl, ⟨rfl, wf_nat (by omega)⟩, _, _, rfl, hr9.lift, rfl⟩ rfl fun a47 c47 F10 xs hle10 hxs hn47 hm47 hc47 hre10 => ?_
    intro g51 F11 hle11 hF51
    have ho : Rel F11 (inp []) (.sl (bcells [1])) (.slice (some ⟨g51, 0, none⟩) 1 1) := bytes_sl (p := [1]) (lit_cells hF51) (by simp) (by simp [maxLen])
    refine callTSl (h39 x [1] hx' (by simp)).give ⟨_, _, rfl, (hh1.mono (Frz.le_trans (Frz.le_trans e29 hle10) hle11)).lift, _, _, rfl, ⟨rfl, wf_nat (by omega)⟩, _, _, rfl, ho, rfl⟩ fun a52 c52 F12 hle12 hr12 => ?_
    have hfl2 := sl_flat (sz := 2) hr12 (fun es he => by obtain ⟨y, _, rfl⟩ := List.mem_map.1 he; rfl)
    refine exE hfl2.2 fun ys hys => ?_
    have hlen1 := cover_len (first := f1 + 1) (s := s) (k := x) (b := fr ++ [0]) (by omega)
    have hlen2 := cover_len (first := f1 + 1) (s := s) (k := x) (b := [1]) (by omega)
    refine appF 47 _ xs _ ys (.inl rfl) hys.1 hys.2.1 hys.2.2.ones ?_ ?_ (fun a53 c53 hn53 => ?_)
    · rw [List.length_map, List.length_map]; simp only [maxLen]; omega
    · rw [List.length_map, List.length_map]; omega
    refine FrzPt.mk ⟨_, _, _, _, _, rfl, fun F13 hle13 hr47 => ?_⟩
    refine ⟨[], [], rfl, .nil, resVal' rfl ?_⟩
    have hrel := (hxs.mono (Frz.le_trans hle11 hle12)).append hys.2.2
    have hf := frow_rel (L := []) hr47 (hrel.mono hle13) (by rw [List.length_append]) (by rw [List.length_map, List.length_map]; simp only [maxLen]; omega)
    rw [e]
    refine tupWr ?_ (by omega)
    rw [List.map_append]
    exact hf
theorem t13 (d : List (List UInt8)) (r : List UInt8) : CallsT Try.prog 13 [.agg (diskC d), .sl (bcells r)] [] (Ret [] (.tup [.sl ((appendD d r).1.map wrC), IC (appendD d r).2])) := by
  by_cases h : validD d = false ∨ 65535 < r.length
  · have e : appendD d r = ([], 1) := by unfold appendD; rw [if_pos h]
    rw [e]
    exact n13 d r h
  · have hv : validD d = true := by
      cases hv : validD d with
      | true => rfl
      | false => exact absurd (.inl hv) h
    exact v13 d r hv (Nat.le_of_not_lt fun h' => h (.inr h'))
end Go.Fr.Try

/- Disk: Truncate. -/
set_option linter.unusedVariables false
set_option linter.unusedSimpArgs false
namespace Go.Fr.Try
open Go Go.RowKit Go.Proofs Go.Fr Go.Fr.T
def framesB (rs : List (List UInt8)) : List UInt8 := (rs.map (frameB 1)).flatten
def longR (rs : List (List UInt8)) : Bool := rs.any fun r => decide (65535 < r.length)
/-- the generation that counts -/
def gen0 (d : List (List UInt8)) : Nat := (genP (headP d (presD d))).toNat
/-- the writes of a truncation, and its error -/
def truncD (d rs : List (List UInt8)) : List Wri × Nat :=
  if validD d = false ∨ longR rs = true then ([], 1)
  else if (spaceD d (1 - presD d)).length < (framesB rs).length ∨ gen0 d = 4294967295 then ([], 19)
  else ([((((1 - presD d) * (d.length / 2) : Nat) : Int), (headP d (1 - presD d)).take 4 ++ [0])] ++ coverW ((1 - presD d) * (d.length / 2) + 1) (spaceD d (1 - presD d)) 0 (framesB rs ++ [0]) ++ [((((1 - presD d) * (d.length / 2) : Nat) : Int), wordB (gen0 d + 1) 4 ++ [1])], 0)
theorem genP_range (p : List UInt8) : -1 ≤ genP p ∧ genP p < 4294967296 := by
  unfold genP
  split
  · have := valB_from (p.take 4) 0
    have h2 : 256 ^ (p.take 4).length ≤ 256 ^ 4 := Nat.pow_le_pow_right (by omega) (by rw [List.length_take]; omega)
    have h3 : (256 : Nat) ^ 4 = 4294967296 := by decide
    unfold valB
    omega
  · omega
theorem genP_wf {n : Int} (h1 : -1 ≤ n) (h2 : n < 4294967296) : (Lit.int .i64 n).wf = true := by
  simp only [Lit.wf, Bool.and_eq_true, decide_eq_true_eq]
  exact ⟨by show (-9223372036854775808 : Int) ≤ _; omega, by show _ ≤ (9223372036854775807 : Int); omega⟩
theorem framesB_snoc {rs : List (List UInt8)} {k : Nat} {r : List UInt8} (h : rs[k]? = some r) : framesB (rs.take (k + 1)) = framesB (rs.take k) ++ frameB 1 r := by
  rw [List.take_add_one, h]
  simp [framesB]
theorem framesB_le (rs : List (List UInt8)) (k : Nat) : (framesB (rs.take k)).length ≤ (framesB rs).length := by
  conv => rhs; rw [← List.take_append_drop k rs]
  simp only [framesB, List.map_append, List.flatten_append, List.length_append]
  omega
set_option maxRecDepth 10000 in
theorem t15 (d rs : List (List UInt8)) (hb : (framesB rs).length ≤ 2 ^ 38) : CallsT P 15 [.agg (diskC d), .sl (rs.map pgC)] [] (Ret [] (.tup [.sl ((truncD d rs).1.map wrC), IC (truncD d rs).2])) := by
  have h35 := t35 d
  have h46 := t46 rs 45 (fun r => decide (65535 < r.length)) (fun r _ => t45 r)
  have hlong : (rs.any fun r => decide (65535 < r.length)) = longR rs := rfl
  rw [hlong] at h46
  by_cases hbad : validD d = false ∨ longR rs = true
  case pos =>
    have e : truncD d rs = ([], 1) := by unfold truncD; rw [if_pos hbad]
    rw [e]
    generalize validD d = bv at h35 hbad
    generalize longR rs = bl at h46 hbad
    refine callsT_facts Try.func15 facts15 rfl fun hw _ => ?_
    refine callP h35 rfl fun _ => ?_
    refine brn_split (fun hbv => ?_) (fun hbv => ?_)
    · exact retP rfl rfl
    refine callP h46 rfl fun _ => ?_
    refine brn_split (fun hbl => ?_) (fun hbl => ?_)
    · exact retP rfl rfl
    · rcases hbad with h | h
      · rw [h] at hbv; cases hbv
      · rw [h] at hbl; cases hbl
  have hv : validD d = true := by
    cases h : validD d with
    | true => rfl
    | false => exact absurd (.inl h) hbad
  have hlr : longR rs = false := by
    cases h : longR rs with
    | false => rfl
    | true => exact absurd (.inr h) hbad
  rw [hv] at h35
  rw [hlr] at h46
  have hrl : ∀ r ∈ rs, r.length ≤ 65535 := by
    intro r hr
    have := List.any_eq_false.1 hlr r hr
    simpa using this
  obtain ⟨hd1, hd2, hpl⟩ := validD_iff.1 hv
  have h36 := t36 d hv
  have hpr : presD d ≤ 1 := by unfold presD; split <;> omega
  have hor : 1 - presD d ≤ 1 := by omega
  have hhb := half_le (n := d.length) hor
  have hp6 : ∀ p ∈ d, p.length ≤ 65536 := fun p hp => by rw [hpl p hp]; omega
  have h37 := (t37 d ((1 - presD d) * (d.length / 2)) (d.length / 2) hhb (by omega) hd2 hp6).give
  have hsl := space_len hv hor
  have hsp : ((d.drop ((1 - presD d) * (d.length / 2) + 1)).take (d.length / 2 - 1)).flatten = spaceD d (1 - presD d) := rfl
  rw [hsp] at h37
  have h39 : ∀ (k : Nat) (b : List UInt8), k < (spaceD d (1 - presD d)).length → b.length ≤ 2 ^ 40 → _ := fun k b h1 h2 => t39 d ((1 - presD d) * (d.length / 2)) (d.length / 2) k b hhb (by omega) hd2 hp6 h1 h2
  rw [hsp] at h39
  have h47 := t47 d (presD d * (d.length / 2)) (d.length / 2) (headP d (presD d)) (headP_ok hv hpr).1 (headP_ok hv hpr).2
  have h49 := t49 d ((1 - presD d) * (d.length / 2)) (d.length / 2) (headP d (1 - presD d)) (headP_ok hv hor).1
  have hhl := (headP_ok hv hor).2
  have hfull : (spaceD d (1 - presD d)).length < (framesB rs).length ∨ gen0 d = 4294967295 → truncD d rs = ([], 19) := fun h => by
    unfold truncD; rw [if_neg hbad, if_pos h]
  have hok : ¬ ((spaceD d (1 - presD d)).length < (framesB rs).length ∨ gen0 d = 4294967295) → truncD d rs = _ := fun h => by
    unfold truncD; rw [if_neg hbad, if_neg h]
  have hgr := genP_range (headP d (presD d))
  have hg0 : gen0 d = (genP (headP d (presD d))).toNat := rfl
  have hstep := fun k r (h : rs[k]? = some r) => framesB_snoc h
  have hle := framesB_le rs
  have hend : ∀ k, ¬ k < rs.length → framesB (rs.take k) = framesB rs := fun k h => by rw [List.take_of_length_le (by omega)]
  have h00 : framesB (rs.take 0) = [] := rfl
  have h41 := fun r (h : r.length ≤ 65535) => (t41 r 1 h).give
  generalize truncD d rs = TD at hfull hok ⊢
  generalize gen0 d = g0 at hfull hok hg0
  generalize framesB rs = fb at hfull hok hend hle hb
  obtain ⟨V, hV⟩ : ∃ V : Nat → List UInt8, ∀ k, V k = framesB (rs.take k) := ⟨_, fun _ => rfl⟩
  simp only [← hV] at hstep hle hend h00
  clear hV
  generalize spaceD d (1 - presD d) = s at h37 hsl hfull hok h39
  generalize headP d (1 - presD d) = hd at h49 hhl hok
  generalize genP (headP d (presD d)) = gp at h47 hgr hg0
  generalize (1 - presD d) * (d.length / 2) = f2 at h36 h37 h39 hok h49 hhb
  generalize presD d * (d.length / 2) = f1 at h36 h47
  have hs40 : s.length ≤ 400 * 256 := by rw [hsl]; omega
  have hs0 : 0 < s.length := by rw [hsl]; omega
  generalize hn2 : d.length / 2 = n2 at h36 h37 h39 h47 h49
  have h48a := t48 d f2 n2 (hd.take 4) 0 (by rw [List.length_take]; omega)
  have h48b := t48 d f2 n2 (wordB (g0 + 1) 4) 1 (by simp [wordB])
  have h50 := t50 (g0 + 1) 4 (by omega) (by omega)
  have hfl : [fb, [0]].flatten = fb ++ [0] := by simp
  have h40 := (t40 [fb, [0]] (by simp) (by rw [hfl, List.length_append]; simp; omega)).give
  rw [hfl] at h40
  have h39' := (h39 0 (fb ++ [0]) hs0 (by rw [List.length_append]; simp; omega)).give
  have hclen := cover_len (first := f2 + 1) (s := s) (k := 0) (b := fb ++ [0]) (by omega)
  have ht4 : ((bcells hd).drop (Int.toNat 0)).take (Int.toNat 4 - Int.toNat 0) = bcells (hd.take 4) := by
    show (bcells hd).take 4 = _
    simp [bcells, List.map_take]
  have hhn := bcells_len hd
  have hsn := bcells_len s
  have hfn := bcells_len fb
  generalize coverW (f2 + 1) s 0 (fb ++ [0]) = CW at h39' hclen hok
  refine callsT_facts Try.func15 facts15 rfl fun hw _ => ?_
  have hl : rs.length ≤ 9223372036854775807 := wf_lenM hw.2.1
  refine callP h35 rfl fun _ => ?_
  refine callP h46 rfl fun _ => ?_
  refine loopN rs.length 25 [7] ([] : List UInt8) (fun _ => [.rw 32]) (fun s => [(2, .box 24 (diskC d)), (32, .row 5 1 (bcells s))]) (fun k s => s = V k) h00.symm (same_keys rfl) ⟨.inr (.inr (.inr (.inl ⟨rfl, 32, 5, 1, rfl, rfl, rfl⟩))), trivial⟩ ⟨.inl ⟨_, rfl, .inl ⟨rfl, rfl⟩⟩, .inr ⟨rfl, 5, 1, rfl⟩, trivial⟩ (fun _ => rfl) (fun _ => rfl) ?_
  rintro k z hk hinv _ _ _
  have hzn := bcells_len z
  have hzl := hle k
  rw [← hinv] at hzl
  refine brn_p (fun hlt => ?_) (fun hge => ?_)
  · have hlt : k < rs.length := by simpa using hlt
    refine withGet hlt fun r hx hxm => ?_
    have hst := hstep k r hx
    have hs1 := hle (k + 1)
    have hrn := bcells_len (frameB 1 r)
    have hs2 : (V (k + 1)).length = (V k).length + (frameB 1 r).length := by rw [hst, List.length_append]
    rw [← hinv] at hs2
    refine idxT (f := pgC) hx rfl rfl ?_
    refine callP (h41 r (hrl r hxm)) rfl fun _ => ?_
    refine AppT.mk bcells_sz ?_ ?_ ?_
    · show (bcells z).length + (bcells (frameB 1 r)).length ≤ maxLen
      simp only [maxLen]; omega
    · show ((bcells z).length + (bcells (frameB 1 r)).length) * 1 ≤ _
      omega
    refine Fit.in64 (by omega) (by omega) ?_
    refine ⟨(k + 1, z ++ frameB 1 r), ⟨hlt, by rw [hst, hinv]⟩, ⟨nextI, same_keys rfl, trivial⟩, ⟨.inl ⟨_, rfl, .inl ⟨rfl, rfl⟩⟩, .inl ⟨_, rfl, .inl ⟨congrArg (TO.row 5 1) (bcells_app z (frameB 1 r)).symm, rfl⟩⟩, trivial⟩, nextM hlt⟩
  have hge : ¬ k < rs.length := by simpa using hge
  have hzf : z = fb := by rw [hinv, hend k hge]
  have hzl2 : z.length = fb.length := by rw [hzf]
  refine callP h36 rfl fun _ => ?_
  refine callP h47 rfl fun _ => ?_
  have hmx : (if gp > 0 then gp else 0 : Int) = (g0 : Int) := by split <;> omega
  refine ⟨by rw [hmx]; exact wf_nat (by omega), ?_⟩
  refine callP h37 rfl fun _ => ?_
  refine brn_p (fun hf => ?_) (fun hf => ?_)
  · have e := hfull (.inl (by omega))
    exact retP rfl (by rw [e]; rfl)
  refine brn_p (fun hf2 => ?_) (fun hf2 => ?_)
  · have hf2 : (if gp > 0 then gp else 0 : Int) = 4294967295 := hf2
    rw [hmx] at hf2
    have e := hfull (.inr (by omega))
    exact retP rfl (by rw [e]; rfl)
  have hf2 : ¬ (if gp > 0 then gp else 0 : Int) = 4294967295 := hf2
  rw [hmx] at hf2
  have e := hok (by omega)
  refine callP h49 rfl fun _ => ?_
  refine SlcT.mk (by omega) (by omega) (by omega) bcells_sz ?_
  refine callO [11] [11] h48a rfl rfl (congrArg (fun l => [C.sl l, C.int .u8 0, C.own 1000 0]) ht4) rfl rfl fun _ _ => ?_
  have e40 : [C.sl ([[.sl (bcells z)], [.sl [[.int .u8 0]]]] : List (List C))] = [C.sl ([fb, [0]].map pgC)] := by rw [hzf]; rfl
  refine callPD h40 e40 fun _ => ?_
  refine callPD h39' rfl fun _ => ?_
  refine AppT.mk ?_ ?_ ?_ ?_
  · intro es he
    obtain ⟨y, _, rfl⟩ := List.mem_map.1 he
    rfl
  · show 1 + (CW.map wrC).length ≤ maxLen
    rw [List.length_map]; simp only [maxLen]; omega
  · show (1 + (CW.map wrC).length) * 32 ≤ _
    rw [List.length_map]; omega
  refine Fit.to (m := ((g0 + 1 : Nat) : Int)) (by
    have hm : (match true with | true => if gp > 0 then gp else 0 | false => if gp < 0 then gp else (0 : Int)) = (g0 : Int) := hmx
    first
      | rw [hm, wrap_i64 (by omega) (by omega)]; omega
      | (show IntKind.i64.wrap ((if gp > 0 then gp else 0 : Int) + 1) = _; rw [hmx, wrap_i64 (by omega) (by omega)]; omega)) ?_
  refine callP h50 rfl fun _ => ?_
  refine callO [11] [11] h48b rfl rfl rfl rfl rfl fun _ _ => ?_
  refine AppT.mk ?_ ?_ ?_ ?_
  · intro es he
    rcases List.mem_cons.1 he with rfl | he
    · rfl
    · cases he
  · show ((CW.map wrC).length + 1) + 1 ≤ maxLen
    rw [List.length_map]; simp only [maxLen]; omega
  · show (((CW.map wrC).length + 1) + 1) * 32 ≤ _
    rw [List.length_map]; omega
  have eW : wrC ((f2 : Int), hd.take 4 ++ [0]) :: (CW.map wrC) ++ [wrC ((f2 : Int), wordB (g0 + 1) 4 ++ [1])] = TD.1.map wrC := by
    rw [e]; simp
  have e0 : ((0 : Nat) : Int) = (TD.2 : Int) := by rw [e]
  exact retP rfl (congr (congrArg (fun a b => C.tup [C.sl a, IC b]) eW) e0)
end Go.Fr.Try

/- Disk: an operation. -/
set_option linter.unusedVariables false
set_option linter.unusedSimpArgs false
namespace Go.Fr.Try
open Go Go.RowKit Go.Proofs Go.Fr Go.Fr.T
def rec0 (rs : List (List UInt8)) : List UInt8 := rs.headD []
/-- the writes of an operation, the records that there should be, and its error -/
def opD (d rs : List (List UInt8)) (tr : Bool) : List Wri × List (List UInt8) × Nat :=
  if tr then ((truncD d rs).1, rs, (truncD d rs).2) else ((appendD d (rec0 rs)).1, recsD d ++ [rec0 rs], (appendD d (rec0 rs)).2)
theorem recsD_len (d : List (List UInt8)) : (recsD d).length ≤ 400 * 256 := by
  unfold recsD
  split
  · rename_i hv
    have hpr : presD d ≤ 1 := by unfold presD; split <;> omega
    have h1 := (parse_recs_le (s := spaceD d (presD d)) (Nat.le_refl _)).1
    have h2 := space_len hv hpr
    have h3 := (validD_iff.1 hv).2.1
    omega
  · simp
set_option maxRecDepth 10000 in
theorem t24 (d rs : List (List UInt8)) (tr : Bool) (hb : (framesB rs).length ≤ 2 ^ 38) : CallsT P 24 [.agg (diskC d), .sl (rs.map pgC), .bool tr] [] (Ret [] (.tup [.sl ((opD d rs tr).1.map wrC), .sl ((opD d rs tr).2.1.map pgC), IC (opD d rs tr).2.2])) := by
  have h15 := t15 d rs hb
  have h13 := t13 d (rec0 rs)
  have h22 := t22 d
  have hrl := recsD_len d
  have e1 : tr = true → opD d rs tr = ((truncD d rs).1, rs, (truncD d rs).2) := fun h => by unfold opD; rw [if_pos h]
  have e2 : tr = false → opD d rs tr = ((appendD d (rec0 rs)).1, recsD d ++ [rec0 rs], (appendD d (rec0 rs)).2) := fun h => by unfold opD; rw [h]; rfl
  generalize opD d rs tr = R at e1 e2 ⊢
  generalize truncD d rs = T at h15 e1
  generalize appendD d (rec0 rs) = AA at h13 e2
  generalize recsD d = rd at h22 hrl e2
  have hnil : rs = [] → rec0 rs = [] := fun h => by rw [h]; rfl
  have hcons : ∀ r, rs[0]? = some r → rec0 rs = r := fun r h => by cases rs with | nil => cases h | cons x l => simp at h; subst h; rfl
  generalize rec0 rs = r0 at h13 e2 hnil hcons
  have hm : (rs.map pgC).length = rs.length := List.length_map _
  have hm2 : (rd.map pgC).length = rd.length := List.length_map _
  refine callsT_facts Try.func24 facts24 rfl fun hw _ => ?_
  refine brn_split (fun ht => ?_) (fun ht => ?_)
  · have e := e1 ht
    refine callP h15 rfl fun _ => ?_
    exact retP rfl (by rw [e]; rfl)
  have e := e2 ht
  have eP : ([] : List (List C)) ++ (rd.map pgC) ++ [[.sl (bcells r0)]] = R.2.1.map pgC := by rw [e]; simp [pgC]
  have eR : C.tup [.sl (AA.1.map wrC), .sl (([] : List (List C)) ++ (rd.map pgC) ++ [[.sl (bcells r0)]]), IC AA.2] = C.tup [.sl (R.1.map wrC), .sl (R.2.1.map pgC), IC R.2.2] := by rw [eP, e]
  refine brn_p (fun hl => ?_) (fun hl => ?_)
  · have h0 : 0 < rs.length := by omega
    refine withGet h0 fun r hx _ => ?_
    have hr := hcons r hx
    refine idxT (f := pgC) (k := 0) hx rfl rfl ?_
    refine callP h13 (by rw [hr]; rfl) fun _ => ?_
    refine callP h22 rfl fun _ => ?_
    refine AppT.mk ?_ ?_ ?_ ?_
    · intro es he
      obtain ⟨y, _, rfl⟩ := List.mem_map.1 he
      rfl
    · show 0 + (rd.map pgC).length ≤ maxLen
      simp only [maxLen]; omega
    · show (0 + (rd.map pgC).length) * 24 ≤ _
      omega
    refine AppT.mk ?_ ?_ ?_ ?_
    · intro es he
      rcases List.mem_cons.1 he with rfl | he
      · rfl
      · cases he
    · show (rd.map pgC).length + 1 ≤ maxLen
      simp only [maxLen]; omega
    · show ((rd.map pgC).length + 1) * 24 ≤ _
      omega
    rw [hr] at eR
    exact retP rfl eR
  · have h0 : rs = [] := List.eq_nil_of_length_eq_zero (by omega)
    have hr := hnil h0
    rw [hr] at h13 eR
    refine callP h13 rfl fun _ => ?_
    refine callP h22 rfl fun _ => ?_
    refine AppT.mk ?_ ?_ ?_ ?_
    · intro es he
      obtain ⟨y, _, rfl⟩ := List.mem_map.1 he
      rfl
    · show 0 + (rd.map pgC).length ≤ maxLen
      simp only [maxLen]; omega
    · show (0 + (rd.map pgC).length) * 24 ≤ _
      omega
    refine AppT.mk ?_ ?_ ?_ ?_
    · intro es he
      rcases List.mem_cons.1 he with rfl | he
      · rfl
      · cases he
    · show (rd.map pgC).length + 1 ≤ maxLen
      simp only [maxLen]; omega
    · show ((rd.map pgC).length + 1) * 24 ≤ _
      omega
    exact retP rfl eR
end Go.Fr.Try

/- Disk: the fixed examples, in the plain model. -/
set_option linter.unusedVariables false
set_option linter.unusedSimpArgs false
namespace Go.Fr.Try
open Go Go.RowKit Go.Proofs Go.Fr Go.Fr.T
def H0 : List (List UInt8) := (newD 4).1
def A1 : List Wri := (appendD H0 [5, 6]).1
def H1 : List (List UInt8) := applyD H0 A1 (-1)
def B1 : List Wri := (appendD H1 []).1
def H2 : List (List UInt8) := applyD H1 B1 (-1)
def C1 : List Wri := (truncD H2 [[9]]).1
def HT : List (List UInt8) := applyD H2 C1 4
def H3 : List (List UInt8) := applyD H2 C1 (-1)
set_option maxRecDepth 100000 in
theorem head_ok : (decide ((newD 4).2 = 0) && decide ((appendD H0 [5, 6]).2 = 0) && decide ((appendD H1 []).2 = 0) && decide ((truncD H2 [[9]]).2 = 0) && decide ((appendD H3 (List.replicate 250 0)).2 = 19) && decide ((newD 3).2 = 1) &&
    decide (recsD H2 = [[5, 6], []]) && decide (A1 = [(1, [0, 0, 2, 5, 6, 0]), (1, [1])]) && decide (B1 = [(1, [1, 0, 2, 5, 6, 0, 0, 0, 0]), (1, [1, 0, 2, 5, 6, 1])]) && decide (C1 = [(2, [0, 0, 0, 0, 0]), (3, [1, 0, 1, 9, 0]), (2, [0, 0, 0, 1, 1])]) &&
    decide (recsD H3 = [[9]]) && decide (recsD HT = recsD H2)) = true := by kernel_rfl
end Go.Fr.Try

/- Disk: the fixed examples. -/
set_option linter.unusedVariables false
set_option linter.unusedSimpArgs false
namespace Go.Fr.Try
open Go Go.RowKit Go.Proofs Go.Fr Go.Fr.T
theorem zero_cells (n : Nat) : bcells (List.replicate n 0) = List.replicate n [C.int .u8 0] := by simp [bcells]
set_option maxRecDepth 100000 in
theorem t9 : CallsT P 9 [] [] (Ret [] (.bool true)) := by
  have hf := head_ok
  simp only [Bool.and_eq_true, decide_eq_true_eq] at hf
  obtain ⟨⟨⟨⟨⟨⟨⟨⟨⟨⟨⟨f1, f2⟩, f3⟩, f4⟩, f5⟩, f6⟩, f7⟩, f8⟩, f9⟩, f10⟩, f11⟩, f12⟩ := hf
  have c1 : CallsT P 11 [IC 4] [] (Ret [] (.tup [.agg (diskC H0), IC 0])) := by have h := t11 4; rw [f1] at h; exact h
  have c2 : CallsT P 13 [.agg (diskC H0), .sl (bcells [5, 6])] [] (Ret [] (.tup [.sl (A1.map wrC), IC 0])) := by have h := t13 H0 [5, 6]; rw [f2] at h; exact h
  have c3 : CallsT P 19 [.agg (diskC H0), .sl (A1.map wrC), IC (-1)] [] (Ret [] (.agg (diskC H1))) := t19 H0 A1 (-1)
  have c4 : CallsT P 13 [.agg (diskC H1), .sl (bcells [])] [] (Ret [] (.tup [.sl (B1.map wrC), IC 0])) := by have h := t13 H1 []; rw [f3] at h; exact h
  have c5 : CallsT P 19 [.agg (diskC H1), .sl (B1.map wrC), IC (-1)] [] (Ret [] (.agg (diskC H2))) := t19 H1 B1 (-1)
  have c6 : CallsT P 22 [.agg (diskC H2)] [] (Ret [] (.sl (([[5, 6], []] : List (List UInt8)).map pgC))) := by have h := t22 H2; rw [f7] at h; exact h
  have c7 : CallsT P 15 [.agg (diskC H2), .sl (([[9]] : List (List UInt8)).map pgC)] [] (Ret [] (.tup [.sl (C1.map wrC), IC 0])) := by have h := t15 H2 [[9]] (by simp [framesB, frameB]); rw [f4] at h; exact h
  have c8 : CallsT P 19 [.agg (diskC H2), .sl (C1.map wrC), IC 4] [] (Ret [] (.agg (diskC HT))) := t19 H2 C1 4
  have c9 : CallsT P 19 [.agg (diskC H2), .sl (C1.map wrC), IC (-1)] [] (Ret [] (.agg (diskC H3))) := t19 H2 C1 (-1)
  have c10 : ∃ W : List Wri, CallsT P 13 [.agg (diskC H3), .rw 1000] [.row 5 1 (List.replicate 250 [C.int .u8 0])] (Ret [] (.tup [.sl (W.map wrC), IC 19])) := by
    have h := t13 H3 (List.replicate 250 0)
    rw [f5, zero_cells] at h
    exact ⟨_, CallsT.own1 h rfl ⟨Try.f13, rfl, rfl, by decide⟩⟩
  have c11 : ∃ D : List (List UInt8), CallsT P 11 [IC 3] [] (Ret [] (.tup [.agg (diskC D), IC 1])) := by have h := t11 3; rw [f6] at h; exact ⟨_, h⟩
  have c12 : CallsT P 21 [.sl (([[5, 6], []] : List (List UInt8)).map pgC), .sl (([[5, 6], []] : List (List UInt8)).map pgC)] [] (Ret [] (.bool true)) := by have h := t21 [[5, 6], []] [[5, 6], []]; rw [decide_eq_true rfl] at h; exact h
  have c13 : CallsT P 18 [.sl (A1.map wrC), .sl (([(1, [0, 0, 2, 5, 6, 0]), (1, [1])] : List Wri).map wrC)] [] (Ret [] (.bool true)) := by have h := t18 A1 [(1, [0, 0, 2, 5, 6, 0]), (1, [1])]; rw [decide_eq_true f8] at h; exact h
  have c14 : CallsT P 18 [.sl (B1.map wrC), .sl (([(1, [1, 0, 2, 5, 6, 0, 0, 0, 0]), (1, [1, 0, 2, 5, 6, 1])] : List Wri).map wrC)] [] (Ret [] (.bool true)) := by have h := t18 B1 [(1, [1, 0, 2, 5, 6, 0, 0, 0, 0]), (1, [1, 0, 2, 5, 6, 1])]; rw [decide_eq_true f9] at h; exact h
  have c15 : CallsT P 18 [.sl (C1.map wrC), .sl (([(2, [0, 0, 0, 0, 0]), (3, [1, 0, 1, 9, 0]), (2, [0, 0, 0, 1, 1])] : List Wri).map wrC)] [] (Ret [] (.bool true)) := by have h := t18 C1 [(2, [0, 0, 0, 0, 0]), (3, [1, 0, 1, 9, 0]), (2, [0, 0, 0, 1, 1])]; rw [decide_eq_true f10] at h; exact h
  have c16 : CallsT P 22 [.agg (diskC H3)] [] (Ret [] (.sl (([[9]] : List (List UInt8)).map pgC))) := by have h := t22 H3; rw [f11] at h; exact h
  have c17 : CallsT P 21 [.sl (([[9]] : List (List UInt8)).map pgC), .sl (([[9]] : List (List UInt8)).map pgC)] [] (Ret [] (.bool true)) := by have h := t21 [[9]] [[9]]; rw [decide_eq_true rfl] at h; exact h
  have c18 : CallsT P 22 [.agg (diskC HT)] [] (Ret [] (.sl (([[5, 6], []] : List (List UInt8)).map pgC))) := by have h := t22 HT; rw [f12, f7] at h; exact h
  obtain ⟨W10, c10⟩ := c10
  obtain ⟨D11, c11⟩ := c11
  clear f1 f2 f3 f4 f5 f6 f7 f8 f9 f10 f11 f12
  generalize H0 = d0 at *
  generalize H1 = d1 at *
  generalize H2 = d2 at *
  generalize H3 = d3 at *
  generalize HT = dt at *
  generalize A1 = a at *
  generalize B1 = b at *
  generalize C1 = c at *
  refine callsT_facts Try.func9 facts9 rfl fun hw _ => ?_
  refine callP c1 rfl fun _ => ?_
  refine callP c2 rfl fun _ => ?_
  refine callP c3 rfl fun _ => ?_
  refine callP c4 rfl fun _ => ?_
  refine callP c5 rfl fun _ => ?_
  refine callP c6 rfl fun _ => ?_
  refine callP c7 rfl fun _ => ?_
  refine callP c8 rfl fun _ => ?_
  refine callP c9 rfl fun _ => ?_
  refine callOD [56] [] c10 rfl rfl rfl rfl rfl fun _ _ => ?_
  refine callP c11 rfl fun _ => ?_
  refine callP c12 rfl fun _ => ?_
  refine callP c13 rfl fun _ => ?_
  refine callP c14 rfl fun _ => ?_
  refine MakePt.mk (by omega) rfl (by decide) (by decide) ?_
  refine callP c15 rfl fun _ => ?_
  refine callP c16 rfl fun _ => ?_
  refine callP c17 rfl fun _ => ?_
  refine callP c18 rfl fun _ => ?_
  refine callP c12 rfl fun _ => ?_
  exact retP rfl rfl
end Go.Fr.Try

/- Disk: applying torn writes, in the plain model. -/
set_option linter.unusedVariables false
set_option linter.unusedSimpArgs false
namespace Go.Fr.Try
open Go Go.RowKit Go.Proofs Go.Fr Go.Fr.T
theorem badW_false {d : List (List UInt8)} {l : List Wri} (h : ∀ w ∈ l, okW d w = true) : l.any (badW d) = false := by
  rw [List.any_eq_false]
  intro w hw
  simp [badW, h w hw]
theorem applyD_bad {d : List (List UInt8)} {l : List Wri} {t : Int} {w : Wri} (hw : w ∈ l) (h : okW d w = false) : applyD d l t = [] := by
  have : l.any (badW d) = true := List.any_eq_true.2 ⟨w, hw, by simp [badW, h]⟩
  unfold applyD
  rw [this]
  simp
theorem applyD_ok {d : List (List UInt8)} {l : List Wri} {t : Int} (hv : validD d = true) (h : ∀ w ∈ l, okW d w = true) : applyD d l t = applyAll d (cutL l t) := by
  unfold applyD
  rw [hv, badW_false h]; rfl
theorem okW_len {d d' : List (List UInt8)} (h : d'.length = d.length) (w : Wri) : okW d' w = okW d w := by simp only [okW, h]
theorem applyAll_valid {d : List (List UInt8)} (hv : validD d = true) (l : List Wri) : validD (applyAll d l) = true := by
  obtain ⟨h1, h2, h3⟩ := validD_iff.1 hv
  exact validD_iff.2 ⟨by rw [applyAll_len]; exact h1, by rw [applyAll_len]; exact h2, applyAll_page l d h3⟩
theorem cutT_neg (b : List UInt8) : cutT b (-1) = b := by unfold cutT; rw [if_neg (by omega)]
theorem cutL_neg : ∀ l : List Wri, cutL l (-1) = l
  | [] => rfl
  | [w] => by simp only [cutL, cutT_neg]
  | w :: x :: l => by rw [cutL, cutL_neg (x :: l)]
theorem cutL_snoc : ∀ (l : List Wri) (w : Wri) (t : Int), cutL (l ++ [w]) t = l ++ [(w.1, cutT w.2 t)]
  | [], w, t => rfl
  | [x], w, t => rfl
  | x :: y :: l, w, t => by
    have := cutL_snoc (y :: l) w t
    simp only [List.cons_append] at this ⊢
    rw [cutL, this]
theorem cutT_take {b : List UInt8} {n : Nat} (h : n ≤ b.length) : cutT b n = b.take n := by
  unfold cutT
  split
  · simp
  · rw [List.take_of_length_le (by omega)]
theorem applyAll_append (d : List (List UInt8)) (l m : List Wri) : applyAll d (l ++ m) = applyAll (applyAll d l) m := by simp [applyAll]
theorem setP_other {d : List (List UInt8)} {w : Wri} {p : Nat} (h : w.1.toNat ≠ p) : (setP d w)[p]? = d[p]? := by
  simp [setP, List.getElem?_modify, h]
theorem applyAll_other {p : Nat} : ∀ (l : List Wri) (d : List (List UInt8)), (∀ w ∈ l, w.1.toNat ≠ p) → (applyAll d l)[p]? = d[p]?
  | [], d, _ => rfl
  | w :: l, d, h => by
    show (applyAll (setP d w) l)[p]? = _
    rw [applyAll_other l (setP d w) fun x hx => h x (List.mem_cons_of_mem _ hx), setP_other (h w (List.mem_cons_self ..))]
theorem take_last {α : Type} {l : List α} {x : α} (h : l[l.length - 1]? = some x) : l = l.take (l.length - 1) ++ [x] := by
  have hl := (List.getElem?_eq_some_iff.1 h).1
  have := take_snoc' h
  rw [show l.length - 1 + 1 = l.length by omega, List.take_length] at this
  exact this
/-- a torn last write is a write of its first bytes -/
theorem torn_last {d : List (List UInt8)} {l : List Wri} {w : Wri} {n : Nat} (hv : validD d = true) (h : ∀ w ∈ l, okW d w = true) (hw : l[l.length - 1]? = some w) (hn : n ≤ w.2.length) :
    applyD d l n = applyD (applyD d (l.take (l.length - 1)) (-1)) [(w.1, w.2.take n)] (-1) ∧ validD (applyD d l n) = true ∧ (applyD d l n).length = d.length ∧ ∀ p : Nat, (∀ w ∈ l, w.1 ≠ (p : Int)) → (applyD d l n)[p]? = d[p]? := by
  have hl := take_last hw
  have hwl := List.mem_of_getElem? hw
  have h1 : ∀ x ∈ l.take (l.length - 1), okW d x = true := fun x hx => h x (List.mem_of_mem_take hx)
  rw [applyD_ok hv h1, cutL_neg]
  have hv1 := applyAll_valid hv (l.take (l.length - 1))
  have hlen1 := applyAll_len (l.take (l.length - 1)) d
  have h2 : ∀ x ∈ [((w.1, w.2.take n) : Wri)], okW (applyAll d (l.take (l.length - 1))) x = true := by
    intro x hx
    rw [List.mem_singleton.1 hx, okW_len hlen1]
    have := h w hwl
    simp only [okW, Bool.and_eq_true, decide_eq_true_eq] at this ⊢
    exact ⟨this.1, by rw [List.length_take]; omega⟩
  rw [applyD_ok hv1 h2, cutL_neg, applyD_ok hv h]
  refine ⟨?_, applyAll_valid hv _, applyAll_len _ _, ?_⟩
  · conv => lhs; rw [hl]
    rw [cutL_snoc, cutT_take hn, applyAll_append]
  · intro p hp
    refine applyAll_other _ _ ?_
    rw [hl, cutL_snoc]
    intro x hx
    rcases List.mem_append.1 hx with hx | hx
    · have hx' := List.mem_of_mem_take hx
      have := hp x hx'
      have hk := h x hx'
      simp only [okW, Bool.and_eq_true, decide_eq_true_eq] at hk
      omega
    · rw [List.mem_singleton.1 hx]
      have := hp w hwl
      have hk := h w hwl
      simp only [okW, Bool.and_eq_true, decide_eq_true_eq] at hk
      show w.1.toNat ≠ p
      omega
end Go.Fr.Try

/- Disk: frames and what is parsed, in the plain model; writes of which some bytes are done. -/
set_option linter.unusedVariables false
set_option linter.unusedSimpArgs false
namespace Go.Fr.Try
open Go Go.RowKit Go.Proofs Go.Fr Go.Fr.T
theorem nat_bytes {n : Nat} (h : n ≤ 65535) : (UInt8.ofNat (n / 256)).toNat * 256 + (UInt8.ofNat (n % 256)).toNat = n := by
  rw [UInt8.toNat_ofNat', UInt8.toNat_ofNat']; omega
theorem bytes_nat (a b : UInt8) : a.toNat * 256 + b.toNat ≤ 65535 ∧ UInt8.ofNat ((a.toNat * 256 + b.toNat) / 256) = a ∧ UInt8.ofNat ((a.toNat * 256 + b.toNat) % 256) = b := by
  have ha := a.toNat_lt
  have hb := b.toNat_lt
  have e1 : (a.toNat * 256 + b.toNat) / 256 = a.toNat := by omega
  have e2 : (a.toNat * 256 + b.toNat) % 256 = b.toNat := by omega
  rw [e1, e2]
  exact ⟨by omega, UInt8.ofNat_toNat, UInt8.ofNat_toNat⟩
theorem frameB_len (f : UInt8) (r : List UInt8) : (frameB f r).length = 3 + r.length := by simp [frameB]; omega
theorem framesB_cons (r : List UInt8) (rs : List (List UInt8)) : framesB (r :: rs) = frameB 1 r ++ framesB rs := by simp [framesB]
theorem framesB_app (a b : List (List UInt8)) : framesB (a ++ b) = framesB a ++ framesB b := by simp [framesB]
theorem framesB_one (r : List UInt8) : framesB [r] = frameB 1 r := by simp [framesB]
theorem framesB_nil : framesB [] = [] := rfl
theorem parse_frame {r : List UInt8} (h : r.length ≤ 65535) (t : List UInt8) : parse (frameB 1 r ++ t) = (r :: (parse t).1, 3 + r.length + (parse t).2) := by
  have e : frameB 1 r ++ t = 1 :: UInt8.ofNat (r.length / 256) :: UInt8.ofNat (r.length % 256) :: (r ++ t) := rfl
  rw [e, parse_cons, nat_bytes h, if_pos ⟨rfl, by rw [List.length_append]; omega⟩, List.take_left, List.drop_left]
  exact Prod.ext rfl (by show _ + _ + _ = _ + _ + _; omega)
/-- what the frames of records and more are parsed as -/
theorem parse_eq : ∀ (rs : List (List UInt8)) (t : List UInt8), (∀ r ∈ rs, r.length ≤ 65535) → parse (framesB rs ++ t) = (rs ++ (parse t).1, (framesB rs).length + (parse t).2)
  | [], t, _ => by simp [framesB_nil]
  | r :: rs, t, h => by
    rw [framesB_cons, List.append_assoc, parse_frame (h r (List.mem_cons_self ..)), parse_eq rs t fun x hx => h x (List.mem_cons_of_mem _ hx)]
    simp only [List.cons_append, List.length_append, frameB_len]
    exact Prod.ext rfl (by show _ + _ = _; omega)
/-- a space is the frames of its records, and a rest without records -/
theorem parse_split : ∀ (n : Nat) (s : List UInt8), s.length ≤ n → s = framesB (parse s).1 ++ s.drop (parse s).2 ∧ (framesB (parse s).1).length = (parse s).2 ∧ parse (s.drop (parse s).2) = ([], 0) ∧ ∀ r ∈ (parse s).1, r.length ≤ 65535 := by
  intro n
  induction n with
  | zero =>
    intro s hs
    have e := parse_small (s := s) (by omega)
    rw [e]
    exact ⟨rfl, rfl, e, fun r hr => (by cases hr)⟩
  | succ n ih =>
    intro s hs
    match s, hs with
    | [], _ => exact ⟨rfl, rfl, rfl, fun r hr => (by cases hr)⟩
    | [_], _ => exact ⟨rfl, rfl, rfl, fun r hr => (by cases hr)⟩
    | [_, _], _ => exact ⟨rfl, rfl, rfl, fun r hr => (by cases hr)⟩
    | f :: a :: b :: r, hs =>
      by_cases hc : f = 1 ∧ a.toNat * 256 + b.toNat ≤ r.length
      · obtain ⟨hf, hl⟩ := hc
        have e := parse_cons f a b r
        rw [if_pos ⟨hf, hl⟩] at e
        obtain ⟨i1, i2, i3, i4⟩ := ih (r.drop (a.toNat * 256 + b.toNat)) (by simp only [List.length_drop, List.length_cons] at hs ⊢; omega)
        obtain ⟨b1, b2, b3⟩ := bytes_nat a b
        have ht : (r.take (a.toNat * 256 + b.toNat)).length = a.toNat * 256 + b.toNat := by rw [List.length_take]; omega
        have hfr : frameB 1 (r.take (a.toNat * 256 + b.toNat)) = 1 :: a :: b :: r.take (a.toNat * 256 + b.toNat) := by
          unfold frameB; rw [ht, b2, b3]
        have hd : (f :: a :: b :: r).drop (a.toNat * 256 + b.toNat + 3 + (parse (r.drop (a.toNat * 256 + b.toNat))).2) = (r.drop (a.toNat * 256 + b.toNat)).drop (parse (r.drop (a.toNat * 256 + b.toNat))).2 := by
          rw [List.drop_drop, show a.toNat * 256 + b.toNat + 3 + (parse (r.drop (a.toNat * 256 + b.toNat))).2 = (a.toNat * 256 + b.toNat + (parse (r.drop (a.toNat * 256 + b.toNat))).2) + 1 + 1 + 1 by omega]
          simp only [List.drop_succ_cons]
        rw [e]
        simp only [framesB_cons, hfr, hd]
        refine ⟨?_, ?_, i3, ?_⟩
        · rw [hf, List.append_assoc, ← i1]
          simp only [List.cons_append, List.take_append_drop]
        · simp only [List.length_append, List.length_cons, ht, i2]
        · intro x hx
          rcases List.mem_cons.1 hx with rfl | hx
          · rw [ht]; exact b1
          · exact i4 x hx
      · have e := parse_cons f a b r
        rw [if_neg hc] at e
        rw [e]
        exact ⟨rfl, rfl, e, fun r hr => (by cases hr)⟩
theorem parse_zero (t : List UInt8) : parse (0 :: t) = ([], 0) := by
  match t with
  | [] => rfl
  | [_] => rfl
  | a :: b :: r => rw [parse_cons, if_neg (fun h => absurd h.1 (by decide))]
/-- a space of which the part behind the records changes to something without records -/
theorem parse_keep {s S : List UInt8} (h : S.take (parse s).2 = s.take (parse s).2) (h0 : parse (S.drop (parse s).2) = ([], 0)) : parse S = parse s := by
  obtain ⟨e1, e2, e3, e4⟩ := parse_split s.length s (Nat.le_refl _)
  have ht : s.take (parse s).2 = framesB (parse s).1 := (congrArg (List.take (parse s).2) e1).trans (List.take_left' e2)
  have hS : S = framesB (parse s).1 ++ S.drop (parse s).2 := by
    rw [← ht, ← h, List.take_append_drop]
  rw [hS, parse_eq _ _ e4, h0, List.append_nil, e2]
  rfl
/-- a space in which the byte behind the records is 0, or nothing is -/
theorem parse_off {s S : List UInt8} (h : S.take (parse s).2 = s.take (parse s).2) (h0 : ∀ x t, S.drop (parse s).2 = x :: t → x = 0) : parse S = parse s := by
  refine parse_keep h ?_
  cases e : S.drop (parse s).2 with
  | nil => rfl
  | cons x t => rw [h0 x t e]; exact parse_zero t
/- the first bytes of writes -/
def part : List Wri → Nat → List Wri
  | [], _ => []
  | w :: l, n => if n < w.2.length then [(w.1, w.2.take n)] else w :: part l (n - w.2.length)
theorem cutI_pos {w : Wri} {l : List Wri} {n : Nat} : 1 ≤ (cutI (w :: l) n).1 := by
  simp only [cutI]
  split
  · exact Nat.le_refl _
  · exact Nat.le_add_left ..
theorem cut_part : ∀ (l : List Wri) (n : Nat), cutL (l.take (cutI l n).1) (cutI l n).2 = part l n
  | [], n => rfl
  | [w], n => by
    simp only [cutI, part]
    split
    · rename_i h
      show [(w.1, cutT w.2 n)] = _
      rw [cutT_take (by omega)]
    · show [(w.1, cutT w.2 (-1))] = _
      rw [cutT_neg]
  | w :: x :: l, n => by
    have ih := cut_part (x :: l) (n - w.2.length)
    have hp := cutI_pos (w := x) (l := l) (n := n - w.2.length)
    rw [cutI, part]
    split
    · rename_i h
      show [(w.1, cutT w.2 n)] = _
      rw [cutT_take (by omega)]
    · rw [← ih]
      obtain ⟨m, hm⟩ : ∃ m, (cutI (x :: l) (n - w.2.length)).1 = m + 1 := ⟨(cutI (x :: l) (n - w.2.length)).1 - 1, by omega⟩
      simp only [hm, List.take_succ_cons, cutL]
theorem bytesW_cons (w : Wri) (l : List Wri) : bytesW (w :: l) = w.2.length + bytesW l := by simp [bytesW]
theorem bytesW_app (l m : List Wri) : bytesW (l ++ m) = bytesW l + bytesW m := by simp [bytesW]
theorem part_app : ∀ (l m : List Wri) (n : Nat), part (l ++ m) n = if n < bytesW l then part l n else l ++ part m (n - bytesW l)
  | [], m, n => by simp [bytesW]
  | w :: l, m, n => by
    rw [List.cons_append, part, part_app l m, bytesW_cons, part]
    by_cases h : n < w.2.length
    · rw [if_pos h, if_pos h, if_pos (by omega)]
    · rw [if_neg h, if_neg h]
      by_cases h2 : n - w.2.length < bytesW l
      · rw [if_pos h2, if_pos (by omega)]
      · rw [if_neg h2, if_neg (by omega), Nat.sub_sub]; rfl
theorem part_all : ∀ (l : List Wri) (n : Nat), bytesW l ≤ n → part l n = l
  | [], n, _ => rfl
  | w :: l, n, h => by
    rw [bytesW_cons] at h
    rw [part, if_neg (by omega), part_all l _ (by omega)]
theorem part_ok {d : List (List UInt8)} : ∀ (l : List Wri) (n : Nat), (∀ w ∈ l, okW d w = true) → ∀ w ∈ part l n, okW d w = true
  | [], n, h => fun w hw => (by cases hw)
  | w :: l, n, h => by
    rw [part]
    split
    · intro x hx
      rw [List.mem_singleton.1 hx]
      have := h w (List.mem_cons_self ..)
      simp only [okW, Bool.and_eq_true, decide_eq_true_eq] at this ⊢
      exact ⟨this.1, by rw [List.length_take]; omega⟩
    · intro x hx
      rcases List.mem_cons.1 hx with rfl | hx
      · exact h _ (List.mem_cons_self ..)
      · exact part_ok l _ (fun y hy => h y (List.mem_cons_of_mem _ hy)) x hx
/-- cut writes, applied -/
theorem apply_cut {d : List (List UInt8)} {l : List Wri} {n : Nat} (hv : validD d = true) (h : ∀ w ∈ l, okW d w = true) : applyD d (l.take (cutI l n).1) (cutI l n).2 = applyAll d (part l n) := by
  rw [applyD_ok hv fun w hw => h w (List.mem_of_mem_take hw), cut_part]
theorem apply_whole {d : List (List UInt8)} {l : List Wri} (hv : validD d = true) (h : ∀ w ∈ l, okW d w = true) : applyD d l (-1) = applyAll d l := by
  rw [applyD_ok hv h, cutL_neg]
end Go.Fr.Try

/- Disk: covering a space, in the plain model. -/
set_option linter.unusedVariables false
set_option linter.unusedSimpArgs false
namespace Go.Fr.Try
open Go Go.RowKit Go.Proofs Go.Fr Go.Fr.T
theorem overlay_behind (p F ws : List UInt8) (k : Nat) : overlay (p ++ F) (p.length + k) ws = p ++ overlay F k ws := by
  have e : (p ++ F).length - (p.length + k) = F.length - k := by rw [List.length_append]; omega
  have e2 : ∀ x, p.length + k + x = p.length + (k + x) := fun x => by omega
  simp only [overlay, e, e2, List.take_length_add_append, List.drop_length_add_append, List.append_assoc]
theorem overlay_0 {p ws : List UInt8} (h : ws.length ≤ p.length) : overlay p 0 ws = ws ++ p.drop ws.length := by
  unfold overlay
  rw [List.take_zero, List.nil_append, Nat.sub_zero, List.take_of_length_le h, Nat.min_eq_left h, Nat.zero_add]
theorem flat_modify {ws : List UInt8} (hw : ws.length ≤ 256) : ∀ (ps : List (List UInt8)) (q : Nat), (∀ p ∈ ps, p.length = 256) → q < ps.length → (ps.modify q (fun p => overlay p 0 ws)).flatten = overlay ps.flatten (q * 256) ws
  | [], q, _, h => absurd h (Nat.not_lt_zero _)
  | p :: l, 0, hp, _ => by
    have h1 := hp p (List.mem_cons_self ..)
    show overlay p 0 ws ++ l.flatten = _
    rw [overlay_0 (by omega), Nat.zero_mul, List.flatten_cons, overlay_0 (by rw [List.length_append]; omega), List.drop_append_of_le_length (by omega), List.append_assoc]
  | p :: l, q + 1, hp, hq => by
    have h1 := hp p (List.mem_cons_self ..)
    show p ++ (l.modify q _).flatten = _
    rw [flat_modify hw l q (fun x hx => hp x (List.mem_cons_of_mem _ hx)) (by simpa using hq), List.flatten_cons, show (q + 1) * 256 = p.length + q * 256 by omega, overlay_behind]
theorem spaceD_congr {d d' : List (List UInt8)} {h : Nat} (hl : d'.length = d.length) (hp : ∀ p : Nat, h * (d.length / 2) < p → p < h * (d.length / 2) + d.length / 2 → d'[p]? = d[p]?) : spaceD d' h = spaceD d h := by
  unfold spaceD
  rw [hl]
  congr 1
  apply List.ext_getElem?
  intro i
  rw [List.getElem?_take, List.getElem?_take, List.getElem?_drop, List.getElem?_drop]
  split
  · exact hp _ (by omega) (by omega)
  · rfl
theorem mul_le1 {h n : Nat} (hh : h ≤ 1) : h * n ≤ n := by
  have := Nat.mul_le_mul_right n hh
  omega
/-- one write to a page of a space -/
theorem set_space {d : List (List UInt8)} {h n2 q : Nat} {w : Wri} (hv : validD d = true) (hn : d.length / 2 = n2) (hh : h ≤ 1) (hq : q < n2 - 1) (hp : w.1 = ((h * n2 + 1 + q : Nat) : Int)) (hw : w.2.length ≤ 256) :
    validD (setP d w) = true ∧ (setP d w).length = d.length ∧ (∀ p : Nat, p ≤ h * n2 ∨ h * n2 + n2 ≤ p → (setP d w)[p]? = d[p]?) ∧ spaceD (setP d w) h = overlay (spaceD d h) (q * 256) w.2 := by
  have hi : w.1.toNat = h * n2 + 1 + q := by rw [hp, Int.toNat_natCast]
  have h1 := mul_le1 (n := n2) hh
  obtain ⟨v1, v2, v3⟩ := validD_iff.1 hv
  refine ⟨applyAll_valid hv [w], setP_len d w, fun p hp' => setP_other (by omega), ?_⟩
  have e : ((setP d w).drop (h * n2 + 1)).take (n2 - 1) = ((d.drop (h * n2 + 1)).take (n2 - 1)).modify q (fun p => overlay p 0 w.2) := by
    apply List.ext_getElem?
    intro i
    rw [List.getElem?_take, List.getElem?_modify, List.getElem?_take, List.getElem?_drop, List.getElem?_drop, setP, List.getElem?_modify, hi]
    by_cases hi' : i < n2 - 1
    · rw [if_pos hi', if_pos hi']
      by_cases hqi : q = i
      · subst hqi; simp
      · have : ¬ h * n2 + 1 + q = h * n2 + 1 + i := by omega
        simp [hqi, this]
    · rw [if_neg hi', if_neg hi']
      rfl
  have el : (setP d w).length / 2 = n2 := by rw [setP_len, hn]
  unfold spaceD
  rw [el, hn, e]
  refine flat_modify hw _ q (fun p hp' => v3 p (List.mem_of_mem_drop (List.mem_of_mem_take hp'))) ?_
  rw [List.length_take, List.length_drop]
  omega
theorem overlay_pre {S O : List UInt8} {k t : Nat} (h : S.take k = O.take k) (hl : S.length = O.length) (ht : k + t ≤ O.length) : overlay S k ((O.drop k).take t) = O.take (k + t) ++ S.drop (k + t) := by
  have e : ((O.drop k).take t).length = t := by rw [List.length_take, List.length_drop]; omega
  unfold overlay
  rw [e, List.take_of_length_le (l := (O.drop k).take t) (by rw [e]; omega), Nat.min_eq_left (by omega), h, ← List.take_add]
theorem range_cov {first q e m : Nat} {O : List UInt8} : (List.range (m + 1)).map (coverE first O q e) = coverE first O q e 0 :: (List.range m).map (coverE first O (q + 1) e) := by
  rw [List.range_succ_eq_map, List.map_cons, List.map_map]
  congr 1
  refine List.map_congr_left fun k _ => ?_
  show coverE first O q e (k + 1) = coverE first O (q + 1) e k
  unfold coverE
  rw [show q + (k + 1) = q + 1 + k by omega]
theorem covE_len {first q e : Nat} {O : List UInt8} (he : e ≤ O.length) : (coverE first O q e 0).2.length = min 256 (e - q * 256) := by
  show (List.take _ (List.drop ((q + 0) * 256) O)).length = _
  rw [List.length_take, List.length_drop, Nat.add_zero]
  omega
set_option maxRecDepth 10000 in
theorem cov_bytes {first e : Nat} {O : List UInt8} (he : e ≤ O.length) : ∀ (m q : Nat), e ≤ (q + m) * 256 → (0 < m → (q + m - 1) * 256 < e) → bytesW ((List.range m).map (coverE first O q e)) = e - q * 256 := by
  intro m
  induction m with
  | zero => intro q h _; show 0 = _; omega
  | succ m ih =>
    intro q h h2
    have h2 := h2 (by omega)
    rw [range_cov, bytesW_cons, covE_len he, ih (q + 1) (by omega) (fun _ => by omega)]
    omega
set_option maxRecDepth 10000 in
theorem cov_part {h n2 e : Nat} {O : List UInt8} (hh : h ≤ 1) (hO : O.length = (n2 - 1) * 256) (he : e ≤ O.length) : ∀ (m q n : Nat) (d : List (List UInt8)), validD d = true → d.length / 2 = n2 → q * 256 ≤ e → e ≤ (q + m) * 256 → (0 < m → (q + m - 1) * 256 < e) → (spaceD d h).take (q * 256) = O.take (q * 256) → n ≤ e - q * 256 →
    ∀ d', d' = applyAll d (part ((List.range m).map (coverE (h * n2 + 1) O q e)) n) →
    validD d' = true ∧ d'.length = d.length ∧ (∀ p : Nat, p ≤ h * n2 ∨ h * n2 + n2 ≤ p → d'[p]? = d[p]?) ∧ spaceD d' h = O.take (q * 256 + n) ++ (spaceD d h).drop (q * 256 + n) := by
  intro m
  induction m with
  | zero =>
    intro q n d hv hn hq h1 h2 hs hl d' hd
    have : n = 0 := by omega
    subst this
    subst hd
    refine ⟨hv, rfl, fun _ _ => rfl, ?_⟩
    rw [Nat.add_zero, ← hs, List.take_append_drop]
  | succ m ih =>
    intro q n d hv hn hq h1 h2 hs hl d' hd
    have h2' := h2 (by omega)
    have hlen := covE_len (first := h * n2 + 1) (q := q) he
    have hSl : (spaceD d h).length = O.length := by rw [space_len hv hh, hn, hO]
    have hq1 : q < n2 - 1 := by omega
    rw [range_cov, part, hlen] at hd
    by_cases hlt : n < min 256 (e - q * 256)
    · rw [if_pos hlt] at hd
      obtain ⟨g1, g2, g3, g4⟩ := set_space (w := ((coverE (h * n2 + 1) O q e 0).1, (coverE (h * n2 + 1) O q e 0).2.take n)) hv hn hh hq1 rfl (by show (List.take _ _).length ≤ _; rw [List.length_take]; omega)
      have ed : d' = setP d ((coverE (h * n2 + 1) O q e 0).1, (coverE (h * n2 + 1) O q e 0).2.take n) := hd
      subst ed
      refine ⟨g1, g2, g3, ?_⟩
      rw [g4]
      have eb : (coverE (h * n2 + 1) O q e 0).2.take n = (O.drop (q * 256)).take n := by
        show List.take n (List.take _ (List.drop ((q + 0) * 256) O)) = _
        rw [List.take_take, Nat.add_zero, Nat.min_eq_left (by omega)]
      show overlay (spaceD d h) (q * 256) ((coverE (h * n2 + 1) O q e 0).2.take n) = _
      rw [eb]
      exact overlay_pre hs hSl (by omega)
    · rw [if_neg hlt] at hd
      obtain ⟨g1, g2, g3, g4⟩ := set_space (w := coverE (h * n2 + 1) O q e 0) hv hn hh hq1 rfl (by rw [hlen]; omega)
      have eb : (coverE (h * n2 + 1) O q e 0).2 = (O.drop (q * 256)).take (min 256 (e - q * 256)) := rfl
      rw [eb, overlay_pre hs hSl (by omega)] at g4
      have ed : d' = applyAll (setP d (coverE (h * n2 + 1) O q e 0)) (part ((List.range m).map (coverE (h * n2 + 1) O (q + 1) e)) (n - min 256 (e - q * 256))) := hd
      rcases Nat.eq_zero_or_pos m with hm | hm
      · subst hm
        have en : n = min 256 (e - q * 256) := by omega
        have ed : d' = setP d (coverE (h * n2 + 1) O q e 0) := ed
        subst ed
        refine ⟨g1, g2, g3, ?_⟩
        rw [g4, ← en]
      · have e256 : min 256 (e - q * 256) = 256 := by omega
        rw [e256] at ed g4
        have hT : (O.take (q * 256 + 256)).length = (q + 1) * 256 := by rw [List.length_take]; omega
        obtain ⟨i1, i2, i3, i4⟩ := ih (q + 1) (n - 256) _ g1 (by rw [g2, hn]) (by omega) (by omega) (fun _ => by omega) (by rw [g4, List.take_left' hT, show q * 256 + 256 = (q + 1) * 256 by omega]) (by omega) d' ed
        refine ⟨i1, by rw [i2, g2], fun p hp => by rw [i3 p hp, g3 p hp], ?_⟩
        rw [i4, g4, show (q + 1) * 256 + (n - 256) = q * 256 + n by omega]
        congr 1
        rw [List.drop_append, List.drop_of_length_le (by rw [hT]; omega), List.nil_append, hT, List.drop_drop]
        congr 1
        omega
set_option maxRecDepth 10000 in
theorem cov_ok {d : List (List UInt8)} {h n2 e m q : Nat} {O : List UInt8} (hh : h ≤ 1) (hn : d.length / 2 = n2) (hO : O.length = (n2 - 1) * 256) (he : e ≤ O.length) (h2 : 0 < m → (q + m - 1) * 256 < e) : ∀ w ∈ (List.range m).map (coverE (h * n2 + 1) O q e), okW d w = true := by
  intro w hw
  obtain ⟨k, hk, rfl⟩ := List.mem_map.1 hw
  have hk := List.mem_range.1 hk
  have h2 := h2 (by omega)
  have h1 := mul_le1 (n := n2) hh
  have hx : (q + k) * 256 ≤ (q + m - 1) * 256 := Nat.mul_le_mul_right _ (by omega)
  have hx2 : q + k < n2 - 1 := by omega
  refine Bool.and_eq_true_iff.2 ⟨Bool.and_eq_true_iff.2 ⟨decide_eq_true (Int.natCast_nonneg _), decide_eq_true (Int.ofNat_lt.2 (by omega))⟩, decide_eq_true ?_⟩
  show (List.take _ _).length ≤ _
  rw [List.length_take]
  omega
set_option maxRecDepth 10000 in
/-- covering: the first bytes of it -/
theorem cover_part {d d1 : List (List UInt8)} {h a n : Nat} {b : List UInt8} (hv : validD d = true) (hh : h ≤ 1) (ha : a < (spaceD d h).length) (hb : 0 < b.length) (hv1 : validD d1 = true) (hl1 : d1.length = d.length) (hs : (spaceD d1 h).take a = (spaceD d h).take a) :
    bytesW (coverW (h * (d.length / 2) + 1) (spaceD d h) a b) = a + min b.length ((spaceD d h).length - a) - a / 256 * 256 ∧
    (∀ w ∈ coverW (h * (d.length / 2) + 1) (spaceD d h) a b, okW d w = true) ∧
    (n ≤ a + min b.length ((spaceD d h).length - a) - a / 256 * 256 → ∀ d', d' = applyAll d1 (part (coverW (h * (d.length / 2) + 1) (spaceD d h) a b) n) →
      validD d' = true ∧ d'.length = d.length ∧ (∀ p : Nat, p ≤ h * (d.length / 2) ∨ h * (d.length / 2) + d.length / 2 ≤ p → d'[p]? = d1[p]?) ∧ spaceD d' h = (overlay (spaceD d h) a b).take (a / 256 * 256 + n) ++ (spaceD d1 h).drop (a / 256 * 256 + n)) := by
  have hsl := space_len hv hh
  have hO : (overlay (spaceD d h) a b).length = (d.length / 2 - 1) * 256 := by rw [overlay_len (by omega), hsl]
  generalize hE : a + min b.length ((spaceD d h).length - a) = E
  have hE1 : E ≤ (overlay (spaceD d h) a b).length := by rw [hO]; omega
  have hEa : a < E := by omega
  unfold coverW
  rw [hE]
  refine ⟨cov_bytes hE1 _ _ (by omega) (fun _ => by omega), cov_ok hh rfl hO hE1 (fun _ => by omega), ?_⟩
  intro hn d' hd
  obtain ⟨r1, r2, r3, r4⟩ := cov_part hh hO hE1 _ _ n d1 hv1 (by rw [hl1]) (by omega) (by omega) (fun _ => by omega) (by
    have e1 : (spaceD d1 h).take (a / 256 * 256) = ((spaceD d1 h).take a).take (a / 256 * 256) := by rw [List.take_take, Nat.min_eq_left (by omega)]
    rw [e1, hs, List.take_take, Nat.min_eq_left (by omega)]
    unfold overlay
    rw [List.append_assoc, List.take_append_of_le_length (by rw [List.length_take]; omega), List.take_take, Nat.min_eq_left (by omega)]) hn d' hd
  exact ⟨r1, by rw [r2, hl1], r3, r4⟩
end Go.Fr.Try
