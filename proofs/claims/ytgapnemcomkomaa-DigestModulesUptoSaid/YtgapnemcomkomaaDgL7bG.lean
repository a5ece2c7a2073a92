/- Part of the proofs of the statements of this seat. -/
import Derived.Test.YtgapnemcomkomaaDgL7G
/- Digest: the walk through the statement on modules. -/
set_option linter.unusedVariables false
set_option linter.unusedSimpArgs false
namespace Go.Fr.Try
open Go Go.RowKit Go.Proofs Go.Fr Go.Fr.T Go.Fr.Api
theorem bulk_len {α : Type} {g : α → G} {l : List α} {n : Nat} (h : G.bulkAll (l.map g) ≤ n) : l.length ≤ n := Nat.le_trans (bulk_map l) h
theorem one_sz {c : List C} {n : Nat} (h : c.length = n) : ∀ es ∈ [c], es.length = n := by
  intro es he
  rcases List.mem_cons.1 he with rfl | he
  · exact h
  · cases he
theorem app1' {els : List (List C)} {c : List C} {sz by' : Nat} {K : Prop} (n : Nat) (hc : c.length = sz) (hn : els.length = n) (hb : by' ≤ 1024) (h : n ≤ 2 ^ 30) (k : K) : AppT els [c] sz by' K :=
  ⟨one_sz hc, by rw [hn]; simp only [List.length_cons, List.length_nil, maxLen]; omega, by
    rw [hn]
    simp only [List.length_cons, List.length_nil]
    exact Nat.le_trans (Nat.mul_le_mul (show n + (0 + 1) ≤ 2 ^ 31 by omega) hb) (by decide), k⟩
theorem take_snoc {α : Type} {l : List α} {k : Nat} {x : α} (hx : l[k]? = some x) : l.take (k + 1) = l.take k ++ [x] := by
  rw [List.take_add_one, hx]; rfl
set_option maxRecDepth 10000 in
theorem t7 (p : Prog) (m : Int) (other : Api.Data) (hp : p.g.bulk + other.g.bulk ≤ 1048576) : CallsT P 7 [.agg (progC p), IC m, .agg (dataC other)] [] (Ret [] (.bool true)) := by
  have e : p.g.bulk = 9 + G.bulkAll (p.modules.map .str) + G.bulkAll (p.uses.map fun l => .sl 1 (l.map I)) + G.bulkAll (p.datas.map Data.g) + G.bulkAll (p.traits.map .str) + G.bulkAll (p.homes.map I) + G.bulkAll (p.impls.map Impl.g) + G.bulkAll (p.funcs.map Fun.g) := by
    simp only [Prog.g, G.bulk, G.bulkAll]; omega
  have hns := names_of (q := p) (by omega)
  have ld := bulk_len (g := Data.g) (l := p.datas) (n := 1048576) (by omega)
  have lf := bulk_len (g := Fun.g) (l := p.funcs) (n := 1048576) (by omega)
  have li := bulk_len (g := Impl.g) (l := p.impls) (n := 1048576) (by omega)
  have bd : ∀ d ∈ p.datas, d.g.bulk ≤ 1048576 := fun d hd => by have := bulk_mem (g := Data.g) hd; omega
  have bf : ∀ f ∈ p.funcs, f.g.bulk ≤ 1048576 := fun d hd => by have := bulk_mem (g := Fun.g) hd; omega
  have z3 := fun h (name : ByteArray) hn => encModule_le (q := p) (name := name) (by omega) h hn m
  have hlaw := digM_shift p m other
  have hms := module_shift p m other
  have h22 := t22 p m
  have h22' := t22 (shP p m other) m
  have hmod : (shP p m other).modules = p.modules := rfl
  have hlen1 : (shP p m other).datas.length = p.datas.length + 1 := by simp [shP]
  have hlen2 : (shP p m other).funcs.length ≤ p.funcs.length := by
    have := of_len (fun f : Fun => f.module) m p.funcs
    simpa [shP] using this
  have hpc : progC (shP p m other) = [.sl (scs p.modules), .sl (p.uses.map fun l => [.sl (ics l)]), .sl ((other :: p.datas.map (shD p.datas.length)).map dataC), .sl (scs p.traits), .sl (ics p.homes), .sl (p.impls.map implC), .sl (((of' (fun f : Fun => f.module) m p.funcs).map (shF p.datas.length)).map funC), IC p.main] := rfl
  have himp : (shP p m other).impls = p.impls := rfl
  rw [hpc] at h22'
  rw [hmod, himp] at h22'
  have h26 := t26 (p.datas.length : Int)
  have h27 := t27s (p.datas.length : Int) (by omega)
  have h28 := t28' (p.datas.length : Int) (by omega)
  have h12 := t12 p
  have hlm : (p.datas.map dataC).length = p.datas.length := List.length_map _
  rw [← hlm] at h26 h27 h28
  generalize digM (shP p m other) m = D' at *
  generalize digM p m = D at *
  generalize hq : shP p m other = q at *
  clear hq
  generalize hsV : shV p.datas.length = sV at *
  generalize hsD : shD p.datas.length = sD at *
  generalize hsF : shF p.datas.length = sF at *
  have eV : ∀ v, sV v = { v with fields := v.fields.map (shT ((p.datas.map dataC).length : Int)) } := fun v => by rw [← hsV, hlm]; rfl
  have eD : ∀ d, sD d = { d with variants := d.variants.map sV } := fun v => by rw [← hsD, ← hsV]; rfl
  have eF : ∀ f, sF f = { f with blocks := [], locals := f.locals.map (shT ((p.datas.map dataC).length : Int)), result := shT ((p.datas.map dataC).length : Int) f.result } := fun v => by rw [← hsF, hlm]; rfl
  clear hsV hsD hsF
  rw [← hlm] at hlaw hms
  generalize hFT : FitT ((p.datas.map dataC).length : Int) = FT at *
  generalize hFTs : FitTs ((p.datas.map dataC).length : Int) = FTs at *
  have hft1 : ∀ t, FTs [t] → FT t := fun t h => by rw [← hFTs] at h; rw [← hFT]; exact h.1
  clear hFT hFTs
  generalize shT ((p.datas.map dataC).length : Int) = sT at *
  refine callsT_facts Try.func7 yfacts7 rfl fun hw _ => ?_
  have hwp := hw.1
  have w3 := z3 hwp
  refine callP t9 rfl fun _ => ?_
  refine callB h12 rfl fun b _ => ?_
  refine brn_split (fun _ => ?_) (fun _ => ?_)
  · exact retP rfl rfl
  refine brn_p (fun _ => ?_) (fun _ => ?_)
  · exact retP rfl rfl
  refine brn_p (fun _ => ?_) (fun _ => ?_)
  · exact retP rfl rfl
  refine brn_p (fun _ => ?_) (fun _ => ?_)
  · exact retP rfl rfl
  refine brn_p (fun _ => ?_) (fun hne => ?_)
  · exact retP rfl rfl
  refine brn_p (fun _ => ?_) (fun hni => ?_)
  · exact retP rfl rfl
  have himpl : p.impls = [] := by
    have : ¬ ((p.impls.map implC).length : Int) > 0 := hni
    rw [List.length_map] at this
    exact List.length_eq_zero_iff.1 (by omega)
  refine loopN p.datas.length 10 [] ([other] : List Api.Data) (fun _ => []) (fun s => [(3, .box 37 (progC p)), (5, .box 58 (dataC other)), (9, .box 37 [.sl (scs p.modules), .sl (p.uses.map fun l => [.sl (ics l)]), .rw 56, .sl (scs p.traits), .sl (ics p.homes), .sl (p.impls.map implC), .nils, IC p.main]), (56, .row 58 5 (s.map dataC))])
    (fun k s => s = other :: (p.datas.take k).map sD ∧ ∀ d ∈ p.datas.take k, ∀ v ∈ d.variants, FTs v.fields) ⟨rfl, by simp⟩ (same_keys rfl) trivial ⟨.inl ⟨_, rfl, .inl ⟨rfl, rfl⟩⟩, .inl ⟨_, rfl, .inl ⟨rfl, rfl⟩⟩, .inl ⟨_, rfl, .inl ⟨rfl, rfl⟩⟩, .inl ⟨_, rfl, .inl ⟨rfl, rfl⟩⟩, trivial⟩ (fun _ => rfl) (fun _ => rfl) ?_
  rintro k s hk ⟨hs, hfit⟩ _ _ _
  refine brn_p (fun hlt => ?_) (fun hge => ?_)
  · have hlt : k < p.datas.length := by simpa using hlt
    refine withGet hlt fun d hd hdm => ?_
    have bdd := bd d hdm
    have lv0 : G.bulkAll (d.variants.map Variant.g) ≤ d.g.bulk := by simp only [Data.g, G.bulk, G.bulkAll]; omega
    have lv : d.variants.length ≤ 1048576 := bulk_len (g := Variant.g) (by omega)
    have bv : ∀ v ∈ d.variants, G.bulkAll (v.fields.map Ty.g) ≤ 1048576 := fun v hv => by
      have h1 := bulk_mem (g := Variant.g) hv
      have h2 : G.bulkAll (d.variants.map Variant.g) ≤ d.g.bulk := by simp only [Data.g, G.bulk, G.bulkAll]; omega
      have h3 : G.bulkAll (v.fields.map Ty.g) ≤ v.g.bulk := by simp only [Variant.g, G.bulk, G.bulkAll]; omega
      omega
    refine idxT hd rfl rfl ?_
    refine loopN d.variants.length 12 [10] ([] : List Variant) (fun _ => [IC k]) (fun vs => [(3, .box 37 (progC p)), (5, .box 58 (dataC other)), (9, .box 37 [.sl (scs p.modules), .sl (p.uses.map fun l => [.sl (ics l)]), .rw 56, .sl (scs p.traits), .sl (ics p.homes), .sl (p.impls.map implC), .nils, IC p.main]), (11, .box 58 [.str d.name, IC d.module, IC d.params, .rw 104, IC d.drop]), (56, .row 58 5 (s.map dataC)), (104, .row 60 2 (vs.map variantC))])
      (fun j vs => vs = (d.variants.take j).map sV ∧ ∀ v ∈ d.variants.take j, FTs v.fields) ⟨rfl, by simp⟩ (same_keys rfl) ⟨same_keys rfl, trivial⟩ ⟨.inl ⟨_, rfl, .inl ⟨rfl, rfl⟩⟩, .inl ⟨_, rfl, .inl ⟨rfl, rfl⟩⟩, .inl ⟨_, rfl, .inl ⟨rfl, rfl⟩⟩, .inl ⟨_, rfl, .inr ⟨58, _, _, rfl, rfl, _, _, rfl, same_keys rfl, _, _, rfl, same_keys rfl, _, _, rfl, same_keys rfl, _, _, rfl, .inr (.inr (.inr (.inl ⟨rfl, 104, 60, 2, rfl, rfl, rfl⟩))), _, _, rfl, same_keys rfl, rfl⟩⟩, .inl ⟨_, rfl, .inl ⟨rfl, rfl⟩⟩, .inr ⟨rfl, 60, 2, rfl⟩, trivial⟩ (fun _ => rfl) (fun _ => rfl) ?_
    rintro j vs hj ⟨hvs, hfit2⟩ _ _ _
    refine idxT hd rfl rfl ?_
    refine brn_p (fun hlt2 => ?_) (fun hge2 => ?_)
    · have hlt2 : j < d.variants.length := by simpa using hlt2
      refine withGet hlt2 fun v hv hvm => ?_
      have hvl : (vs.map variantC).length = vs.length := List.length_map _
      have hvl2 : vs.length ≤ j := by rw [hvs, List.length_map, List.length_take]; omega
      refine idxT hd rfl rfl ?_
      refine idxT hv rfl rfl ?_
      refine callB (h26 v.fields) rfl fun b hb => ?_
      refine brn_split (fun _ => ?_) (fun h5 => ?_)
      · exact retP rfl rfl
      have h5 : b = true := by have : (!b) = false := h5; simpa using this
      refine callP (h27 v.fields (bv v hvm)) rfl fun _ => ?_
      refine app1' vs.length rfl hvl (by decide) (by omega) ?_
      refine Fit.in64 (by omega) (by omega) ?_
      refine ⟨(j + 1, vs ++ [sV v]), ⟨hlt2, ?_, ?_⟩, ⟨nextI, same_keys rfl, trivial⟩, ⟨.inl ⟨_, rfl, .inl ⟨rfl, rfl⟩⟩, .inl ⟨_, rfl, .inl ⟨rfl, rfl⟩⟩, .inl ⟨_, rfl, .inl ⟨rfl, rfl⟩⟩, .inl ⟨_, rfl, .inl ⟨rfl, rfl⟩⟩, .inl ⟨_, rfl, .inl ⟨rfl, rfl⟩⟩, .inl ⟨_, rfl, .inl ⟨?_, rfl⟩⟩, trivial⟩, nextM hlt2⟩
      · show vs ++ [sV v] = (d.variants.take (j + 1)).map sV
        rw [take_snoc hv, hvs]; simp
      · intro v' hv'
        have hv' : v' ∈ d.variants.take (j + 1) := hv'
        rw [take_snoc hv] at hv'
        rcases List.mem_append.1 hv' with h | h
        · exact hfit2 v' h
        · rw [List.mem_singleton.1 h]; exact hb h5
      · have e9 : vs.map variantC ++ [[.str v.name, .sl ((v.fields.map sT).map tyC)]] = (vs ++ [sV v]).map variantC := by rw [List.map_append, eV]; rfl
        exact congrArg (TO.row 60 2) e9
    have hge2 : ¬ j < d.variants.length := by simpa using hge2
    rw [List.take_of_length_le (by omega)] at hvs hfit2
    have hsl : (s.map dataC).length = s.length := List.length_map _
    have hsl2 : s.length ≤ k + 1 := by rw [hs, List.length_cons, List.length_map, List.length_take]; omega
    refine app1' s.length rfl hsl (by decide) (by omega) ?_
    refine Fit.in64 (by omega) (by omega) ?_
    refine ⟨(k + 1, s ++ [sD d]), ⟨hlt, ?_, ?_⟩, ⟨nextI, trivial⟩, ⟨.inl ⟨_, rfl, .inl ⟨rfl, rfl⟩⟩, .inl ⟨_, rfl, .inl ⟨rfl, rfl⟩⟩, .inl ⟨_, rfl, .inl ⟨rfl, rfl⟩⟩, .inl ⟨_, rfl, .inl ⟨?_, rfl⟩⟩, trivial⟩, nextM hlt⟩
    · show s ++ [sD d] = other :: (p.datas.take (k + 1)).map sD
      rw [take_snoc hd, hs]; simp
    · intro d' hd'
      have hd' : d' ∈ p.datas.take (k + 1) := hd'
      rw [take_snoc hd] at hd'
      rcases List.mem_append.1 hd' with h | h
      · exact hfit d' h
      · rw [List.mem_singleton.1 h]; exact hfit2
    · have e9 : s.map dataC ++ [[.str d.name, IC d.module, IC d.params, .sl (vs.map variantC), IC d.drop]] = (s ++ [sD d]).map dataC := by rw [List.map_append, eD, hvs]; rfl
      exact congrArg (TO.row 58 5) e9
  have hge : ¬ k < p.datas.length := by simpa using hge
  rw [List.take_of_length_le (by omega)] at hs hfit
  refine loopN p.funcs.length 14 [] ([] : List Fun) (fun _ => []) (fun fs => [(3, .box 37 (progC p)), (5, .box 58 (dataC other)), (9, .box 37 [.sl (scs p.modules), .sl (p.uses.map fun l => [.sl (ics l)]), .rw 56, .sl (scs p.traits), .sl (ics p.homes), .sl (p.impls.map implC), .rw 157, IC p.main]), (56, .row 58 5 (s.map dataC)), (157, .row 30 11 (fs.map funC))])
    (fun j fs => fs = (of' (fun f : Fun => f.module) m (p.funcs.take j)).map sF ∧ ∀ f ∈ p.funcs.take j, FTs f.locals ∧ FT f.result) ⟨rfl, by simp⟩ (same_keys rfl) trivial
    ⟨.inl ⟨_, rfl, .inl ⟨rfl, rfl⟩⟩, .inl ⟨_, rfl, .inl ⟨rfl, rfl⟩⟩, .inl ⟨_, rfl, .inr ⟨37, _, _, rfl, rfl, _, _, rfl, same_keys rfl, _, _, rfl, same_keys rfl, _, _, rfl, same_keys rfl, _, _, rfl, same_keys rfl, _, _, rfl, same_keys rfl, _, _, rfl, same_keys rfl, _, _, rfl, .inr (.inr (.inr (.inl ⟨rfl, 157, 30, 11, rfl, rfl, rfl⟩))), _, _, rfl, same_keys rfl, rfl⟩⟩, .inl ⟨_, rfl, .inl ⟨rfl, rfl⟩⟩, .inr ⟨rfl, 30, 11, rfl⟩, trivial⟩ (fun _ => rfl) (fun _ => rfl) ?_
  rintro j fs hj ⟨hfs, hfit2⟩ _ _ _
  refine brn_p (fun hlt => ?_) (fun hge2 => ?_)
  · have hlt : j < p.funcs.length := by simpa using hlt
    refine withGet hlt fun f hf hfm => ?_
    have bff := bf f hfm
    have hfb : f.g.bulk = 9 + f.name.size + G.bulkAll (f.bounds.map Bound.g) + f.result.g.bulk + G.bulkAll (f.locals.map Ty.g) + G.bulkAll (f.blocks.map Block.g) + G.bulkAll (f.ties.map I) := by
      simp only [Fun.g, G.bulk, G.bulkAll]; omega
    have hsl : (fs.map funC).length = fs.length := List.length_map _
    have hsl2 : fs.length ≤ j := by
      rw [hfs, List.length_map]
      exact Nat.le_trans (of_len _ _ _) (by rw [List.length_take]; omega)
    have hof : of' (fun f : Fun => f.module) m (p.funcs.take (j + 1)) = of' (fun f : Fun => f.module) m (p.funcs.take j) ++ of' (fun f : Fun => f.module) m [f] := by
      rw [take_snoc hf]; simp only [of', List.filter_append]
    refine idxT hf rfl rfl ?_
    refine callB (h26 f.locals) rfl fun b hb => ?_
    refine brn_split (fun _ => ?_) (fun h5 => ?_)
    · exact retP rfl rfl
    have h5 : b = true := by have : (!b) = false := h5; simpa using this
    refine callB (h26 [f.result]) (by simp only [List.map_cons, List.map_nil, tyC_eq]; rfl) fun b2 hb2 => ?_
    refine brn_split (fun _ => ?_) (fun h6 => ?_)
    · exact retP rfl rfl
    have h6 : b2 = true := by have : (!b2) = false := h6; simpa using this
    have hfit3 : ∀ f' ∈ p.funcs.take (j + 1), FTs f'.locals ∧ FT f'.result := by
      intro f' hf'
      rw [take_snoc hf] at hf'
      rcases List.mem_append.1 hf' with h | h
      · exact hfit2 f' h
      · rw [List.mem_singleton.1 h]; exact ⟨hb h5, hft1 _ (hb2 h6)⟩
    refine brn_p (fun hmm => ?_) (fun hmm => ?_)
    · refine callP (h27 f.locals (by omega)) rfl fun _ => ?_
      refine callP (h28 f.result (by omega)) rfl fun _ => ?_
      refine app1' fs.length rfl hsl (by decide) (by omega) ?_
      refine Fit.in64 (by omega) (by omega) ?_
      refine ⟨(j + 1, fs ++ [sF f]), ⟨hlt, ?_, hfit3⟩, ⟨nextI, trivial⟩, ⟨.inl ⟨_, rfl, .inl ⟨rfl, rfl⟩⟩, .inl ⟨_, rfl, .inl ⟨rfl, rfl⟩⟩, .inl ⟨_, rfl, .inl ⟨rfl, rfl⟩⟩, .inl ⟨_, rfl, .inl ⟨rfl, rfl⟩⟩, .inl ⟨_, rfl, .inl ⟨?_, rfl⟩⟩, trivial⟩, nextM hlt⟩
      · show fs ++ [sF f] = (of' (fun f : Fun => f.module) m (p.funcs.take (j + 1))).map sF
        rw [hof, of_pos (g := fun f : Fun => f.module) hmm, hfs]; simp [of']
      · have e9 : fs.map funC ++ [[.str f.name, IC f.module, IC f.params, .sl (f.bounds.map boundC), IC f.arity, IC (sT f.result).kind, IC (sT f.result).id, .sl ((sT f.result).args.map tyC), .sl ((f.locals.map sT).map tyC), .sl [], .sl (ics f.ties)]] = (fs ++ [sF f]).map funC := by rw [List.map_append, eF]; rfl
        exact congrArg (TO.row 30 11) e9
    · refine Fit.in64 (by omega) (by omega) ?_
      refine ⟨(j + 1, fs), ⟨hlt, ?_, hfit3⟩, ⟨nextI, trivial⟩, ⟨.inl ⟨_, rfl, .inl ⟨rfl, rfl⟩⟩, .inl ⟨_, rfl, .inl ⟨rfl, rfl⟩⟩, .inl ⟨_, rfl, .inl ⟨rfl, rfl⟩⟩, .inl ⟨_, rfl, .inl ⟨rfl, rfl⟩⟩, .inl ⟨_, rfl, .inl ⟨rfl, rfl⟩⟩, trivial⟩, nextM hlt⟩
      show fs = (of' (fun f : Fun => f.module) m (p.funcs.take (j + 1))).map sF
      rw [hof, of_neg (g := fun f : Fun => f.module) hmm, hfs]; simp [of']
  have hge2 : ¬ j < p.funcs.length := by simpa using hge2
  rw [List.take_of_length_le (by omega)] at hfs hfit2
  have hm2 := hms (fun h => hne h) himpl hfit hfit2
  have h22 := h22 (fun name hn => w3 name (hns.1 name (elem_mem hn))) (by omega) (by omega) (by omega)
  have h22' := h22' (fun name hn => by rw [hm2 name]; exact w3 name (hns.1 name (elem_mem hn))) (by omega) (by omega) (by omega)
  have hdd := hlaw (fun h => hne h) himpl hfit hfit2
  rw [← hs, ← hfs] at h22'
  refine callPD h22 rfl fun _ => ?_
  refine callPD h22' rfl fun _ => ?_
  have e9 : decide (D = D') = true := decide_eq_true hdd.symm
  exact retP rfl (congrArg C.bool e9)
end Go.Fr.Try
