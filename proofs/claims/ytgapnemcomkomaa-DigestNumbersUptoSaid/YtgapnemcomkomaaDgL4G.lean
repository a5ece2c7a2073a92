/- Part of the proofs of the statements of this seat. -/
import Derived.Test.YtgapnemcomkomaaDgR8G
import Derived.Test.YtgapnemcomkomaaDgCode7
import Derived.Test.YtgapnemcomkomaaDgT3G
import Derived.Test.YtgapnemcomkomaaDgCode29
import Derived.Test.YtgapnemcomkomaaDgR4G
/- Digest: small programs, how long the code of a module can be, and the statement on the reference implementation. -/
set_option linter.unusedVariables false
set_option linter.unusedSimpArgs false
namespace Go.Fr.Try
open Go Go.RowKit Go.Proofs Go.Fr Go.Fr.T Go.Fr.Api

theorem encVariant_le {po : Option Prog} (hn : Names po) (v : Variant) (h : WfS (variantC v)) (hs : v.name.size ≤ 1048576) : (encVariant po v).length ≤ 4194304 * v.g.bulk := by
  have w1 := encS_le (s := v.name) (by omega)
  have w2 := encL_le (e := encTy po) (g := Ty.g) (wf_lenM h.2.1) fun t ht => encTy_le hn t (wf_map h.2.1 t ht)
  simp only [encVariant, encSs, List.flatMap_cons, List.flatMap_nil, List.append_nil, List.length_append, Variant.g, G.bulk, G.bulkAll]
  omega
theorem bulk_mem {α : Type} {g : α → G} {x : α} : ∀ {l : List α}, x ∈ l → (g x).bulk ≤ G.bulkAll (l.map g)
  | y :: l, h => by
    simp only [List.map_cons, G.bulkAll]
    rcases List.mem_cons.1 h with rfl | h
    · omega
    · have := bulk_mem (g := g) h; omega
theorem encData_le {po : Option Prog} (hn : Names po) (d : Api.Data) (h : WfS (dataC d)) (hs : d.g.bulk ≤ 1048576) : (encData po d).length ≤ 4194304 * d.g.bulk := by
  have e : d.g.bulk = 6 + d.name.size + G.bulkAll (d.variants.map Variant.g) := by simp only [Data.g, G.bulk, G.bulkAll]; omega
  have w1 := encS_le (s := d.name) (by omega)
  have w2 := encI_le h.2.2.1
  have w3 := encI_le h.2.2.2.2.1
  have w4 := encL_le (e := encVariant po) (g := Variant.g) (wf_lenM h.2.2.2.1) fun v hv => encVariant_le hn v (wf_map h.2.2.2.1 v hv) (by
    have h1 := bulk_mem (g := Variant.g) hv
    have h2 : v.name.size ≤ v.g.bulk := by simp only [Variant.g, G.bulk, G.bulkAll]; omega
    omega)
  simp only [encData, encSs, encIs, List.flatMap_cons, List.flatMap_nil, List.append_nil, List.length_append]
  omega
theorem encImpl_le {q : Prog} (hn : Names (some q)) (x : Impl) (h : WfS (implC x)) : (encImpl q x).length ≤ 8388608 * x.g.bulk := by
  have ht : WfS (tyC x.type) := by
    rw [tyC_eq]
    exact ⟨h.2.2.2.2.1, h.2.2.2.2.2.1, h.2.2.2.2.2.2.1, trivial⟩
  have w1 := encTrait_le hn h.1
  have w2 := encI_le h.2.2.1
  have w3 := encL_le (e := encBound (some q)) (g := Bound.g) (wf_lenM h.2.2.2.1) fun b hb => encBound_le hn b (wf_map h.2.2.2.1 b hb)
  have w4 := encTy_le hn x.type ht
  have w5 : (fnameOf q x.func).size ≤ 1048576 := by
    unfold fnameOf
    cases e : elem q.funcs x.func with
    | none => decide
    | some f => exact hn.2.2.2 f (elem_mem e)
  have w6 := encS_le (s := fnameOf q x.func) (by omega)
  simp only [encImpl, encSs, encIs, List.flatMap_cons, List.flatMap_nil, List.append_nil, List.length_append, Impl.g, G.bulk, G.bulkAll]
  omega
theorem names_of {q : Prog} (h : q.g.bulk ≤ 1048576) : Names (some q) := by
  have e : q.g.bulk = 9 + G.bulkAll (q.modules.map .str) + G.bulkAll (q.uses.map fun l => .sl 1 (l.map I)) + G.bulkAll (q.datas.map Data.g) + G.bulkAll (q.traits.map .str) + G.bulkAll (q.homes.map I) + G.bulkAll (q.impls.map Impl.g) + G.bulkAll (q.funcs.map Fun.g) := by
    simp only [Prog.g, G.bulk, G.bulkAll]; omega
  refine ⟨fun s hs => ?_, fun s hs => ?_, fun d hd => ?_, fun f hf => ?_⟩
  · have := bulk_mem (g := G.str) hs; simp only [G.bulk] at this; omega
  · have := bulk_mem (g := G.str) hs; simp only [G.bulk] at this; omega
  · have h1 := bulk_mem (g := Data.g) hd
    have h2 : d.name.size ≤ d.g.bulk := by simp only [Data.g, G.bulk, G.bulkAll]; omega
    omega
  · have h1 := bulk_mem (g := Fun.g) hf
    have h2 : f.name.size ≤ f.g.bulk := by simp only [Fun.g, G.bulk, G.bulkAll]; omega
    omega
theorem encModule_le {q : Prog} (hb : q.g.bulk ≤ 1048576) (hw : WfS (progC q)) {name : ByteArray} (hname : name.size ≤ 1048576) (m : Int) : (encModule q name m).length ≤ 2 ^ 46 := by
  have hn := names_of hb
  have e : q.g.bulk = 9 + G.bulkAll (q.modules.map .str) + G.bulkAll (q.uses.map fun l => .sl 1 (l.map I)) + G.bulkAll (q.datas.map Data.g) + G.bulkAll (q.traits.map .str) + G.bulkAll (q.homes.map I) + G.bulkAll (q.impls.map Impl.g) + G.bulkAll (q.funcs.map Fun.g) := by
    simp only [Prog.g, G.bulk, G.bulkAll]; omega
  have l1 : q.datas.length ≤ 9223372036854775807 := wf_lenM hw.2.2.1
  have l2 : q.impls.length ≤ 9223372036854775807 := wf_lenM hw.2.2.2.2.2.1
  have l3 : q.funcs.length ≤ 9223372036854775807 := wf_lenM hw.2.2.2.2.2.2.1
  have w0 := encS_le (s := name) (by omega)
  have w1 := encL_le (e := encData (some q)) (g := Data.g) (l := q.datas.filter fun x => decide (x.module = m)) (W := 8388608) (by have := List.length_filter_le (fun x : Api.Data => decide (x.module = m)) q.datas; omega) fun d hd => by
    have hd := (List.mem_filter.1 hd).1
    have := bulk_mem (g := Data.g) hd
    have := encData_le hn d (wf_map hw.2.2.1 d hd) (by omega)
    omega
  have w2 := encL_le (e := encImpl q) (g := Impl.g) (l := q.impls.filter fun x => decide (x.module = m)) (by have := List.length_filter_le (fun x : Impl => decide (x.module = m)) q.impls; omega) fun d hd => encImpl_le hn d (wf_map hw.2.2.2.2.2.1 d (List.mem_filter.1 hd).1)
  have w3 := encL_le (e := encSig (some q)) (g := Fun.g) (l := q.funcs.filter fun x => decide (x.module = m)) (W := 8388608) (by have := List.length_filter_le (fun x : Fun => decide (x.module = m)) q.funcs; omega) fun d hd => by
    have hd := (List.mem_filter.1 hd).1
    have := encSig_le hn d (wf_map hw.2.2.2.2.2.2.1 d hd) (hn.2.2.2 d hd)
    omega
  have b1 := bulk_filter Data.g (fun x : Api.Data => decide (x.module = m)) q.datas
  have b2 := bulk_filter Impl.g (fun x : Impl => decide (x.module = m)) q.impls
  have b3 := bulk_filter Fun.g (fun x : Fun => decide (x.module = m)) q.funcs
  simp only [encModule, encSs, List.flatMap_cons, List.flatMap_nil, List.append_nil, List.length_append]
  omega

set_option maxRecDepth 10000 in
theorem t12 (q : Prog) : CallsT P 12 [.agg (progC q)] [] (Such True) := by
  have h31 := t31'
  have h11 := t11
  generalize few = fw at h31
  refine callsT_facts Try.func12 facts12 rfl fun hw _ => ?_
  have hw := hw.1
  have l1 : q.datas.length ≤ 9223372036854775807 := wf_lenM hw.2.2.1
  have l3 : q.funcs.length ≤ 9223372036854775807 := wf_lenM hw.2.2.2.2.2.2.1
  refine brn_p (fun _ => ?_) (fun _ => ?_)
  · exact retB false rfl rfl (fun _ => trivial)
  refine brn_p (fun _ => ?_) (fun _ => ?_)
  · exact retB false rfl rfl (fun _ => trivial)
  refine brn_p (fun _ => ?_) (fun _ => ?_)
  · exact retB false rfl rfl (fun _ => trivial)
  refine loopN q.datas.length 3 [] () (fun _ => []) (fun _ => [(1, .box 37 (progC q))]) (fun _ _ => True) trivial (same_keys rfl) trivial ⟨.inl ⟨_, rfl, .inl ⟨rfl, rfl⟩⟩, trivial⟩ (fun _ => rfl) (fun _ => rfl) ?_
  rintro k _ hk _ _ _ _
  refine brn_p (fun hlt => ?_) (fun hge => ?_)
  · have hlt : k < q.datas.length := by simpa using hlt
    refine withGet hlt fun d hd hdm => ?_
    have hwd := wf_map hw.2.2.1 d hdm
    have lv : d.variants.length ≤ 9223372036854775807 := wf_lenM hwd.2.2.2.1
    refine idxT hd rfl rfl ?_
    refine brn_p (fun _ => ?_) (fun _ => ?_)
    · exact retB false rfl rfl (fun _ => trivial)
    refine loopN d.variants.length 4 [3] () (fun _ => [IC k]) (fun _ => [(1, .box 37 (progC q))]) (fun _ _ => True) trivial (same_keys rfl) ⟨same_keys rfl, trivial⟩ ⟨.inl ⟨_, rfl, .inl ⟨rfl, rfl⟩⟩, trivial⟩ (fun _ => rfl) (fun _ => rfl) ?_
    rintro j _ hj _ _ _ _
    refine idxT hd rfl rfl ?_
    refine brn_p (fun hlt' => ?_) (fun hge => ?_)
    · have hlt' : j < d.variants.length := by simpa using hlt'
      refine withGet hlt' fun v hv hvm => ?_
      have lf : v.fields.length ≤ 9223372036854775807 := wf_lenM (wf_map hwd.2.2.2.1 v hvm).2.1
      refine idxT hd rfl rfl ?_
      refine idxT hv rfl rfl ?_
      refine brn_p (fun _ => ?_) (fun _ => ?_)
      · exact retB false rfl rfl (fun _ => trivial)
      refine loopN v.fields.length 6 [3, 4, 5] () (fun _ => [IC k, IC j, .sl (v.fields.map tyC)]) (fun _ => [(1, .box 37 (progC q))]) (fun _ _ => True) trivial (same_keys rfl) ⟨same_keys rfl, same_keys rfl, same_keys rfl, trivial⟩ ⟨.inl ⟨_, rfl, .inl ⟨rfl, rfl⟩⟩, trivial⟩ (fun _ => rfl) (fun _ => rfl) ?_
      rintro i _ hi _ _ _ _
      refine brn_p (fun hlt2 => ?_) (fun hge => ?_)
      · have hlt2 : i < v.fields.length := by simpa using hlt2
        refine withGet hlt2 fun t ht _ => ?_
        refine idxTy ht ?_
        refine callP (h31 t) rfl fun _ => ?_
        refine brn_p (fun _ => ?_) (fun _ => ?_)
        · exact retB false rfl rfl (fun _ => trivial)
        refine Fit.in64 (by omega) (by omega) ?_
        exact ⟨(i + 1, ()), ⟨hlt2, trivial⟩, ⟨nextI, same_keys rfl, same_keys rfl, same_keys rfl, trivial⟩, ⟨.inl ⟨_, rfl, .inl ⟨rfl, rfl⟩⟩, trivial⟩, nextM hlt2⟩
      refine Fit.in64 (by omega) (by omega) ?_
      exact ⟨(j + 1, ()), ⟨hlt', trivial⟩, ⟨nextI, same_keys rfl, trivial⟩, ⟨.inl ⟨_, rfl, .inl ⟨rfl, rfl⟩⟩, trivial⟩, nextM hlt'⟩
    refine Fit.in64 (by omega) (by omega) ?_
    exact ⟨(k + 1, ()), ⟨hlt, trivial⟩, ⟨nextI, trivial⟩, ⟨.inl ⟨_, rfl, .inl ⟨rfl, rfl⟩⟩, trivial⟩, nextM hlt⟩
  refine loopN q.funcs.length 7 [] () (fun _ => []) (fun _ => [(1, .box 37 (progC q))]) (fun _ _ => True) trivial (same_keys rfl) trivial ⟨.inl ⟨_, rfl, .inl ⟨rfl, rfl⟩⟩, trivial⟩ (fun _ => rfl) (fun _ => rfl) ?_
  rintro k _ hk _ _ _ _
  refine brn_p (fun hlt => ?_) (fun hge => ?_)
  · have hlt : k < q.funcs.length := by simpa using hlt
    refine withGet hlt fun f hf _ => ?_
    refine idxT hf rfl rfl ?_
    refine callB (h11 f) rfl fun b _ => ?_
    refine brn_split (fun _ => ?_) (fun _ => ?_)
    · exact retB false rfl rfl (fun _ => trivial)
    refine Fit.in64 (by omega) (by omega) ?_
    exact ⟨(k + 1, ()), ⟨hlt, trivial⟩, ⟨nextI, trivial⟩, ⟨.inl ⟨_, rfl, .inl ⟨rfl, rfl⟩⟩, trivial⟩, nextM hlt⟩
  exact retB true rfl rfl (fun _ => trivial)
set_option maxRecDepth 10000 in
theorem t23 (q : Prog) (m : Int) (hb : (encModule q (nm q.modules m) m).length ≤ 2 ^ 46) : CallsT P 23 [.agg (progC q), IC m] [] (Ret [] (.int .i64 (digM q m))) := by
  have h69 := (t69 q m hb).give
  have hlm : (scs q.modules).length = q.modules.length := by simp [scs]
  unfold digM
  cases hn : elem q.modules m with
  | none =>
    have h := elem_none hn
    rw [← hlm] at h
    simp only []
    refine callsT_facts Try.func23 facts23 rfl fun hw _ => ?_
    refine brn_p (fun _ => ?_) (fun h1 => ?_)
    · exact retP rfl rfl
    refine brn_p (fun _ => ?_) (fun h2 => (by omega : False).elim)
    exact retP rfl rfl
  | some name =>
    have h := elem_some hn
    rw [← hlm] at h
    have e : nm q.modules m = name := by simp [nm, hn]
    rw [e] at h69
    simp only []
    generalize encModule q name m = code at *
    refine callsT_facts Try.func23 facts23 rfl fun hw _ => ?_
    refine brn_p (fun h1 => (by omega : False).elim) (fun h1 => ?_)
    refine brn_p (fun h1 => (by omega : False).elim) (fun h2 => ?_)
    refine callP h69 rfl fun _ => ?_
    refine callP (t16 code) rfl fun _ => ?_
    exact retP rfl rfl
set_option maxRecDepth 10000 in
theorem t3 (bs : List UInt8) (l : List Int) (t : Ty) (f : Fun) (q : Prog) (m : Int) (ht : t.g.bulk ≤ 1048576) (hf : f.g.bulk ≤ 1048576) (hq : q.g.bulk ≤ 1048576) :
    CallsT P 3 [.sl (bcells bs), .sl (ics l), .agg (tyC t), .agg (funC f), .agg (progC q), IC m] [] (Ret [] (.bool true)) := by
  have h10 := t10
  have h11 := t11
  have h12 := t12 q
  have h13 := t13 f
  have h14 := t14 f
  have h15 := t15 bs
  have h16 := t16 bs
  have h17 := t17 l
  have h18 := t18 l
  have h20 := t20 t
  have h21 := fun h => (t21 t h).give
  have h22 := t22 q m
  have h23 := t23 q m
  have hname : f.name.size ≤ 1048576 := by
    have : f.name.size + 1 ≤ f.g.bulk := by simp only [Fun.g, G.bulk, G.bulkAll]; omega
    omega
  have z1 := fun h => encFun_le (po := none) trivial f h hname
  have z2 := encTy_le (po := none) trivial t
  have z3 := fun h (name : ByteArray) hn => encModule_le (name := name) hq h hn m
  have hns := (names_of hq).1
  have b1 : q.datas.length ≤ 2 ^ 30 ∧ q.impls.length ≤ 2 ^ 30 ∧ q.funcs.length ≤ 2 ^ 30 := by
    have e : q.g.bulk = 9 + G.bulkAll (q.modules.map .str) + G.bulkAll (q.uses.map fun l => .sl 1 (l.map I)) + G.bulkAll (q.datas.map Data.g) + G.bulkAll (q.traits.map .str) + G.bulkAll (q.homes.map I) + G.bulkAll (q.impls.map Impl.g) + G.bulkAll (q.funcs.map Fun.g) := by
      simp only [Prog.g, G.bulk, G.bulkAll]; omega
    have a1 := bulk_map (f := Data.g) q.datas
    have a2 := bulk_map (f := Impl.g) q.impls
    have a3 := bulk_map (f := Fun.g) q.funcs
    omega
  have h19 := t19 (encTy none t) (encTy none t)
  rw [decide_eq_true (rfl : encTy none t = encTy none t)] at h19
  rw [tyC_eq] at *
  generalize smallL = sm at *
  generalize foldN (bytesN bs) = S at *
  generalize foldN (l.map modN) = J at *
  generalize encTy none t = ct at *
  generalize foldN (bytesN (encSig none f)) = S1 at *
  generalize digM q m = D at *
  generalize hff : encFun none f = ff at *
  generalize foldN (bytesN ff) = S2 at *
  refine callsT_facts Try.func3 facts3 rfl fun hw _ => ?_
  have w1 : ff.length ≤ 2 ^ 46 := by have := z1 hw.2.2.2.1; omega
  have w2 : ct.length ≤ 2 ^ 46 := by have := z2 hw.2.2.1; omega
  have w3 := z3 hw.2.2.2.2.1
  have li : q.impls.length ≤ 9223372036854775807 := by have := b1.2.1; omega
  have h13 := h13 w1
  have h14 := h14 w1
  have h20 := h20 w2
  have h21 := h21 w2
  have h22 := h22 (fun name hn => w3 name (hns name (elem_mem hn))) b1.1 b1.2.1 b1.2.2
  have h23 := h23 (w3 _ (nm_le hns m))
  refine callP t9 rfl fun _ => ?_
  refine brn_p (fun _ => ?_) (fun _ => ?_)
  · exact retP rfl rfl
  refine brn_p (fun _ => ?_) (fun _ => ?_)
  · exact retP rfl rfl
  refine callP (h10 [t]) (by simp only [List.map_cons, List.map_nil, tyC_eq]; rfl) fun _ => ?_
  refine brn_split (fun _ => ?_) (fun _ => ?_)
  · exact retP rfl rfl
  refine callB (h11 f) rfl fun b _ => ?_
  refine brn_split (fun _ => ?_) (fun _ => ?_)
  · exact retP rfl rfl
  refine callB h12 rfl fun b _ => ?_
  refine brn_split (fun _ => ?_) (fun _ => ?_)
  · exact retP rfl rfl
  refine brn_p (fun _ => ?_) (fun _ => ?_)
  · exact retP rfl rfl
  refine brn_p (fun _ => ?_) (fun _ => ?_)
  · exact retP rfl rfl
  refine loopN q.impls.length 14 [] () (fun _ => []) (fun _ => [(8, .box 26 [IC t.kind, IC t.id, .sl (t.args.map tyC)]), (9, .box 30 (funC f)), (10, .box 37 (progC q))]) (fun _ _ => True) trivial (same_keys rfl) trivial ⟨.inl ⟨_, rfl, .inl ⟨rfl, rfl⟩⟩, .inl ⟨_, rfl, .inl ⟨rfl, rfl⟩⟩, .inl ⟨_, rfl, .inl ⟨rfl, rfl⟩⟩, trivial⟩ (fun _ => rfl) (fun _ => rfl) ?_
  rintro k _ hk _ _ _ _
  refine brn_p (fun hlt => ?_) (fun hge => ?_)
  · have hlt : k < q.impls.length := by simpa using hlt
    refine withGet hlt fun x hx _ => ?_
    refine idxT hx rfl rfl ?_
    refine callP (h10 [x.type]) (by simp only [List.map_cons, List.map_nil, tyC_eq]; rfl) fun _ => ?_
    refine brn_split (fun _ => ?_) (fun _ => ?_)
    · exact retP rfl rfl
    refine idxT hx rfl rfl ?_
    refine brn_p (fun _ => ?_) (fun _ => ?_)
    · exact retP rfl rfl
    refine Fit.in64 (by omega) (by omega) ?_
    exact ⟨(k + 1, ()), ⟨hlt, trivial⟩, ⟨nextI, trivial⟩, ⟨.inl ⟨_, rfl, .inl ⟨rfl, rfl⟩⟩, .inl ⟨_, rfl, .inl ⟨rfl, rfl⟩⟩, .inl ⟨_, rfl, .inl ⟨rfl, rfl⟩⟩, trivial⟩, nextM hlt⟩
  refine callP h13 rfl fun _ => ?_
  refine callP h14 rfl fun _ => ?_
  refine callPD h15 rfl fun _ => ?_
  refine callPD h16 rfl fun _ => ?_
  refine brn_p (fun _ => ?_) (fun h => (h rfl).elim)
  refine callPD h17 rfl fun _ => ?_
  refine callPD h18 rfl fun _ => ?_
  refine brn_p (fun _ => ?_) (fun h => (h rfl).elim)
  refine callPD h20 rfl fun _ => ?_
  refine callPD h21 rfl fun _ => ?_
  refine callPD h19 rfl fun _ => ?_
  refine brn_p (fun _ => ?_) (fun h => (h rfl).elim)
  refine brn_p (fun _ => ?_) (fun h => (h rfl).elim)
  refine callPD h22 rfl fun _ => ?_
  refine callPD h23 rfl fun _ => ?_
  have e9 : decide (D = D) = true := decide_eq_true rfl
  exact retP rfl (congrArg C.bool e9)
end Go.Fr.Try

/- Digest: types whose numbers of data types are shifted. -/
set_option linter.unusedVariables false
set_option linter.unusedSimpArgs false
namespace Go.Fr.Try
open Go Go.RowKit Go.Proofs Go.Fr Go.Fr.T Go.Fr.Api

mutual
def shT (n : Int) : Ty → Ty
  | .mk k i l => .mk k (if k = 2 ∧ 0 ≤ i ∧ i < n then i + 1 else i) (shTs n l)
def shTs (n : Int) : List Ty → List Ty
  | [] => []
  | t :: l => shT n t :: shTs n l
end
theorem shTs_map (n : Int) : ∀ l : List Ty, shTs n l = l.map (shT n)
  | [] => rfl
  | t :: l => by rw [shTs, shTs_map n l]; rfl
mutual
def FitT (n : Int) : Ty → Prop
  | .mk k i l => (k = 2 → 0 ≤ i ∧ i < n) ∧ FitTs n l
def FitTs (n : Int) : List Ty → Prop
  | [] => True
  | t :: l => FitT n t ∧ FitTs n l
end
theorem fitTs_iff (n : Int) : ∀ l : List Ty, FitTs n l ↔ ∀ t ∈ l, FitT n t
  | [] => by simp [FitTs]
  | t :: l => by simp [FitTs, fitTs_iff n l]
theorem fitT_iff (n : Int) (t : Ty) : FitT n t ↔ (t.kind = 2 → 0 ≤ t.id ∧ t.id < n) ∧ FitTs n t.args := by
  cases t; simp only [FitT, Ty.kind, Ty.id, Ty.args]
set_option maxRecDepth 10000 in
theorem t26 (n : Int) (l : List Ty) : CallsT P 26 [.sl (l.map tyC), IC n] [] (Such (FitTs n l)) := by
  have ih : ∀ x ∈ l, CallsT P 26 [.sl (x.args.map tyC), IC n] [] (Such (FitTs n x.args)) := fun x hx => t26 n x.args
  have hfi := fitTs_iff n l
  have hf1 := fitT_iff n
  generalize FitT n = FT at *
  generalize FitTs n = FTs at *
  refine callsT_facts Try.func26 facts26 rfl fun hw _ => ?_
  have hlen : l.length ≤ 9223372036854775807 := wf_lenT hw.1
  refine loopN l.length 5 [] () (fun _ => []) (fun _ => []) (fun k _ => ∀ t ∈ l.take k, FT t) (by simp) (same_keys rfl) trivial trivial (fun _ => rfl) (fun _ => rfl) ?_
  rintro k _ hk hinv _ _ _
  refine brn_p (fun hlt => ?_) (fun hge => ?_)
  · have hlt : k < l.length := by simpa using hlt
    refine withGet hlt fun x hx hxm => ?_
    have hstep : FT x → ∀ t ∈ l.take (k + 1), FT t := by
      intro h t ht
      rw [List.take_add_one, hx] at ht
      simp only [List.mem_append, Option.toList_some, List.mem_singleton] at ht
      rcases ht with ht | rfl
      · exact hinv t ht
      · exact h
    have ihx := ih x hxm
    have hfx := hf1 x
    refine idxTy hx ?_
    refine brn_p (fun h2 => ?_) (fun h2 => ?_)
    · refine idxTy hx ?_
      refine brn_p (fun h3 => ?_) (fun h3 => ?_)
      · exact retB false rfl rfl (fun h => by cases h)
      refine idxTy hx ?_
      refine brn_p (fun h4 => ?_) (fun h4 => ?_)
      · exact retB false rfl rfl (fun h => by cases h)
      refine idxTy hx ?_
      refine callB ihx rfl fun b hb => ?_
      refine brn_split (fun h5 => ?_) (fun h5 => ?_)
      · exact retB false rfl rfl (fun h => by cases h)
      have h5 : b = true := by have : (!b) = false := h5; simpa using this
      refine Fit.in64 (by omega) (by omega) ?_
      exact ⟨(k + 1, ()), ⟨hlt, hstep (hfx.2 ⟨fun _ => ⟨by omega, by omega⟩, hb h5⟩)⟩, ⟨nextI, trivial⟩, trivial, nextM hlt⟩
    · refine idxTy hx ?_
      refine callB ihx rfl fun b hb => ?_
      refine brn_split (fun h5 => ?_) (fun h5 => ?_)
      · exact retB false rfl rfl (fun h => by cases h)
      have h5 : b = true := by have : (!b) = false := h5; simpa using this
      refine Fit.in64 (by omega) (by omega) ?_
      exact ⟨(k + 1, ()), ⟨hlt, hstep (hfx.2 ⟨fun h => absurd h h2, hb h5⟩)⟩, ⟨nextI, trivial⟩, trivial, nextM hlt⟩
  · have hge : ¬ k < l.length := by simpa using hge
    rw [List.take_of_length_le (by omega)] at hinv
    exact retB true rfl rfl (fun _ => hfi.2 hinv)
termination_by SizeOf.sizeOf l
decreasing_by
  have h1 := List.sizeOf_lt_of_mem hx
  cases x with
  | mk k i a =>
    simp only [Ty.args]
    simp only [Ty.mk.sizeOf_spec] at h1
    omega
theorem rowF {a b : List (List C)} (h : a = b) : C.sl a = C.sl b := by rw [h]
set_option maxRecDepth 10000 in
theorem t27 (n : Int) (l : List Ty) (f : Ty → Ty) (hl : l.length ≤ 2 ^ 30) (ih : ∀ x ∈ l, CallsT P 28 [.agg [IC x.kind, IC x.id, .sl (x.args.map tyC)], IC n] [] (Ret [] (.agg [IC (f x).kind, IC (f x).id, .sl ((f x).args.map tyC)]))) : CallsT P 27 [.sl (l.map tyC), IC n] [] (Ret [] (.sl ((l.map f).map tyC))) := by
  refine callsT_facts Try.func27 facts27 rfl fun hw _ => ?_
  refine loopN l.length 6 [5] ([] : List Ty) (fun _ => [.rw 21]) (fun s => [(21, .row 26 3 (s.map tyC))]) (fun k s => s = (l.take k).map f) (by simp) (same_keys rfl) ⟨.inr (.inr (.inr (.inl ⟨rfl, 21, 26, 3, rfl, rfl, rfl⟩))), trivial⟩
    ⟨.inr ⟨rfl, 26, 3, rfl⟩, trivial⟩ (fun _ => rfl) (fun _ => rfl) ?_
  rintro k s hk hinv _ _ _
  refine brn_p (fun hlt => ?_) (fun hge => ?_)
  · have hlt : k < l.length := by simpa using hlt
    refine withGet hlt fun x hx hxm => ?_
    have hs : s.length ≤ k := by rw [hinv, List.length_map, List.length_take]; omega
    refine idxTy hx ?_
    refine callP (ih x hxm) rfl fun _ => ?_
    refine AppT.mk ?_ ?_ ?_ ?_
    · intro es he
      rcases List.mem_cons.1 he with rfl | he
      · rfl
      · cases he
    · show (s.map tyC).length + 1 ≤ maxLen
      rw [List.length_map]; simp only [maxLen]; omega
    · show ((s.map tyC).length + 1) * 40 ≤ _
      rw [List.length_map]; omega
    refine Fit.in64 (by omega) (by omega) ?_
    refine ⟨(k + 1, s ++ [f x]), ⟨hlt, ?_⟩, ⟨nextI, same_keys rfl, trivial⟩, ⟨.inl ⟨_, rfl, .inl ⟨?_, rfl⟩⟩, trivial⟩, nextM hlt⟩
    · show s ++ [f x] = (l.take (k + 1)).map f
      rw [List.take_add_one, hx, hinv]; simp
    · have e9 : s.map tyC ++ [[IC (f x).kind, IC (f x).id, .sl ((f x).args.map tyC)]] = (s ++ [f x]).map tyC := by rw [List.map_append, ← tyC_eq]; rfl
      exact congrArg (TO.row 26 3) e9
  · have hge : ¬ k < l.length := by simpa using hge
    rw [List.take_of_length_le (by omega)] at hinv
    have e9 : s.map tyC = (l.map f).map tyC := by rw [hinv]
    exact retF [21] [] ⟨_, [], rfl, rfl, rfl, rfl, rowF e9⟩
theorem sz_args {x : Ty} : x.args.length ≤ x.g.bulk := by
  cases x with
  | mk k i l =>
    have := bulk_map (f := Ty.g) l
    simp only [Ty.args, Ty.g, G.bulk, G.bulkAll, Ty.gs_map]
    omega
set_option maxRecDepth 10000 in
theorem t28' (n : Int) (hn : n ≤ 2 ^ 30) : ∀ (t : Ty), t.g.bulk ≤ 1048576 → CallsT P 28 [.agg [IC t.kind, IC t.id, .sl (t.args.map tyC)], IC n] [] (Ret [] (.agg [IC (shT n t).kind, IC (shT n t).id, .sl ((shT n t).args.map tyC)]))
  | .mk k i l, hb => by
    have hbl : (Ty.g (.mk k i l)).bulk = 4 + G.bulkAll (l.map Ty.g) := by simp only [Ty.g, G.bulk, G.bulkAll, Ty.gs_map]; omega
    have hll := sz_args (x := .mk k i l)
    simp only [Ty.args] at hll
    have h27 := t27 n l (shT n) (by omega) (fun x hx => t28' n hn x (by have := bulk_mem (g := Ty.g) hx; omega))
    rw [shT, shTs_map]
    simp only [Ty.kind, Ty.id, Ty.args]
    generalize l.map (shT n) = l' at *
    refine callsT_facts Try.func28 facts28 rfl fun hw _ => ?_
    refine callPD h27 rfl fun _ => ?_
    refine brn_p (fun h1 => ?_) (fun h1 => ?_)
    · refine brn_p (fun h2 => ?_) (fun h2 => ?_)
      · refine brn_p (fun h3 => ?_) (fun h3 => ?_)
        · refine Fit.in64 (by omega) (by omega) ?_
          have e : i + 1 = (if k = 2 ∧ 0 ≤ i ∧ i < n then i + 1 else i) := by rw [if_pos ⟨h1, by omega, h3⟩]
          exact retP rfl (congrArg (fun z => C.agg [IC k, IC z, .sl (l'.map tyC)]) e)
        · have e : i = (if k = 2 ∧ 0 ≤ i ∧ i < n then i + 1 else i) := by rw [if_neg (fun h => h3 h.2.2)]
          exact retP rfl (congrArg (fun z => C.agg [IC k, IC z, .sl (l'.map tyC)]) e)
      · have e : i = (if k = 2 ∧ 0 ≤ i ∧ i < n then i + 1 else i) := by rw [if_neg (fun h => h2 h.2.1)]
        exact retP rfl (congrArg (fun z => C.agg [IC k, IC z, .sl (l'.map tyC)]) e)
    · have e : i = (if k = 2 ∧ 0 ≤ i ∧ i < n then i + 1 else i) := by rw [if_neg (fun h => h1 h.1)]
      exact retP rfl (congrArg (fun z => C.agg [IC k, IC z, .sl (l'.map tyC)]) e)
termination_by t => SizeOf.sizeOf t
decreasing_by
  have := List.sizeOf_lt_of_mem hx
  simp only [Ty.mk.sizeOf_spec]
  omega
theorem t27s (n : Int) (hn : n ≤ 2 ^ 30) (l : List Ty) (hb : G.bulkAll (l.map Ty.g) ≤ 1048576) : CallsT P 27 [.sl (l.map tyC), IC n] [] (Ret [] (.sl ((l.map (shT n)).map tyC))) :=
  t27 n l (shT n) (by have := bulk_map (f := Ty.g) l; omega) (fun x hx => t28' n hn x (by have := bulk_mem (g := Ty.g) hx; omega))
end Go.Fr.Try

/- Digest: the statement on modules. -/
set_option linter.unusedVariables false
set_option linter.unusedSimpArgs false
namespace Go.Fr.Try
open Go Go.RowKit Go.Proofs Go.Fr Go.Fr.T Go.Fr.Api

def shV (n : Int) (v : Variant) : Variant := { v with fields := v.fields.map (shT n) }
def shD (n : Int) (d : Api.Data) : Api.Data := { d with variants := d.variants.map (shV n) }
def shF (n : Int) (f : Fun) : Fun := { f with blocks := [], locals := f.locals.map (shT n), result := shT n f.result }
def shP (p : Prog) (m : Int) (other : Api.Data) : Prog := { p with datas := other :: p.datas.map (shD p.datas.length), funcs := (of' (fun f : Fun => f.module) m p.funcs).map (shF p.datas.length) }
theorem elem_shift (p : Prog) (m : Int) (other : Api.Data) {i : Int} (h0 : 0 ≤ i) (h1 : i < p.datas.length) : ∃ d, elem p.datas i = some d ∧ elem (shP p m other).datas (i + 1) = some (shD p.datas.length d) := by
  have hlt : i.toNat < p.datas.length := by omega
  refine ⟨p.datas[i.toNat], ?_, ?_⟩
  · unfold elem
    rw [if_neg (by omega), List.getElem?_eq_getElem hlt]
  · unfold elem
    rw [if_neg (by omega), show (i + 1).toNat = i.toNat + 1 by omega]
    simp only [shP, List.getElem?_cons_succ, List.getElem?_map, List.getElem?_eq_getElem hlt, Option.map_some]
theorem encL_map {α β : Type} (e : β → List UInt8) (f : α → β) (e' : α → List UInt8) (l : List α) (h : ∀ x ∈ l, e (f x) = e' x) : encL e (l.map f) = encL e' l := by
  have : (l.map f).flatMap e = l.flatMap e' := by
    induction l with
    | nil => rfl
    | cons x l ih => simp only [List.map_cons, List.flatMap_cons, h x (by simp), ih fun y hy => h y (by simp [hy])]
  simp only [encL, List.length_map, this]
theorem encTy_shift (p : Prog) (m : Int) (other : Api.Data) : ∀ t : Ty, FitT p.datas.length t → encTy (some (shP p m other)) (shT p.datas.length t) = encTy (some p) t
  | .mk k i l, h => by
    rw [FitT, fitTs_iff] at h
    have ih : ∀ x ∈ l, encTy (some (shP p m other)) (shT p.datas.length x) = encTy (some p) x := fun x hx => encTy_shift p m other x (h.2 x hx)
    rw [encTy_eq, encTy_eq, shT, shTs_map]
    simp only [Ty.kind, Ty.id, Ty.args]
    rw [encL_map _ _ _ _ ih]
    congr 2
    by_cases h2 : k = 2
    · obtain ⟨h0, h1⟩ := h.1 h2
      obtain ⟨d, e1, e2⟩ := elem_shift p m other h0 h1
      rw [if_pos ⟨h2, h0, h1⟩, two_of h2 e1, two_of h2 e2]
      rfl
    · rw [if_neg (fun h => h2 h.1)]
      simp [encName, h2]
termination_by t => SizeOf.sizeOf t
decreasing_by
  have := List.sizeOf_lt_of_mem hx
  simp only [Ty.mk.sizeOf_spec]
  omega
theorem encSig_shift (p : Prog) (m : Int) (other : Api.Data) (f : Fun) (hl : FitTs p.datas.length f.locals) (hr : FitT p.datas.length f.result) : encSig (some (shP p m other)) (shF p.datas.length f) = encSig (some p) f := by
  rw [fitTs_iff] at hl
  have ha : argsOf (shF p.datas.length f) = (argsOf f).map (shT p.datas.length) := by
    simp only [argsOf, shF, List.length_map, List.map_take]
  have e1 : encL (encTy (some (shP p m other))) ((argsOf f).map (shT p.datas.length)) = encL (encTy (some p)) (argsOf f) := encL_map _ _ _ _ fun x hx => encTy_shift p m other x (hl x (List.mem_of_mem_take hx))
  have e2 : encTy (some (shP p m other)) (shF p.datas.length f).result = encTy (some p) f.result := encTy_shift p m other f.result hr
  have e3 : encBound (some (shP p m other)) = encBound (some p) := rfl
  simp only [encSig, ha, e1, e2, e3]
  rfl
theorem encData_shift (p : Prog) (m : Int) (other : Api.Data) (d : Api.Data) (h : ∀ v ∈ d.variants, FitTs p.datas.length v.fields) : encData (some (shP p m other)) (shD p.datas.length d) = encData (some p) d := by
  have e1 : encL (encVariant (some (shP p m other))) (d.variants.map (shV p.datas.length)) = encL (encVariant (some p)) d.variants := by
    refine encL_map _ _ _ _ fun v hv => ?_
    have h1 := (fitTs_iff _ _).1 (h v hv)
    simp only [encVariant, shV]
    rw [encL_map _ _ _ _ fun x hx => encTy_shift p m other x (h1 x hx)]
  simp only [encData, shD, e1]
theorem module_shift (p : Prog) (m : Int) (other : Api.Data) (ho : other.module ≠ m) (hi : p.impls = []) (hd : ∀ d ∈ p.datas, ∀ v ∈ d.variants, FitTs p.datas.length v.fields) (hf : ∀ f ∈ p.funcs, FitTs p.datas.length f.locals ∧ FitT p.datas.length f.result) (name : ByteArray) :
    encModule (shP p m other) name m = encModule p name m := by
  have e1 : ((shP p m other).datas.filter fun x => decide (x.module = m)) = (p.datas.filter fun x => decide (x.module = m)).map (shD p.datas.length) := by
    simp only [shP, List.filter_cons, decide_eq_false ho, List.filter_map]
    rfl
  have e2 : ((shP p m other).funcs.filter fun x => decide (x.module = m)) = (p.funcs.filter fun x => decide (x.module = m)).map (shF p.datas.length) := by
    simp only [shP, of', List.filter_map, List.filter_filter]
    congr 1
    refine List.filter_congr fun x _ => ?_
    show (decide (x.module = m) && decide (x.module = m)) = _
    rw [Bool.and_self]
  have e3 : (shP p m other).impls = [] := hi
  have q1 : encL (encData (some (shP p m other))) ((p.datas.filter fun x => decide (x.module = m)).map (shD p.datas.length)) = encL (encData (some p)) (p.datas.filter fun x => decide (x.module = m)) :=
    encL_map _ _ _ _ fun d hd' => encData_shift p m other d (hd d (List.mem_filter.1 hd').1)
  have q2 : encL (encSig (some (shP p m other))) ((p.funcs.filter fun x => decide (x.module = m)).map (shF p.datas.length)) = encL (encSig (some p)) (p.funcs.filter fun x => decide (x.module = m)) :=
    encL_map _ _ _ _ fun f hf' => encSig_shift p m other f (hf f (List.mem_filter.1 hf').1).1 (hf f (List.mem_filter.1 hf').1).2
  unfold encModule
  rw [e1, e2, e3, hi, q1, q2]
  rfl
theorem digM_shift (p : Prog) (m : Int) (other : Api.Data) (ho : other.module ≠ m) (hi : p.impls = []) (hd : ∀ d ∈ p.datas, ∀ v ∈ d.variants, FitTs p.datas.length v.fields) (hf : ∀ f ∈ p.funcs, FitTs p.datas.length f.locals ∧ FitT p.datas.length f.result) :
    digM (shP p m other) m = digM p m := by
  unfold digM
  show (match elem p.modules m with | none => 0 | some name => foldN (bytesN (encModule (shP p m other) name m))) = _
  cases elem p.modules m with
  | none => rfl
  | some name => simp only [module_shift p m other ho hi hd hf name]
end Go.Fr.Try

/- Digest: numbered (29), over frozen and own blocks: a row whose element is a row of its own. -/
set_option linter.unusedVariables false
set_option linter.unusedSimpArgs false
namespace Go.Fr.Try
open Go Go.RowKit Go.Proofs Go.Fr Go.Fr.T Go.Fr.Api

def numI (n : Int) (x : Ins) : Ins := { x with n := n }
def numB (k : Nat) (n : Int) (b : Block) : Block := { b with code := b.code.modify k (numI n) }
def numF (f : Fun) (i k : Nat) (n : Int) : Fun := { f with blocks := f.blocks.modify i (numB k n) }

theorem modify_eq {α : Type} {g : α → α} : ∀ {l : List α} {i : Nat} {x : α}, l[i]? = some x → l.modify i g = l.set i (g x)
  | [], i, x, h => by simp at h
  | y :: l, 0, x, h => by simp at h; subst h; rfl
  | y :: l, i + 1, x, h => by
    have := modify_eq (g := g) (l := l) (i := i) (x := x) (by simpa using h)
    simp [this]
theorem splice_at {xs : List Value} {j : Nat} {v : Value} (h : j < xs.length) : (splice xs j [v])[j + 0]? = some v := by
  unfold splice
  rw [Nat.add_zero, List.append_assoc, List.getElem?_append_right (by rw [List.length_take]; omega)]
  rw [List.length_take, Nat.min_eq_left (by omega), Nat.sub_self]
  rfl
set_option maxRecDepth 10000 in
theorem t29 (f : Fun) (i k : Nat) (n : Int) (b : Block) (x : Ins) (hb : f.blocks[i]? = some b) (hx : b.code[k]? = some x) (h1 : f.blocks.length ≤ 2 ^ 30) (h2 : b.code.length ≤ 2 ^ 30) :
    CallsT Try.prog 29 [.agg (funC f), IC i, IC k, IC n] [] (Ret [] (.agg (funC (numF f i k n)))) := by
  refine ⟨fun F Li vs hl ht hr => ?_⟩
  have hLi : Li = [] := List.length_eq_zero_iff.1 hl
  subst hLi
  simp only [Rels, Rel, funC] at hr
  obtain ⟨v, vs1, rfl, ⟨cells, rfl, hc⟩, _, vs2, rfl, ⟨rfl, hwi⟩, _, vs3, rfl, ⟨rfl, hwk⟩, _, vs4, rfl, ⟨rfl, hwn⟩, rfl⟩ := hr
  obtain ⟨c0, l0, rfl, hc0, c1, l1, rfl, hc1, c2, l2, rfl, hc2, c3, l3, rfl, hc3, c4, l4, rfl, hc4, c5, l5, rfl, hc5, c6, l6, rfl, hc6, c7, l7, rfl, hc7, c8, l8, rfl, hc8, c9, l9, rfl, hc9, c10, l10, rfl, hc10, rfl⟩ := hc
  obtain ⟨rfl, h0⟩ := hc0
  obtain ⟨rfl, h1'⟩ := hc1
  obtain ⟨rfl, h2'⟩ := hc2
  obtain ⟨a3, k3, rfl, r3⟩ := hc3
  obtain ⟨rfl, h4⟩ := hc4
  obtain ⟨rfl, h5⟩ := hc5
  obtain ⟨rfl, h6⟩ := hc6
  obtain ⟨a7, k7, rfl, r7⟩ := hc7
  obtain ⟨a8, k8, rfl, r8⟩ := hc8
  obtain ⟨a10, k10, rfl, r10⟩ := hc10
  obtain ⟨a9, k9, rfl, hle9, hml9, hn9, sz9, hS⟩ := hc9
  obtain ⟨xs, hxl, hxF, hxR⟩ := RelS_flat (sz := 4) hS (fun es he => by obtain ⟨y, _, rfl⟩ := List.mem_map.1 he; rfl)
  have hi : i < f.blocks.length := (List.getElem?_eq_some_iff.1 hb).1
  have hk : k < b.code.length := (List.getElem?_eq_some_iff.1 hx).1
  have hN : (f.blocks.map blockC).length = f.blocks.length := List.length_map _
  generalize (f.blocks.map blockC).length = N at hxl hxF hle9 hml9 hN ⊢
  have hxF : FCells F a9 0 xs := hxF.resolve_right fun h => by omega
  obtain ⟨ws, hw1, hw2, hw3, hw4⟩ := hxR.at (j := i) (es := blockC b) (by rw [List.getElem?_map, hb]; rfl)
  simp only [blockC, Rels, Rel] at hw3
  obtain ⟨d, ws', rfl, ⟨a21, k21, rfl, hle21, hml21, hn21, sz21, hS21⟩, hw5⟩ := hw3
  clear hw5
  have hxi := hw4 0 _ rfl
  obtain ⟨ys, hyl, hyF, hyR⟩ := RelS_flat (sz := 7) hS21 (fun es he => by obtain ⟨y, _, rfl⟩ := List.mem_map.1 he; rfl)
  have hM : (b.code.map insC).length = b.code.length := List.length_map _
  generalize (b.code.map insC).length = M at hyl hyF hle21 hml21 hM hxi
  have hyF : FCells F a21 0 ys := hyF.resolve_right fun h => by omega
  have hx1 := hxR.ones
  have hy1 := hyR.ones
  refine callsA_facts (svs := [_, _, _, _]) rfl nfacts29 rfl rfl (vals_own [_, _, _, _]) ResA.mono' ?_
  intro g4 g8 g10 F1 hle1 hF1
  refine AppPt.mk ⟨13, 0, [], N, xs, .inr (.inr ⟨rfl, _, rfl, by omega, rfl, .inr ⟨rfl, rfl⟩⟩), ⟨a9, k9, rfl, hxl, .inl (hxF.mono hle1)⟩, hx1, by simp only [maxLen]; omega, by omega, fun v hv => ?_⟩
  obtain ⟨a13, k13, rfl, hn13⟩ := hv
  obtain ⟨ad13, rfl⟩ := Option.ne_none_iff_exists'.1 (fun h => by have := hn13 h; omega : a13 ≠ none)
  intro g16 F2 hle2 hF2
  have hti : (i : Int).toNat = i := by omega
  have htk : (k : Int).toNat = k := by omega
  refine IdxPt.mk (by simp) (by omega) (by omega) ?_
  refine LoadPt.mk ⟨[.slice a21 M k21], rfl, .inr (.inl ⟨13, _, _, _, _, _, ad13, k13, rfl, rfl, rfl, fun j u hu => ?_⟩), ?_⟩
  · cases j with
    | zero => rw [hti]; exact hxi.trans hu
    | succ j => cases hu
  refine AppPt.mk ⟨22, 0, [], M, ys, .inr (.inr ⟨rfl, _, rfl, by omega, rfl, .inr ⟨rfl, rfl⟩⟩), ⟨a21, k21, rfl, hyl, .inl ((hyF.mono hle1).mono hle2)⟩, hy1, by simp only [maxLen]; omega, by omega, fun v hv => ?_⟩
  obtain ⟨a22, k22, rfl, hn22⟩ := hv
  obtain ⟨ad22, rfl⟩ := Option.ne_none_iff_exists'.1 (fun h => by have := hn22 h; omega : a22 ≠ none)
  refine IdxPt.mk (by simp) (by omega) (by omega) ?_
  refine StorePt.mk ⟨13, _, _, _, _, _, ad13, k13, rfl, rfl, rfl, ?_, ?_, ?_⟩
  · rw [hti]; show i * 4 + 0 + 1 ≤ ([] ++ xs).length; rw [List.nil_append, hxl]; omega
  · intro u hu; cases hu with | head => rfl | tail _ h => cases h
  refine IdxPt.mk (by simp) (by omega) (by omega) ?_
  refine LoadPt.mk ⟨[.slice (some ad22) (0 + M) k22], rfl, .inr (.inl ⟨13, _, _, _, _, _, ad13, k13, rfl, rfl, rfl, fun j u hu => ?_⟩), ?_⟩
  · cases j with
    | zero =>
      have hu : Value.slice (some ad22) (0 + M) k22 = u := Option.some.inj hu
      subst hu
      rw [hti]
      show (splice ([] ++ xs) (i * 4 + 0) [Value.slice (some ad22) (0 + M) k22])[i * 4 + 0 + 0]? = _
      exact splice_at (by rw [List.nil_append, hxl]; omega)
    | succ j => cases hu
  refine IdxPt.mk (by simp) (by omega) (by omega) ?_
  refine StorePt.mk ⟨22, _, _, _, _, _, ad22, k22, rfl, rfl, rfl, ?_, ?_, ?_⟩
  · rw [htk]; show k * 7 + 4 + 1 ≤ ([] ++ ys).length; rw [List.nil_append, hyl]; omega
  · intro u hu; cases hu with | head => rfl | tail _ h => cases h
  refine FrzPt.mk ⟨_, _, _, _, _, rfl, fun F3 hle3 hr13 => ?_⟩
  refine FrzPt.mk ⟨_, _, _, _, _, rfl, fun F4 hle4 hr22 => ?_⟩
  refine RetPt.mk ⟨[], [], rfl, .nil, ?_⟩
  have e0 : F.le F4 := Frz.le_trans (Frz.le_trans (Frz.le_trans hle1 hle2) hle3) hle4
  have q13 : FCells F4 (some ad13) 0 (splice xs (i * 4 + 0) [.slice (some ad22) M k22]) ∧ N ≤ k13 := by
    rcases hr13 with ⟨h, _⟩ | ⟨a', c', h, hf, hle⟩
    · cases h
    · injection h with e1 e2 e3
      injection e1 with e1
      subst e1 e3
      rw [hti] at hf
      have hf : FCells F3 (some ad13) 0 (splice ([] ++ xs) (i * 4 + 0) [.slice (some ad22) (0 + M) k22]) := hf
      rw [List.nil_append, Nat.zero_add] at hf
      exact ⟨hf.mono hle4, by omega⟩
  have q22 : FCells F4 (some ad22) 0 (splice ys (k * 7 + 4) [.int .i64 n]) ∧ M ≤ k22 := by
    rcases hr22 with ⟨h, _⟩ | ⟨a', c', h, hf, hle⟩
    · cases h
    · injection h with e1 e2 e3
      injection e1 with e1
      subst e1 e3
      rw [htk] at hf
      have hf : FCells F4 (some ad22) 0 (splice ([] ++ ys) (k * 7 + 4) [.int .i64 n]) := hf
      rw [List.nil_append] at hf
      exact ⟨hf, by omega⟩
  clear hr13 hr22
  have hL : (f.blocks.map blockC).set i (blockC (numB k n b)) = ((numF f i k n).blocks.map blockC) := by
    show _ = (f.blocks.modify i (numB k n)).map blockC
    rw [modify_eq hb, List.map_set]
  have hI : (b.code.map insC).set k (insC (numI n x)) = ((numB k n b).code.map insC) := by
    show _ = (b.code.modify k (numI n)).map insC
    rw [modify_eq hx, List.map_set]
  have s22 : RelS F4 (some ad22) 7 0 ((numB k n b).code.map insC) := by
    rw [← hI]
    have hset := RelRow.set (hyR.mono e0) (j := k) (es := insC x) (ds := [IC n]) (us := [.int .i64 n]) (off := 4) (by rw [List.getElem?_map, hx]; rfl) (by simp) (by simp only [Rels, Rel]; exact ⟨_, _, rfl, ⟨rfl, hwn⟩, rfl⟩) rfl
    exact RelRow.frz hset q22.1
  have n22 : ((numB k n b).code.map insC).length = M := by rw [← hI, List.length_set, List.length_map, hM]
  have n13 : ((numF f i k n).blocks.map blockC).length = N := by rw [← hL, List.length_set, List.length_map, hN]
  have s13 : RelS F4 (some ad13) 4 0 ((numF f i k n).blocks.map blockC) := by
    rw [← hL]
    have hset := RelRow.set (hxR.mono e0) (j := i) (es := blockC b) (ds := [.sl ((numB k n b).code.map insC)]) (us := [.slice (some ad22) M k22]) (off := 0) (by rw [List.getElem?_map, hb]; rfl) (by simp)
      (by simp only [Rels, Rel]; exact ⟨_, _, rfl, ⟨_, _, by rw [n22], by rw [n22]; exact q22.2, by rw [n22]; omega, by simp, 7, s22⟩, rfl⟩) rfl
    exact RelRow.frz hset q13.1
  refine ⟨[], .agg (funC (numF f i k n)), rfl, fun _ => trivial, ?_, (fun j g t cs h => by cases h), rfl, rfl⟩
  show Rel F4 (inp []) (.agg (funC (numF f i k n))) (.agg #[.string f.name, .int .i64 f.module, .int .i64 f.params, .slice a3 (f.bounds.map boundC).length k3, .int .i64 f.arity, .int .i64 f.result.kind, .int .i64 f.result.id, .slice a7 (f.result.args.map tyC).length k7, .slice a8 (f.locals.map tyC).length k8, .slice (some ad13) (0 + N) k13, .slice a10 (ics f.ties).length k10])
  simp only [Rel, Rels, funC]
  have m3 := r3.2.2.2
  refine ⟨_, rfl, _, _, rfl, ⟨rfl, h0⟩, _, _, rfl, ⟨rfl, h1'⟩, _, _, rfl, ⟨rfl, h2'⟩, _, _, rfl, ⟨_, _, rfl, r3.1, r3.2.1, r3.2.2.1, ?_⟩, _, _, rfl, ⟨rfl, h4⟩, _, _, rfl, ⟨rfl, h5⟩, _, _, rfl, ⟨rfl, h6⟩, _, _, rfl, ⟨_, _, rfl, r7.1, r7.2.1, r7.2.2.1, ?_⟩, _, _, rfl, ⟨_, _, rfl, r8.1, r8.2.1, r8.2.2.1, ?_⟩, _, _, rfl, ⟨_, _, by rw [n13, Nat.zero_add], by rw [n13]; exact q13.2, by rw [n13]; omega, by simp, 4, s13⟩, _, _, rfl, ⟨_, _, rfl, r10.1, r10.2.1, r10.2.2.1, ?_⟩, rfl⟩
  · obtain ⟨sz, h⟩ := m3; exact ⟨sz, RelS.mono e0 h⟩
  · obtain ⟨sz, h⟩ := r7.2.2.2; exact ⟨sz, RelS.mono e0 h⟩
  · obtain ⟨sz, h⟩ := r8.2.2.2; exact ⟨sz, RelS.mono e0 h⟩
  · obtain ⟨sz, h⟩ := r10.2.2.2; exact ⟨sz, RelS.mono e0 h⟩
end Go.Fr.Try

/- The plain law of DigestBytes: the hash's step can be undone. -/
namespace Go.Fr.Try.Pure
def stp (h x : Int) : Int := (h * 1000003 + x + 1) % 2147483647
theorem cancel {p m mi q d : Int} (e : m * mi = 1 + p * q) (h : p ∣ d * m) : p ∣ d := by
  obtain ⟨c, hc⟩ := h
  refine ⟨c * mi - q * d, ?_⟩
  have h1 : d * (m * mi) = p * c * mi := by rw [← Int.mul_assoc, hc]
  rw [e, Int.mul_add, Int.mul_one] at h1
  have h2 : d = p * c * mi - d * (p * q) := by omega
  rw [Int.mul_sub]
  have h3 : p * (c * mi) = p * c * mi := (Int.mul_assoc _ _ _).symm
  have h4 : p * (q * d) = d * (p * q) := by rw [← Int.mul_assoc, Int.mul_comm]
  rw [h3, h4]
  exact h2
theorem dvd_of {a b p : Int} (h : a % p = b % p) : p ∣ a - b := Int.dvd_of_emod_eq_zero (Int.emod_eq_emod_iff_emod_sub_eq_zero.1 h)
theorem zero_of {d : Int} (h : (2147483647 : Int) ∣ d) (h0 : -2147483647 < d) (h1 : d < 2147483647) : d = 0 := by omega
theorem inv1 : (1000003 : Int) * 1523789695 = 1 + 2147483647 * 709572 := by decide +kernel
theorem inv2 : (1000002 : Int) * 1434793232 = 1 + 2147483647 * 668129 := by decide +kernel
theorem stp_inj {h k x : Int} (h0 : 0 ≤ h) (h1 : h < 2147483647) (k0 : 0 ≤ k) (k1 : k < 2147483647) (e : stp h x = stp k x) : h = k := by
  have e1 := dvd_of e
  rw [show (h * 1000003 + x + 1) - (k * 1000003 + x + 1) = (h - k) * 1000003 by clear e; rw [Int.sub_mul]; omega] at e1
  clear e
  have dd := cancel (mi := 1523789695) (q := 709572) inv1 e1
  clear e1
  have := zero_of dd (by clear dd; omega) (by clear dd; omega)
  clear dd
  omega
theorem stp_inj2 {h x y : Int} (h0 : -256 < x - y) (h1 : x - y < 256) (e : stp h x = stp h y) : x = y := by
  have e1 := dvd_of e
  rw [show (h * 1000003 + x + 1) - (h * 1000003 + y + 1) = x - y by omega] at e1
  have := zero_of e1 (by omega) (by omega)
  omega
theorem stp_bd (h x : Int) : 0 ≤ stp h x ∧ stp h x < 2147483647 := by simp only [stp]; omega
theorem stp_nn (h x : Int) : stp h x = (h * 1000003 + x + 1) % 2147483647 := rfl
def run (h : Int) (l : List Int) : Int := l.foldl stp h
theorem run_inj : ∀ {l : List Int} {h k : Int}, 0 ≤ h → h < 2147483647 → 0 ≤ k → k < 2147483647 → run h l = run k l → h = k
  | [], h, k, _, _, _, _, e => e
  | x :: l, h, k, h0, h1, k0, k1, e => by
    have := run_inj (stp_bd h x).1 (stp_bd h x).2 (stp_bd k x).1 (stp_bd k x).2 (show run (stp h x) l = run (stp k x) l from e)
    exact stp_inj h0 h1 k0 k1 this
theorem run_append (h : Int) (a b : List Int) : run h (a ++ b) = run (run h a) b := List.foldl_append
theorem run_bd {l : List Int} {h : Int} (h0 : 0 ≤ h) (h1 : h < 2147483647) : 0 ≤ run h l ∧ run h l < 2147483647 := by
  induction l generalizing h with
  | nil => exact ⟨h0, h1⟩
  | cons x l ih => exact ih (stp_bd h x).1 (stp_bd h x).2
theorem run_cons_ne {v : Int} {l : List Int} (v0 : 0 ≤ v) (v1 : v < 256) : run 7 (v :: l) ≠ run 7 l := by
  intro e
  have := run_inj (stp_bd 7 v).1 (stp_bd 7 v).2 (by decide) (by decide) (show run (stp 7 v) l = run 7 l from e)
  have e1 := dvd_of (show (7 * 1000003 + v + 1) % 2147483647 = 7 % 2147483647 from this)
  have := zero_of e1 (by omega) (by omega)
  omega
theorem run_set {a b : List Int} {x v : Int} (x0 : 0 ≤ x) (x1 : x < 256) (v0 : 0 ≤ v) (v1 : v < 256) : run 7 (a ++ v :: b) = run 7 (a ++ x :: b) ↔ v = x := by
  constructor
  · intro e
    rw [run_append, run_append] at e
    have := run_inj (stp_bd _ v).1 (stp_bd _ v).2 (stp_bd _ x).1 (stp_bd _ x).2 (show run (stp (run 7 a) v) b = run (stp (run 7 a) x) b from e)
    exact stp_inj2 (by omega) (by omega) this
  · rintro rfl; rfl
theorem run_swap {a b : List Int} {x y : Int} (x0 : 0 ≤ x) (x1 : x < 256) (y0 : 0 ≤ y) (y1 : y < 256) : run 7 (a ++ y :: x :: b) = run 7 (a ++ x :: y :: b) ↔ y = x := by
  constructor
  · intro e
    rw [run_append, run_append] at e
    generalize run 7 a = s at e
    have := run_inj (stp_bd _ _).1 (stp_bd _ _).2 (stp_bd _ _).1 (stp_bd _ _).2 (show run (stp (stp s y) x) b = run (stp (stp s x) y) b from e)
    clear e
    have e2 : ((s * 1000003 + y + 1) * 1000003 + x + 1) % 2147483647 = ((s * 1000003 + x + 1) * 1000003 + y + 1) % 2147483647 := by
      have : ∀ a b : Int, stp (stp s a) b = ((s * 1000003 + a + 1) * 1000003 + b + 1) % 2147483647 := by
        intro a b
        simp only [stp]
        have h1 : ∀ z c : Int, (z % 2147483647 * 1000003 + c) % 2147483647 = (z * 1000003 + c) % 2147483647 := by
          intro z c
          rw [Int.add_emod, Int.mul_emod, Int.emod_emod, ← Int.mul_emod, ← Int.add_emod]
        rw [Int.add_assoc, h1, ← Int.add_assoc]
      rw [← this, ← this]; assumption
    have e1 := dvd_of e2
    clear e2
    rw [show ((s * 1000003 + y + 1) * 1000003 + x + 1) - ((s * 1000003 + x + 1) * 1000003 + y + 1) = (y - x) * 1000002 by rw [Int.sub_mul]; omega] at e1
    have dd := cancel (mi := 1434793232) (q := 668129) inv2 e1
    clear e1
    have := zero_of dd (by clear dd; omega) (by clear dd; omega)
    omega
  · rintro rfl; rfl
end Go.Fr.Try.Pure

set_option linter.unusedVariables false
set_option linter.unusedSimpArgs false
namespace Go.Fr.Try
open Go Go.RowKit Go.Proofs Go.Fr Go.Fr.T Go.Fr.Api
theorem step_stp {s x : Int} (h : 0 ≤ s) (hx : 0 ≤ x) : stepN s x = Pure.stp s x := by
  have h1 : 0 ≤ s * 1000003 + x + 1 := by omega
  unfold stepN Pure.stp
  revert h1
  generalize s * 1000003 + x + 1 = z
  intro h1
  exact Int.tmod_eq_emod_of_nonneg h1
theorem foldl_stp : ∀ (l : List Int) (s : Int), 0 ≤ s → (∀ x ∈ l, 0 ≤ x) → l.foldl stepN s = l.foldl Pure.stp s
  | [], _, _, _ => by rw [List.foldl_nil, List.foldl_nil]
  | x :: l, s, hs, hx => by
    rw [List.foldl_cons, List.foldl_cons, step_stp hs (hx x (List.mem_cons_self ..))]
    exact foldl_stp l _ (Pure.stp_bd s x).1 fun y hy => hx y (List.mem_cons_of_mem _ hy)
theorem foldN_run (l : List Int) (h : ∀ x ∈ l, 0 ≤ x) : foldN l = Pure.run 7 l := by
  unfold foldN Pure.run
  exact foldl_stp l 7 (by omega) h
theorem bytesN_nn (bs : List UInt8) : ∀ x ∈ bytesN bs, 0 ≤ x := by
  intro x hx
  obtain ⟨b, _, rfl⟩ := List.mem_map.1 hx
  omega
theorem fold_run (bs : List UInt8) : foldN (bytesN bs) = Pure.run 7 (bytesN bs) := foldN_run _ (bytesN_nn bs)

theorem bytesN_set (bs : List UInt8) (k : Nat) (v : UInt8) : bytesN (bs.set k v) = (bytesN bs).set k v.toNat := by simp [bytesN, List.map_set]
theorem split_at {l : List UInt8} {k : Nat} {x : UInt8} (h : l[k]? = some x) : ∃ a b, l = a ++ x :: b ∧ a.length = k := by
  obtain ⟨hk, rfl⟩ := List.getElem?_eq_some_iff.1 h
  refine ⟨l.take k, l.drop (k + 1), ?_, by simp; omega⟩
  rw [← List.drop_eq_getElem_cons hk, List.take_append_drop]
theorem set_at (a b : List UInt8) (x v : UInt8) : (a ++ x :: b).set a.length v = a ++ v :: b := by simp
theorem foldN_set {bs : List UInt8} {k : Nat} {x v : UInt8} (h : bs[k]? = some x) : foldN (bytesN (bs.set k v)) = foldN (bytesN bs) ↔ v = x := by
  obtain ⟨a, b, rfl, rfl⟩ := split_at h
  rw [set_at, fold_run, fold_run]
  have hv := v.toNat_lt
  have hx := x.toNat_lt
  have := Pure.run_set (a := bytesN a) (b := bytesN b) (x := (x.toNat : Int)) (v := (v.toNat : Int)) (by omega) (by omega) (by omega) (by omega)
  simp only [bytesN, List.map_append, List.map_cons] at this ⊢
  rw [this]
  constructor
  · intro e; exact UInt8.toNat_inj.1 (by omega)
  · rintro rfl; rfl
theorem foldN_swap {bs : List UInt8} {k : Nat} {x y : UInt8} (h : bs[k + 1]? = some x) (h' : bs[k]? = some y) : foldN (bytesN ((bs.set (k + 1) y).set k x)) = foldN (bytesN bs) ↔ x = y := by
  obtain ⟨a, b, rfl, rfl⟩ := split_at h'
  have hb : ∃ b', b = x :: b' := by
    rw [List.getElem?_append_right (by omega)] at h
    simp at h
    cases b with
    | nil => simp at h
    | cons z b' => simp at h; exact ⟨b', by rw [h]⟩
  obtain ⟨b', rfl⟩ := hb
  have e1 : (a ++ y :: x :: b').set (a.length + 1) y = a ++ y :: y :: b' := by
    rw [List.set_append_right _ _ (by omega)]; simp
  rw [e1, set_at, fold_run, fold_run]
  have hy := y.toNat_lt
  have hx := x.toNat_lt
  have := Pure.run_swap (a := bytesN a) (b := bytesN b') (x := (y.toNat : Int)) (y := (x.toNat : Int)) (by omega) (by omega) (by omega) (by omega)
  simp only [bytesN, List.map_append, List.map_cons] at this ⊢
  rw [this]
  constructor
  · intro e; exact UInt8.toNat_inj.1 (by omega)
  · rintro rfl; rfl
theorem bcells_get {bs : List UInt8} {k : Nat} {x : UInt8} (h : bs[k]? = some x) : (bcells bs)[k]? = some [bcell x] := by simp [bcells, h]
theorem bcells_set (bs : List UInt8) (k : Nat) (v : UInt8) : (bcells bs).set k [bcell v] = bcells (bs.set k v) := by simp [bcells, List.map_set]
theorem u8_eq {x y : UInt8} : ((x.toNat : Int) = (y.toNat : Int)) ↔ x = y := ⟨fun e => UInt8.toNat_inj.1 (by omega), fun e => by rw [e]⟩
theorem rowSt {els : List (List C)} {j off n : Nat} {es0 : List C} {K : List C → Prop} (h : els[j]? = some es0) (hl : lenC? ((es0.drop off).take n) n = true) (k : K es0) : RowT els j off n fun _ => ∀ es, els[j]? = some es → K es :=
  ⟨es0, h, hl, fun es he => by rw [h] at he; injection he with he; rw [← he]; exact k⟩
set_option maxRecDepth 10000 in
theorem t4 (bs : List UInt8) (at0 : Int) (v : UInt8) (hl : bs.length ≤ 1048576) (hat : 0 ≤ at0 ∧ at0 ≤ 65535) : CallsT P 4 [.sl (bcells bs), .int .u16 at0, bcell v] [] (Ret [] (.bool true)) := by
  have hS := fold_run bs
  have hb : 0 ≤ foldN (bytesN bs) ∧ foldN (bytesN bs) < 2147483647 := by rw [hS]; exact Pure.run_bd (by decide) (by decide)
  have hset := fun (k : Nat) (x w : UInt8) (h : bs[k]? = some x) => foldN_set (bs := bs) (v := w) h
  have hswap := fun (k : Nat) (x y : UInt8) (h : bs[k + 1]? = some x) (h' : bs[k]? = some y) => foldN_swap (bs := bs) h h'
  have c15 := t15 bs
  generalize hSe : foldN (bytesN bs) = S at hS hb hset hswap c15
  have hbl := bcells_len bs
  obtain ⟨k, hk'⟩ : ∃ k : Nat, bs.length ≠ 0 → at0.tmod ↑(bcells bs).length = k := by
    rw [Int.tmod_eq_emod_of_nonneg hat.1]
    by_cases h : bs.length = 0
    · exact ⟨0, fun h' => absurd h h'⟩
    · obtain ⟨k, hk⟩ := Int.eq_ofNat_of_zero_le (Int.emod_nonneg at0 (show ((bcells bs).length : Int) ≠ 0 by omega))
      exact ⟨k, fun _ => hk⟩
  have hkl' : bs.length ≠ 0 → k < bs.length := by
    intro h
    have h9 : at0.tmod ↑(bcells bs).length < ↑(bcells bs).length := by
      rw [Int.tmod_eq_emod_of_nonneg hat.1]
      exact Int.emod_lt_of_pos _ (by omega)
    have := hk' h
    omega
  obtain ⟨x, hx'⟩ : ∃ x, bs.length ≠ 0 → bs[k]? = some x := by
    by_cases h : bs.length = 0
    · exact ⟨0, fun h' => absurd h h'⟩
    · exact ⟨bs[k]'(hkl' h), fun _ => by simp [hkl' h]⟩
  obtain ⟨m, hm'⟩ : ∃ m, k ≠ 0 → k = m + 1 := ⟨k - 1, by omega⟩
  obtain ⟨y, hy'⟩ : ∃ y, bs.length ≠ 0 → k ≠ 0 → bs[m]? = some y := by
    by_cases h : bs.length = 0
    · exact ⟨0, fun h' => absurd h h'⟩
    · by_cases h2 : k = 0
      · exact ⟨0, fun _ h' => absurd h2 h'⟩
      · have := hkl' h
        have := hm' h2
        exact ⟨bs[m]'(by omega), fun _ _ => by simp [show m < bs.length by omega]⟩
  refine callsT_facts Try.func4 facts4 rfl fun hw _ => ?_
  refine callP t9 rfl fun _ => ?_
  refine brn_p (fun h => ?_) (fun h => ?_)
  · exact retP rfl rfl
  refine callP c15 rfl fun _ => ?_
  refine brn_p (fun h' => (by omega : False).elim) (fun h1 => ?_)
  refine brn_p (fun h' => (by omega : False).elim) (fun h2 => ?_)
  refine AppT.mk ?_ ?_ ?_ ?_
  · exact bcells_sz
  · show 1 + (bcells bs).length ≤ maxLen
    have : maxLen = 9223372036854775807 := rfl
    omega
  · show (1 + (bcells bs).length) * 1 ≤ _
    simp; omega
  have hne := Pure.run_cons_ne (v := v.toNat) (l := bytesN bs) (by omega) (by have := v.toNat_lt; omega)
  refine callF [27] [] [] (t15 (v :: bs)) ⟨[], rfl, rfl, rfl, rfl, rfl, fun _ _ => ?_⟩
  have hne2 : foldN (bytesN (v :: bs)) ≠ S := by rw [fold_run, hS]; exact hne
  refine brn_p (fun h' => (hne2 h').elim) (fun h3 => ?_)
  refine brn_p (fun h' => ?_) (fun h4 => ?_)
  · exact retP rfl rfl
  refine Fit.in64 (by omega) (by omega) ?_
  refine NonZ.mk (by omega) ?_
  have hk := hk' (by omega)
  have hkl := hkl' (by omega)
  have hx := hx' (by omega)
  refine AppT.mk ?_ ?_ ?_ ?_
  · exact bcells_sz
  · show 0 + (bcells bs).length ≤ maxLen
    have : maxLen = 9223372036854775807 := rfl
    omega
  · show (0 + (bcells bs).length) * 1 ≤ _
    simp; omega
  refine InB.mk (by omega) ?_ ?_
  · show at0.tmod _ < (((bcells bs).length : Nat) : Int)
    omega
  have hg0 : (bcells bs)[(at0.tmod ↑(bcells bs).length).toNat]? = some [bcell x] := by rw [hk]; exact bcells_get hx
  refine ⟨rfl, rowSt hg0 rfl ?_⟩
  refine IdxT.mk ⟨[bcell x], by omega, hg0, rfl, ?_⟩
  refine callPD (t15 (bs.set k v)) ?_ fun _ => ?_
  · show [C.sl ((bcells bs).set (at0.tmod ↑(bcells bs).length).toNat [bcell v])] = _
    rw [hk, Int.toNat_natCast, bcells_set]
  have e1 := hset k x v hx
  refine brn_split (fun hbr => ?_) (fun h5 => ?_)
  · exfalso
    have h7 : (!decide (decide (foldN (bytesN (bs.set k v)) = S) = decide ((v.toNat : Int) = x.toNat))) = true := hbr
    have h8 : decide (foldN (bytesN (bs.set k v)) = S) = decide ((v.toNat : Int) = x.toNat) := decide_eq_decide.2 (e1.trans u8_eq.symm)
    rw [h8] at h7
    simp at h7
  refine brn_p (fun h' => ?_) (fun h6 => ?_)
  · exact retP rfl rfl
  have hm := hm' (by omega)
  have hy := hy' (by omega) (by omega)
  refine AppT.mk ?_ ?_ ?_ ?_
  · exact bcells_sz
  · show 0 + (bcells bs).length ≤ maxLen
    have : maxLen = 9223372036854775807 := rfl
    omega
  · show (0 + (bcells bs).length) * 1 ≤ _
    simp; omega
  refine Fit.in64 (by omega) (by omega) ?_
  have hg1 : (bcells bs)[(at0.tmod ↑(bcells bs).length - 1).toNat]? = some [bcell y] := by
    rw [hk, show ((k : Int) - 1).toNat = m by omega]; exact bcells_get hy
  refine IdxT.mk ⟨[bcell y], by omega, hg1, rfl, ?_⟩
  refine InB.mk (by omega) ?_ ?_
  · show at0.tmod _ < (((bcells bs).length : Nat) : Int)
    omega
  refine ⟨rfl, rowSt hg0 rfl ?_⟩
  refine Fit.in64 (by omega) (by omega) ?_
  refine IdxT.mk ⟨[bcell x], by omega, hg0, rfl, ?_⟩
  refine InB.mk (by omega) ?_ ?_
  · show at0.tmod _ - 1 < (((((bcells bs).set _ _).length : Nat)) : Int)
    rw [List.length_set]
    omega
  have hg2 : ((bcells bs).set (at0.tmod ↑(bcells bs).length).toNat [bcell y])[(at0.tmod ↑(bcells bs).length - 1).toNat]? = some [bcell y] := by
    rw [List.getElem?_set_ne (by omega)]; exact hg1
  refine ⟨rfl, rowSt hg2 rfl ?_⟩
  refine IdxT.mk ⟨[bcell x], by omega, hg0, rfl, ?_⟩
  refine Fit.in64 (by omega) (by omega) ?_
  refine IdxT.mk ⟨[bcell y], by omega, hg1, rfl, ?_⟩
  refine callPD (t15 ((bs.set k y).set m x)) ?_ fun _ => ?_
  · show [C.sl (((bcells bs).set (at0.tmod ↑(bcells bs).length).toNat [bcell y]).set (at0.tmod ↑(bcells bs).length - 1).toNat [bcell x])] = _
    rw [hk, Int.toNat_natCast, show ((k : Int) - 1).toNat = m by omega, bcells_set, bcells_set]
  have e2 := hswap m x y (by rw [← hm]; exact hx) hy
  rw [← hm] at e2
  refine retP rfl ?_
  show C.bool (decide (decide (foldN (bytesN ((bs.set k y).set m x)) = S) = decide ((x.toNat : Int) = y.toNat))) = C.bool true
  have h8 : decide (foldN (bytesN ((bs.set k y).set m x)) = S) = decide ((x.toNat : Int) = y.toNat) := decide_eq_decide.2 (e2.trans u8_eq.symm)
  rw [h8]
  simp
end Go.Fr.Try
