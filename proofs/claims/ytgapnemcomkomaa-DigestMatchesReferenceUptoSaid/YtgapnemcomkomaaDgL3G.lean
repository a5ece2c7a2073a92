/- Part of the proofs of the statements of this seat. -/
import Derived.Test.YtgapnemcomkomaaDgR7G
import Derived.Test.YtgapnemcomkomaaDgCode69
/- Digest: the reference implementation: what a module offers (printed by dgr8.py). -/
set_option linter.unusedVariables false
set_option linter.unusedSimpArgs false
namespace Go.Fr.Try
open Go Go.RowKit Go.Proofs Go.Fr Go.Fr.T Go.Fr.Api

theorem rowSt' {els : List (List C)} {j off n : Nat} {es0 : List C} {K : List C → Prop} (h : els[j]? = some es0) (hl : lenC? ((es0.drop off).take n) n = true) (k : K es0) : RowT els j off n fun _ => ∀ es, els[j]? = some es → K es :=
  ⟨es0, h, hl, fun es he => by rw [h] at he; injection he with he; rw [← he]; exact k⟩
def of' {α : Type} (g : α → Int) (m : Int) (l : List α) : List α := l.filter fun x => decide (g x = m)
theorem of_pos {α : Type} {g : α → Int} {m : Int} {x : α} {l : List α} (h : g x = m) : of' g m (x :: l) = x :: of' g m l := by simp [of', h]
theorem of_neg {α : Type} {g : α → Int} {m : Int} {x : α} {l : List α} (h : ¬ g x = m) : of' g m (x :: l) = of' g m l := by simp [of', h]
theorem of_len {α : Type} (g : α → Int) (m : Int) (l : List α) : (of' g m l).length ≤ l.length := List.length_filter_le _ _
theorem module_parts (q : Prog) (name : ByteArray) (m : Int) : encModule q name m = encS name ++ encI (of' (·.module) m q.datas).length ++ (of' (·.module) m q.datas).flatMap (encData (some q)) ++ encI (of' (·.module) m q.impls).length ++ (of' (·.module) m q.impls).flatMap (encImpl q) ++ encI (of' (·.module) m q.funcs).length ++ (of' (·.module) m q.funcs).flatMap (encSig (some q)) := by
  simp only [encModule, encSs, encL, List.flatMap_cons, List.flatMap_nil, List.append_nil, List.append_assoc]
  rfl
set_option maxRecDepth 10000 in
theorem t69 (q : Prog) (m : Int) (hb : (encModule q (nm q.modules m) m).length ≤ 2 ^ 46) : Rb 69 [.agg (progC q), IC m] (encModule q (nm q.modules m) m) := by
  have h83 := t83 q
  have h84 := t84 q
  have h85 := t85 q
  have h86 := t86 q.modules m
  have h76 := t76 (nm q.modules m)
  have h77 : ∀ n, CallsT P 77 [IC n] [] (Ret [] (.sl (bcells (encI n)))) := fun n => (t77 n).give
  rw [module_parts] at hb ⊢
  simp only [List.length_append] at hb
  have h76 := h76 (by omega)
  have n1 := of_len (·.module) m q.datas
  have n2 := of_len (·.module) m q.impls
  have n3 := of_len (·.module) m q.funcs
  generalize encData (some q) = E1 at *
  generalize encImpl q = E2 at *
  generalize encSig (some q) = E3 at *
  generalize nm q.modules m = nme at *
  generalize encS nme = c0 at *
  generalize hD : of' (fun x : Api.Data => x.module) m q.datas = D at *
  generalize hI : of' (fun x : Impl => x.module) m q.impls = I' at *
  generalize hF : of' (fun x : Fun => x.module) m q.funcs = F' at *
  refine callsT_facts Try.func69 yfacts69 rfl fun hw _ => ?_
  have hw' := hw.1
  have l1 : q.datas.length ≤ 9223372036854775807 := wf_lenM hw'.2.2.1
  have l2 : q.impls.length ≤ 9223372036854775807 := wf_lenM hw'.2.2.2.2.2.1
  have l3 : q.funcs.length ≤ 9223372036854775807 := wf_lenM hw'.2.2.2.2.2.2.1
  refine loopN q.datas.length 9 [8, 5] (([] : List UInt8), (0 : Int)) (fun y => [.rw 13, .rw 37]) (fun y => [(2, .box 37 (progC q)), (13, .row 3 1 [[IC y.2], [IC 0], [IC 0]]), (37, .row 5 1 (bcells y.1))]) (fun k y => y.1 ++ (of' (fun x : Api.Data => x.module) m (q.datas.drop k)).flatMap E1 = D.flatMap E1 ∧ y.2 + (of' (fun x : Api.Data => x.module) m (q.datas.drop k)).length = D.length ∧ 0 ≤ y.2) ⟨by rw [List.drop_zero, hD]; rfl, by rw [List.drop_zero, hD]; omega, Int.le_refl 0⟩ (same_keys rfl) ⟨same_keys rfl, .inr (.inr (.inr (.inl ⟨rfl, 37, 5, 1, rfl, rfl, rfl⟩))), trivial⟩
    ⟨.inl ⟨_, rfl, .inl ⟨rfl, rfl⟩⟩, .inl ⟨_, rfl, .inl ⟨rfl, rfl⟩⟩, .inr ⟨rfl, 5, 1, rfl⟩, trivial⟩ (fun _ => rfl) (fun _ => rfl) ?_
  rintro k0 ⟨s0, c0'⟩ hk0 ⟨hinv, hcnt, hc0⟩ _ _ _
  simp only at hinv hcnt hc0
  refine brn_p (fun hlt => ?_) (fun hge => ?_)
  · have hlt : k0 < q.datas.length := by simpa using hlt
    refine withDrop hlt fun x hx hxm hd => ?_
    refine idxT hx rfl rfl ?_
    refine brn_p (fun hm => ?_) (fun hm => ?_)
    · rw [hd, of_pos (g := (fun x : Api.Data => x.module)) hm] at hinv hcnt
      have hsz : s0.length + (E1 x).length ≤ 2 ^ 46 := by
        have := congrArg List.length hinv
        simp only [List.flatMap_cons, List.length_append] at this
        omega
      rw [List.length_cons] at hcnt
      refine idxT hx rfl rfl ?_
      refine callPD (h83 x (by omega)).give rfl fun _ => ?_
      refine appN _ (bcells_len s0) (by omega) ?_
      refine InB.mk (by decide) (by show (_ : Int) < 3; decide) ?_
      refine RowT.mk ⟨[IC c0'], rfl, rfl, ?_⟩
      refine Fit.in64 (by omega) (by omega) ?_
      refine InB.mk (by decide) (by show (_ : Int) < 3; decide) ?_
      refine ⟨rfl, rowSt' (es0 := [IC c0']) rfl rfl ?_⟩
      refine Fit.in64 (by omega) (by omega) ?_
      refine ⟨(k0 + 1, (s0 ++ E1 x, c0' + 1)), ⟨hlt, ?_, ?_, ?_⟩, ⟨nextI, same_keys rfl, same_keys rfl, trivial⟩, ⟨.inl ⟨_, rfl, .inl ⟨rfl, rfl⟩⟩, .inl ⟨_, rfl, .inl ⟨rfl, rfl⟩⟩, .inl ⟨_, rfl, .inl ⟨congrArg (TO.row 5 1) (bcells_app _ _).symm, rfl⟩⟩, trivial⟩, nextM hlt⟩
      · show s0 ++ E1 x ++ _ = _
        rw [← hinv]; simp
      · show c0' + 1 + ((of' (fun x : Api.Data => x.module) m (q.datas.drop (k0 + 1))).length : Int) = _
        omega
      · show 0 ≤ c0' + 1
        omega
    · rw [hd, of_neg (g := (fun x : Api.Data => x.module)) hm] at hinv hcnt
      refine Fit.in64 (by omega) (by omega) ?_
      exact ⟨(k0 + 1, (s0, c0')), ⟨hlt, hinv, hcnt, hc0⟩, ⟨nextI, same_keys rfl, same_keys rfl, trivial⟩, ⟨.inl ⟨_, rfl, .inl ⟨rfl, rfl⟩⟩, .inl ⟨_, rfl, .inl ⟨rfl, rfl⟩⟩, .inl ⟨_, rfl, .inl ⟨rfl, rfl⟩⟩, trivial⟩, nextM hlt⟩
  have hge : ¬ k0 < q.datas.length := by simpa using hge
  rw [drop_end hge] at hinv hcnt
  have e0 : s0 = D.flatMap E1 := by rw [← hinv]; simp [of']
  have f0 : c0' = (D.length : Int) := by simpa [of'] using hcnt
  clear hinv hcnt hge
  refine loopN q.impls.length 10 [8, 5, 6] (([] : List UInt8), (0 : Int)) (fun y => [.rw 13, .rw 37, .rw 66]) (fun y => [(2, .box 37 (progC q)), (13, .row 3 1 [[IC c0'], [IC y.2], [IC 0]]), (37, .row 5 1 (bcells s0)), (66, .row 5 1 (bcells y.1))]) (fun k y => y.1 ++ (of' (fun x : Impl => x.module) m (q.impls.drop k)).flatMap E2 = I'.flatMap E2 ∧ y.2 + (of' (fun x : Impl => x.module) m (q.impls.drop k)).length = I'.length ∧ 0 ≤ y.2) ⟨by rw [List.drop_zero, hI]; rfl, by rw [List.drop_zero, hI]; omega, Int.le_refl 0⟩ (same_keys rfl) ⟨same_keys rfl, same_keys rfl, .inr (.inr (.inr (.inl ⟨rfl, 66, 5, 1, rfl, rfl, rfl⟩))), trivial⟩
    ⟨.inl ⟨_, rfl, .inl ⟨rfl, rfl⟩⟩, .inl ⟨_, rfl, .inl ⟨rfl, rfl⟩⟩, .inl ⟨_, rfl, .inl ⟨rfl, rfl⟩⟩, .inr ⟨rfl, 5, 1, rfl⟩, trivial⟩ (fun _ => rfl) (fun _ => rfl) ?_
  rintro k1 ⟨s1, c1'⟩ hk1 ⟨hinv, hcnt, hc0⟩ _ _ _
  simp only at hinv hcnt hc0
  refine brn_p (fun hlt => ?_) (fun hge => ?_)
  · have hlt : k1 < q.impls.length := by simpa using hlt
    refine withDrop hlt fun x hx hxm hd => ?_
    refine idxT hx rfl rfl ?_
    refine brn_p (fun hm => ?_) (fun hm => ?_)
    · rw [hd, of_pos (g := (fun x : Impl => x.module)) hm] at hinv hcnt
      have hsz : s1.length + (E2 x).length ≤ 2 ^ 46 := by
        have := congrArg List.length hinv
        simp only [List.flatMap_cons, List.length_append] at this
        omega
      rw [List.length_cons] at hcnt
      refine idxT hx rfl rfl ?_
      refine callPD (h84 x (by omega)).give rfl fun _ => ?_
      refine appN _ (bcells_len s1) (by omega) ?_
      refine InB.mk (by decide) (by show (_ : Int) < 3; decide) ?_
      refine RowT.mk ⟨[IC c1'], rfl, rfl, ?_⟩
      refine Fit.in64 (by omega) (by omega) ?_
      refine InB.mk (by decide) (by show (_ : Int) < 3; decide) ?_
      refine ⟨rfl, rowSt' (es0 := [IC c1']) rfl rfl ?_⟩
      refine Fit.in64 (by omega) (by omega) ?_
      refine ⟨(k1 + 1, (s1 ++ E2 x, c1' + 1)), ⟨hlt, ?_, ?_, ?_⟩, ⟨nextI, same_keys rfl, same_keys rfl, same_keys rfl, trivial⟩, ⟨.inl ⟨_, rfl, .inl ⟨rfl, rfl⟩⟩, .inl ⟨_, rfl, .inl ⟨rfl, rfl⟩⟩, .inl ⟨_, rfl, .inl ⟨rfl, rfl⟩⟩, .inl ⟨_, rfl, .inl ⟨congrArg (TO.row 5 1) (bcells_app _ _).symm, rfl⟩⟩, trivial⟩, nextM hlt⟩
      · show s1 ++ E2 x ++ _ = _
        rw [← hinv]; simp
      · show c1' + 1 + ((of' (fun x : Impl => x.module) m (q.impls.drop (k1 + 1))).length : Int) = _
        omega
      · show 0 ≤ c1' + 1
        omega
    · rw [hd, of_neg (g := (fun x : Impl => x.module)) hm] at hinv hcnt
      refine Fit.in64 (by omega) (by omega) ?_
      exact ⟨(k1 + 1, (s1, c1')), ⟨hlt, hinv, hcnt, hc0⟩, ⟨nextI, same_keys rfl, same_keys rfl, same_keys rfl, trivial⟩, ⟨.inl ⟨_, rfl, .inl ⟨rfl, rfl⟩⟩, .inl ⟨_, rfl, .inl ⟨rfl, rfl⟩⟩, .inl ⟨_, rfl, .inl ⟨rfl, rfl⟩⟩, .inl ⟨_, rfl, .inl ⟨rfl, rfl⟩⟩, trivial⟩, nextM hlt⟩
  have hge : ¬ k1 < q.impls.length := by simpa using hge
  rw [drop_end hge] at hinv hcnt
  have e1 : s1 = I'.flatMap E2 := by rw [← hinv]; simp [of']
  have f1 : c1' = (I'.length : Int) := by simpa [of'] using hcnt
  clear hinv hcnt hge
  refine loopN q.funcs.length 11 [8, 5, 6, 7] (([] : List UInt8), (0 : Int)) (fun y => [.rw 13, .rw 37, .rw 66, .rw 95]) (fun y => [(2, .box 37 (progC q)), (13, .row 3 1 [[IC c0'], [IC c1'], [IC y.2]]), (37, .row 5 1 (bcells s0)), (66, .row 5 1 (bcells s1)), (95, .row 5 1 (bcells y.1))]) (fun k y => y.1 ++ (of' (fun x : Fun => x.module) m (q.funcs.drop k)).flatMap E3 = F'.flatMap E3 ∧ y.2 + (of' (fun x : Fun => x.module) m (q.funcs.drop k)).length = F'.length ∧ 0 ≤ y.2) ⟨by rw [List.drop_zero, hF]; rfl, by rw [List.drop_zero, hF]; omega, Int.le_refl 0⟩ (same_keys rfl) ⟨same_keys rfl, same_keys rfl, same_keys rfl, .inr (.inr (.inr (.inl ⟨rfl, 95, 5, 1, rfl, rfl, rfl⟩))), trivial⟩
    ⟨.inl ⟨_, rfl, .inl ⟨rfl, rfl⟩⟩, .inl ⟨_, rfl, .inl ⟨rfl, rfl⟩⟩, .inl ⟨_, rfl, .inl ⟨rfl, rfl⟩⟩, .inl ⟨_, rfl, .inl ⟨rfl, rfl⟩⟩, .inr ⟨rfl, 5, 1, rfl⟩, trivial⟩ (fun _ => rfl) (fun _ => rfl) ?_
  rintro k2 ⟨s2, c2'⟩ hk2 ⟨hinv, hcnt, hc0⟩ _ _ _
  simp only at hinv hcnt hc0
  refine brn_p (fun hlt => ?_) (fun hge => ?_)
  · have hlt : k2 < q.funcs.length := by simpa using hlt
    refine withDrop hlt fun x hx hxm hd => ?_
    refine idxT hx rfl rfl ?_
    refine brn_p (fun hm => ?_) (fun hm => ?_)
    · rw [hd, of_pos (g := (fun x : Fun => x.module)) hm] at hinv hcnt
      have hsz : s2.length + (E3 x).length ≤ 2 ^ 46 := by
        have := congrArg List.length hinv
        simp only [List.flatMap_cons, List.length_append] at this
        omega
      rw [List.length_cons] at hcnt
      refine idxT hx rfl rfl ?_
      refine callPD (h85 x (by omega)).give rfl fun _ => ?_
      refine appN _ (bcells_len s2) (by omega) ?_
      refine InB.mk (by decide) (by show (_ : Int) < 3; decide) ?_
      refine RowT.mk ⟨[IC c2'], rfl, rfl, ?_⟩
      refine Fit.in64 (by omega) (by omega) ?_
      refine InB.mk (by decide) (by show (_ : Int) < 3; decide) ?_
      refine ⟨rfl, rowSt' (es0 := [IC c2']) rfl rfl ?_⟩
      refine Fit.in64 (by omega) (by omega) ?_
      refine ⟨(k2 + 1, (s2 ++ E3 x, c2' + 1)), ⟨hlt, ?_, ?_, ?_⟩, ⟨nextI, same_keys rfl, same_keys rfl, same_keys rfl, same_keys rfl, trivial⟩, ⟨.inl ⟨_, rfl, .inl ⟨rfl, rfl⟩⟩, .inl ⟨_, rfl, .inl ⟨rfl, rfl⟩⟩, .inl ⟨_, rfl, .inl ⟨rfl, rfl⟩⟩, .inl ⟨_, rfl, .inl ⟨rfl, rfl⟩⟩, .inl ⟨_, rfl, .inl ⟨congrArg (TO.row 5 1) (bcells_app _ _).symm, rfl⟩⟩, trivial⟩, nextM hlt⟩
      · show s2 ++ E3 x ++ _ = _
        rw [← hinv]; simp
      · show c2' + 1 + ((of' (fun x : Fun => x.module) m (q.funcs.drop (k2 + 1))).length : Int) = _
        omega
      · show 0 ≤ c2' + 1
        omega
    · rw [hd, of_neg (g := (fun x : Fun => x.module)) hm] at hinv hcnt
      refine Fit.in64 (by omega) (by omega) ?_
      exact ⟨(k2 + 1, (s2, c2')), ⟨hlt, hinv, hcnt, hc0⟩, ⟨nextI, same_keys rfl, same_keys rfl, same_keys rfl, same_keys rfl, trivial⟩, ⟨.inl ⟨_, rfl, .inl ⟨rfl, rfl⟩⟩, .inl ⟨_, rfl, .inl ⟨rfl, rfl⟩⟩, .inl ⟨_, rfl, .inl ⟨rfl, rfl⟩⟩, .inl ⟨_, rfl, .inl ⟨rfl, rfl⟩⟩, .inl ⟨_, rfl, .inl ⟨rfl, rfl⟩⟩, trivial⟩, nextM hlt⟩
  have hge : ¬ k2 < q.funcs.length := by simpa using hge
  rw [drop_end hge] at hinv hcnt
  have e2 : s2 = F'.flatMap E3 := by rw [← hinv]; simp [of']
  have f2 : c2' = (F'.length : Int) := by simpa [of'] using hcnt
  clear hinv hcnt hge
  have q0 : s0.length = (D.flatMap E1).length := by rw [e0]
  have q1 : s1.length = (I'.flatMap E2).length := by rw [e1]
  have q2 : s2.length = (F'.flatMap E3).length := by rw [e2]
  have p0 : (encI c0').length = (encI D.length).length := by rw [f0]
  have p1 : (encI c1').length = (encI I'.length).length := by rw [f1]
  have p2 : (encI c2').length = (encI F'.length).length := by rw [f2]
  refine IdxT.mk ⟨[IC c0'], by decide, rfl, rfl, ?_⟩
  refine callPD h86 rfl fun _ => ?_
  refine callDO h76 rfl rfl ?_
  refine callPD (h77 c0') rfl fun _ => ?_
  refine appN _ (bcells_len c0) (by omega) ?_
  refine appN _ (lenA (bcells_len c0) (bcells_len _)) (by omega) ?_
  refine IdxT.mk ⟨[IC c1'], by decide, rfl, rfl, ?_⟩
  refine callP (h77 c1') rfl fun _ => ?_
  refine appN _ (lenA (lenA (bcells_len c0) (bcells_len _)) (bcells_len _)) (by omega) ?_
  refine appN _ (lenA (lenA (lenA (bcells_len c0) (bcells_len _)) (bcells_len _)) (bcells_len _)) (by omega) ?_
  refine IdxT.mk ⟨[IC c2'], by decide, rfl, rfl, ?_⟩
  refine callP (h77 c2') rfl fun _ => ?_
  refine appN _ (lenA (lenA (lenA (lenA (bcells_len c0) (bcells_len _)) (bcells_len _)) (bcells_len _)) (bcells_len _)) (by omega) ?_
  refine appN (b := s2) _ (lenA (lenA (lenA (lenA (lenA (bcells_len c0) (bcells_len _)) (bcells_len _)) (bcells_len _)) (bcells_len _)) (bcells_len _)) (by omega) ?_
  have e9 : bcells c0 ++ bcells (encI c0') ++ bcells s0 ++ bcells (encI c1') ++ bcells s1 ++ bcells (encI c2') ++ bcells s2 = bcells (c0 ++ encI D.length ++ D.flatMap E1 ++ encI I'.length ++ I'.flatMap E2 ++ encI F'.length ++ F'.flatMap E3) := by
    rw [f0, f1, f2, ← e0, ← e1, ← e2]
    simp only [bcells_app]
  exact retO [105] rfl rfl (rowE e9) rfl
end Go.Fr.Try

/- Digest: small programs, how long the code of a module can be, and the statement on the reference implementation. -/
set_option linter.unusedVariables false
set_option linter.unusedSimpArgs false
namespace Go.Fr.Try
open Go Go.RowKit Go.Proofs Go.Fr Go.Fr.T Go.Fr.Api

theorem encVariant_le {po : Option Prog} (hn : Names po) (v : Variant) (h : WfS (variantC v)) (hs : v.name.size ≤ 1048576) : (encVariant po v).length ≤ 4194304 * v.g.bulk := by
  have w1 := encS_le (s := v.name) (by omega)
  have w2 := encL_le (e := encTy po) (g := Ty.g) (wf_lenM h.2.1) fun t ht => encTy_le hn t (wf_map h.2.1 t ht)
  simp only [encVariant, encSs, List.flatMap_cons, List.flatMap_nil, List.append_nil, List.length_append, Variant.g, G.bulk, G.bulkAll]
  omega
theorem bulk_mem {α : Type} {g : α → G} {x : α} : ∀ {l : List α}, x ∈ l → (g x).bulk ≤ G.bulkAll (l.map g)
  | y :: l, h => by
    simp only [List.map_cons, G.bulkAll]
    rcases List.mem_cons.1 h with rfl | h
    · omega
    · have := bulk_mem (g := g) h; omega
theorem encData_le {po : Option Prog} (hn : Names po) (d : Api.Data) (h : WfS (dataC d)) (hs : d.g.bulk ≤ 1048576) : (encData po d).length ≤ 4194304 * d.g.bulk := by
  have e : d.g.bulk = 6 + d.name.size + G.bulkAll (d.variants.map Variant.g) := by simp only [Data.g, G.bulk, G.bulkAll]; omega
  have w1 := encS_le (s := d.name) (by omega)
  have w2 := encI_le h.2.2.1
  have w3 := encI_le h.2.2.2.2.1
  have w4 := encL_le (e := encVariant po) (g := Variant.g) (wf_lenM h.2.2.2.1) fun v hv => encVariant_le hn v (wf_map h.2.2.2.1 v hv) (by
    have h1 := bulk_mem (g := Variant.g) hv
    have h2 : v.name.size ≤ v.g.bulk := by simp only [Variant.g, G.bulk, G.bulkAll]; omega
    omega)
  simp only [encData, encSs, encIs, List.flatMap_cons, List.flatMap_nil, List.append_nil, List.length_append]
  omega
theorem encImpl_le {q : Prog} (hn : Names (some q)) (x : Impl) (h : WfS (implC x)) : (encImpl q x).length ≤ 8388608 * x.g.bulk := by
  have ht : WfS (tyC x.type) := by
    rw [tyC_eq]
    exact ⟨h.2.2.2.2.1, h.2.2.2.2.2.1, h.2.2.2.2.2.2.1, trivial⟩
  have w1 := encTrait_le hn h.1
  have w2 := encI_le h.2.2.1
  have w3 := encL_le (e := encBound (some q)) (g := Bound.g) (wf_lenM h.2.2.2.1) fun b hb => encBound_le hn b (wf_map h.2.2.2.1 b hb)
  have w4 := encTy_le hn x.type ht
  have w5 : (fnameOf q x.func).size ≤ 1048576 := by
    unfold fnameOf
    cases e : elem q.funcs x.func with
    | none => decide
    | some f => exact hn.2.2.2 f (elem_mem e)
  have w6 := encS_le (s := fnameOf q x.func) (by omega)
  simp only [encImpl, encSs, encIs, List.flatMap_cons, List.flatMap_nil, List.append_nil, List.length_append, Impl.g, G.bulk, G.bulkAll]
  omega
theorem names_of {q : Prog} (h : q.g.bulk ≤ 1048576) : Names (some q) := by
  have e : q.g.bulk = 9 + G.bulkAll (q.modules.map .str) + G.bulkAll (q.uses.map fun l => .sl 1 (l.map I)) + G.bulkAll (q.datas.map Data.g) + G.bulkAll (q.traits.map .str) + G.bulkAll (q.homes.map I) + G.bulkAll (q.impls.map Impl.g) + G.bulkAll (q.funcs.map Fun.g) := by
    simp only [Prog.g, G.bulk, G.bulkAll]; omega
  refine ⟨fun s hs => ?_, fun s hs => ?_, fun d hd => ?_, fun f hf => ?_⟩
  · have := bulk_mem (g := G.str) hs; simp only [G.bulk] at this; omega
  · have := bulk_mem (g := G.str) hs; simp only [G.bulk] at this; omega
  · have h1 := bulk_mem (g := Data.g) hd
    have h2 : d.name.size ≤ d.g.bulk := by simp only [Data.g, G.bulk, G.bulkAll]; omega
    omega
  · have h1 := bulk_mem (g := Fun.g) hf
    have h2 : f.name.size ≤ f.g.bulk := by simp only [Fun.g, G.bulk, G.bulkAll]; omega
    omega
theorem encModule_le {q : Prog} (hb : q.g.bulk ≤ 1048576) (hw : WfS (progC q)) {name : ByteArray} (hname : name.size ≤ 1048576) (m : Int) : (encModule q name m).length ≤ 2 ^ 46 := by
  have hn := names_of hb
  have e : q.g.bulk = 9 + G.bulkAll (q.modules.map .str) + G.bulkAll (q.uses.map fun l => .sl 1 (l.map I)) + G.bulkAll (q.datas.map Data.g) + G.bulkAll (q.traits.map .str) + G.bulkAll (q.homes.map I) + G.bulkAll (q.impls.map Impl.g) + G.bulkAll (q.funcs.map Fun.g) := by
    simp only [Prog.g, G.bulk, G.bulkAll]; omega
  have l1 : q.datas.length ≤ 9223372036854775807 := wf_lenM hw.2.2.1
  have l2 : q.impls.length ≤ 9223372036854775807 := wf_lenM hw.2.2.2.2.2.1
  have l3 : q.funcs.length ≤ 9223372036854775807 := wf_lenM hw.2.2.2.2.2.2.1
  have w0 := encS_le (s := name) (by omega)
  have w1 := encL_le (e := encData (some q)) (g := Data.g) (l := q.datas.filter fun x => decide (x.module = m)) (W := 8388608) (by have := List.length_filter_le (fun x : Api.Data => decide (x.module = m)) q.datas; omega) fun d hd => by
    have hd := (List.mem_filter.1 hd).1
    have := bulk_mem (g := Data.g) hd
    have := encData_le hn d (wf_map hw.2.2.1 d hd) (by omega)
    omega
  have w2 := encL_le (e := encImpl q) (g := Impl.g) (l := q.impls.filter fun x => decide (x.module = m)) (by have := List.length_filter_le (fun x : Impl => decide (x.module = m)) q.impls; omega) fun d hd => encImpl_le hn d (wf_map hw.2.2.2.2.2.1 d (List.mem_filter.1 hd).1)
  have w3 := encL_le (e := encSig (some q)) (g := Fun.g) (l := q.funcs.filter fun x => decide (x.module = m)) (W := 8388608) (by have := List.length_filter_le (fun x : Fun => decide (x.module = m)) q.funcs; omega) fun d hd => by
    have hd := (List.mem_filter.1 hd).1
    have := encSig_le hn d (wf_map hw.2.2.2.2.2.2.1 d hd) (hn.2.2.2 d hd)
    omega
  have b1 := bulk_filter Data.g (fun x : Api.Data => decide (x.module = m)) q.datas
  have b2 := bulk_filter Impl.g (fun x : Impl => decide (x.module = m)) q.impls
  have b3 := bulk_filter Fun.g (fun x : Fun => decide (x.module = m)) q.funcs
  simp only [encModule, encSs, List.flatMap_cons, List.flatMap_nil, List.append_nil, List.length_append]
  omega

set_option maxRecDepth 10000 in
theorem t12 (q : Prog) : CallsT P 12 [.agg (progC q)] [] (Such True) := by
  have h31 := t31'
  have h11 := t11
  generalize few = fw at h31
  refine callsT_facts Try.func12 facts12 rfl fun hw _ => ?_
  have hw := hw.1
  have l1 : q.datas.length ≤ 9223372036854775807 := wf_lenM hw.2.2.1
  have l3 : q.funcs.length ≤ 9223372036854775807 := wf_lenM hw.2.2.2.2.2.2.1
  refine brn_p (fun _ => ?_) (fun _ => ?_)
  · exact retB false rfl rfl (fun _ => trivial)
  refine brn_p (fun _ => ?_) (fun _ => ?_)
  · exact retB false rfl rfl (fun _ => trivial)
  refine brn_p (fun _ => ?_) (fun _ => ?_)
  · exact retB false rfl rfl (fun _ => trivial)
  refine loopN q.datas.length 3 [] () (fun _ => []) (fun _ => [(1, .box 37 (progC q))]) (fun _ _ => True) trivial (same_keys rfl) trivial ⟨.inl ⟨_, rfl, .inl ⟨rfl, rfl⟩⟩, trivial⟩ (fun _ => rfl) (fun _ => rfl) ?_
  rintro k _ hk _ _ _ _
  refine brn_p (fun hlt => ?_) (fun hge => ?_)
  · have hlt : k < q.datas.length := by simpa using hlt
    refine withGet hlt fun d hd hdm => ?_
    have hwd := wf_map hw.2.2.1 d hdm
    have lv : d.variants.length ≤ 9223372036854775807 := wf_lenM hwd.2.2.2.1
    refine idxT hd rfl rfl ?_
    refine brn_p (fun _ => ?_) (fun _ => ?_)
    · exact retB false rfl rfl (fun _ => trivial)
    refine loopN d.variants.length 4 [3] () (fun _ => [IC k]) (fun _ => [(1, .box 37 (progC q))]) (fun _ _ => True) trivial (same_keys rfl) ⟨same_keys rfl, trivial⟩ ⟨.inl ⟨_, rfl, .inl ⟨rfl, rfl⟩⟩, trivial⟩ (fun _ => rfl) (fun _ => rfl) ?_
    rintro j _ hj _ _ _ _
    refine idxT hd rfl rfl ?_
    refine brn_p (fun hlt' => ?_) (fun hge => ?_)
    · have hlt' : j < d.variants.length := by simpa using hlt'
      refine withGet hlt' fun v hv hvm => ?_
      have lf : v.fields.length ≤ 9223372036854775807 := wf_lenM (wf_map hwd.2.2.2.1 v hvm).2.1
      refine idxT hd rfl rfl ?_
      refine idxT hv rfl rfl ?_
      refine brn_p (fun _ => ?_) (fun _ => ?_)
      · exact retB false rfl rfl (fun _ => trivial)
      refine loopN v.fields.length 6 [3, 4, 5] () (fun _ => [IC k, IC j, .sl (v.fields.map tyC)]) (fun _ => [(1, .box 37 (progC q))]) (fun _ _ => True) trivial (same_keys rfl) ⟨same_keys rfl, same_keys rfl, same_keys rfl, trivial⟩ ⟨.inl ⟨_, rfl, .inl ⟨rfl, rfl⟩⟩, trivial⟩ (fun _ => rfl) (fun _ => rfl) ?_
      rintro i _ hi _ _ _ _
      refine brn_p (fun hlt2 => ?_) (fun hge => ?_)
      · have hlt2 : i < v.fields.length := by simpa using hlt2
        refine withGet hlt2 fun t ht _ => ?_
        refine idxTy ht ?_
        refine callP (h31 t) rfl fun _ => ?_
        refine brn_p (fun _ => ?_) (fun _ => ?_)
        · exact retB false rfl rfl (fun _ => trivial)
        refine Fit.in64 (by omega) (by omega) ?_
        exact ⟨(i + 1, ()), ⟨hlt2, trivial⟩, ⟨nextI, same_keys rfl, same_keys rfl, same_keys rfl, trivial⟩, ⟨.inl ⟨_, rfl, .inl ⟨rfl, rfl⟩⟩, trivial⟩, nextM hlt2⟩
      refine Fit.in64 (by omega) (by omega) ?_
      exact ⟨(j + 1, ()), ⟨hlt', trivial⟩, ⟨nextI, same_keys rfl, trivial⟩, ⟨.inl ⟨_, rfl, .inl ⟨rfl, rfl⟩⟩, trivial⟩, nextM hlt'⟩
    refine Fit.in64 (by omega) (by omega) ?_
    exact ⟨(k + 1, ()), ⟨hlt, trivial⟩, ⟨nextI, trivial⟩, ⟨.inl ⟨_, rfl, .inl ⟨rfl, rfl⟩⟩, trivial⟩, nextM hlt⟩
  refine loopN q.funcs.length 7 [] () (fun _ => []) (fun _ => [(1, .box 37 (progC q))]) (fun _ _ => True) trivial (same_keys rfl) trivial ⟨.inl ⟨_, rfl, .inl ⟨rfl, rfl⟩⟩, trivial⟩ (fun _ => rfl) (fun _ => rfl) ?_
  rintro k _ hk _ _ _ _
  refine brn_p (fun hlt => ?_) (fun hge => ?_)
  · have hlt : k < q.funcs.length := by simpa using hlt
    refine withGet hlt fun f hf _ => ?_
    refine idxT hf rfl rfl ?_
    refine callB (h11 f) rfl fun b _ => ?_
    refine brn_split (fun _ => ?_) (fun _ => ?_)
    · exact retB false rfl rfl (fun _ => trivial)
    refine Fit.in64 (by omega) (by omega) ?_
    exact ⟨(k + 1, ()), ⟨hlt, trivial⟩, ⟨nextI, trivial⟩, ⟨.inl ⟨_, rfl, .inl ⟨rfl, rfl⟩⟩, trivial⟩, nextM hlt⟩
  exact retB true rfl rfl (fun _ => trivial)
set_option maxRecDepth 10000 in
theorem t23 (q : Prog) (m : Int) (hb : (encModule q (nm q.modules m) m).length ≤ 2 ^ 46) : CallsT P 23 [.agg (progC q), IC m] [] (Ret [] (.int .i64 (digM q m))) := by
  have h69 := (t69 q m hb).give
  have hlm : (scs q.modules).length = q.modules.length := by simp [scs]
  unfold digM
  cases hn : elem q.modules m with
  | none =>
    have h := elem_none hn
    rw [← hlm] at h
    simp only []
    refine callsT_facts Try.func23 facts23 rfl fun hw _ => ?_
    refine brn_p (fun _ => ?_) (fun h1 => ?_)
    · exact retP rfl rfl
    refine brn_p (fun _ => ?_) (fun h2 => (by omega : False).elim)
    exact retP rfl rfl
  | some name =>
    have h := elem_some hn
    rw [← hlm] at h
    have e : nm q.modules m = name := by simp [nm, hn]
    rw [e] at h69
    simp only []
    generalize encModule q name m = code at *
    refine callsT_facts Try.func23 facts23 rfl fun hw _ => ?_
    refine brn_p (fun h1 => (by omega : False).elim) (fun h1 => ?_)
    refine brn_p (fun h1 => (by omega : False).elim) (fun h2 => ?_)
    refine callP h69 rfl fun _ => ?_
    refine callP (t16 code) rfl fun _ => ?_
    exact retP rfl rfl
set_option maxRecDepth 10000 in
theorem t3 (bs : List UInt8) (l : List Int) (t : Ty) (f : Fun) (q : Prog) (m : Int) (ht : t.g.bulk ≤ 1048576) (hf : f.g.bulk ≤ 1048576) (hq : q.g.bulk ≤ 1048576) :
    CallsT P 3 [.sl (bcells bs), .sl (ics l), .agg (tyC t), .agg (funC f), .agg (progC q), IC m] [] (Ret [] (.bool true)) := by
  have h10 := t10
  have h11 := t11
  have h12 := t12 q
  have h13 := t13 f
  have h14 := t14 f
  have h15 := t15 bs
  have h16 := t16 bs
  have h17 := t17 l
  have h18 := t18 l
  have h20 := t20 t
  have h21 := fun h => (t21 t h).give
  have h22 := t22 q m
  have h23 := t23 q m
  have hname : f.name.size ≤ 1048576 := by
    have : f.name.size + 1 ≤ f.g.bulk := by simp only [Fun.g, G.bulk, G.bulkAll]; omega
    omega
  have z1 := fun h => encFun_le (po := none) trivial f h hname
  have z2 := encTy_le (po := none) trivial t
  have z3 := fun h (name : ByteArray) hn => encModule_le (name := name) hq h hn m
  have hns := (names_of hq).1
  have b1 : q.datas.length ≤ 2 ^ 30 ∧ q.impls.length ≤ 2 ^ 30 ∧ q.funcs.length ≤ 2 ^ 30 := by
    have e : q.g.bulk = 9 + G.bulkAll (q.modules.map .str) + G.bulkAll (q.uses.map fun l => .sl 1 (l.map I)) + G.bulkAll (q.datas.map Data.g) + G.bulkAll (q.traits.map .str) + G.bulkAll (q.homes.map I) + G.bulkAll (q.impls.map Impl.g) + G.bulkAll (q.funcs.map Fun.g) := by
      simp only [Prog.g, G.bulk, G.bulkAll]; omega
    have a1 := bulk_map (f := Data.g) q.datas
    have a2 := bulk_map (f := Impl.g) q.impls
    have a3 := bulk_map (f := Fun.g) q.funcs
    omega
  have h19 := t19 (encTy none t) (encTy none t)
  rw [decide_eq_true (rfl : encTy none t = encTy none t)] at h19
  rw [tyC_eq] at *
  generalize smallL = sm at *
  generalize foldN (bytesN bs) = S at *
  generalize foldN (l.map modN) = J at *
  generalize encTy none t = ct at *
  generalize foldN (bytesN (encSig none f)) = S1 at *
  generalize digM q m = D at *
  generalize hff : encFun none f = ff at *
  generalize foldN (bytesN ff) = S2 at *
  refine callsT_facts Try.func3 facts3 rfl fun hw _ => ?_
  have w1 : ff.length ≤ 2 ^ 46 := by have := z1 hw.2.2.2.1; omega
  have w2 : ct.length ≤ 2 ^ 46 := by have := z2 hw.2.2.1; omega
  have w3 := z3 hw.2.2.2.2.1
  have li : q.impls.length ≤ 9223372036854775807 := by have := b1.2.1; omega
  have h13 := h13 w1
  have h14 := h14 w1
  have h20 := h20 w2
  have h21 := h21 w2
  have h22 := h22 (fun name hn => w3 name (hns name (elem_mem hn))) b1.1 b1.2.1 b1.2.2
  have h23 := h23 (w3 _ (nm_le hns m))
  refine callP t9 rfl fun _ => ?_
  refine brn_p (fun _ => ?_) (fun _ => ?_)
  · exact retP rfl rfl
  refine brn_p (fun _ => ?_) (fun _ => ?_)
  · exact retP rfl rfl
  refine callP (h10 [t]) (by simp only [List.map_cons, List.map_nil, tyC_eq]; rfl) fun _ => ?_
  refine brn_split (fun _ => ?_) (fun _ => ?_)
  · exact retP rfl rfl
  refine callB (h11 f) rfl fun b _ => ?_
  refine brn_split (fun _ => ?_) (fun _ => ?_)
  · exact retP rfl rfl
  refine callB h12 rfl fun b _ => ?_
  refine brn_split (fun _ => ?_) (fun _ => ?_)
  · exact retP rfl rfl
  refine brn_p (fun _ => ?_) (fun _ => ?_)
  · exact retP rfl rfl
  refine brn_p (fun _ => ?_) (fun _ => ?_)
  · exact retP rfl rfl
  refine loopN q.impls.length 14 [] () (fun _ => []) (fun _ => [(8, .box 26 [IC t.kind, IC t.id, .sl (t.args.map tyC)]), (9, .box 30 (funC f)), (10, .box 37 (progC q))]) (fun _ _ => True) trivial (same_keys rfl) trivial ⟨.inl ⟨_, rfl, .inl ⟨rfl, rfl⟩⟩, .inl ⟨_, rfl, .inl ⟨rfl, rfl⟩⟩, .inl ⟨_, rfl, .inl ⟨rfl, rfl⟩⟩, trivial⟩ (fun _ => rfl) (fun _ => rfl) ?_
  rintro k _ hk _ _ _ _
  refine brn_p (fun hlt => ?_) (fun hge => ?_)
  · have hlt : k < q.impls.length := by simpa using hlt
    refine withGet hlt fun x hx _ => ?_
    refine idxT hx rfl rfl ?_
    refine callP (h10 [x.type]) (by simp only [List.map_cons, List.map_nil, tyC_eq]; rfl) fun _ => ?_
    refine brn_split (fun _ => ?_) (fun _ => ?_)
    · exact retP rfl rfl
    refine idxT hx rfl rfl ?_
    refine brn_p (fun _ => ?_) (fun _ => ?_)
    · exact retP rfl rfl
    refine Fit.in64 (by omega) (by omega) ?_
    exact ⟨(k + 1, ()), ⟨hlt, trivial⟩, ⟨nextI, trivial⟩, ⟨.inl ⟨_, rfl, .inl ⟨rfl, rfl⟩⟩, .inl ⟨_, rfl, .inl ⟨rfl, rfl⟩⟩, .inl ⟨_, rfl, .inl ⟨rfl, rfl⟩⟩, trivial⟩, nextM hlt⟩
  refine callP h13 rfl fun _ => ?_
  refine callP h14 rfl fun _ => ?_
  refine callPD h15 rfl fun _ => ?_
  refine callPD h16 rfl fun _ => ?_
  refine brn_p (fun _ => ?_) (fun h => (h rfl).elim)
  refine callPD h17 rfl fun _ => ?_
  refine callPD h18 rfl fun _ => ?_
  refine brn_p (fun _ => ?_) (fun h => (h rfl).elim)
  refine callPD h20 rfl fun _ => ?_
  refine callPD h21 rfl fun _ => ?_
  refine callPD h19 rfl fun _ => ?_
  refine brn_p (fun _ => ?_) (fun h => (h rfl).elim)
  refine brn_p (fun _ => ?_) (fun h => (h rfl).elim)
  refine callPD h22 rfl fun _ => ?_
  refine callPD h23 rfl fun _ => ?_
  have e9 : decide (D = D) = true := decide_eq_true rfl
  exact retP rfl (congrArg C.bool e9)
end Go.Fr.Try
