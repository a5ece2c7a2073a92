/- Part of the proofs of the statements of this seat. -/
import Derived.Test.YtgapnemcomkomaaDgR7G
import Derived.Test.YtgapnemcomkomaaDgCode69
import Derived.Test.YtgapnemcomkomaaDgCode7
/- Digest: the reference implementation: what a module offers (printed by dgr8.py). -/
set_option linter.unusedVariables false
set_option linter.unusedSimpArgs false
namespace Go.Fr.Try
open Go Go.RowKit Go.Proofs Go.Fr Go.Fr.T Go.Fr.Api

theorem rowSt' {els : List (List C)} {j off n : Nat} {es0 : List C} {K : List C → Prop} (h : els[j]? = some es0) (hl : lenC? ((es0.drop off).take n) n = true) (k : K es0) : RowT els j off n fun _ => ∀ es, els[j]? = some es → K es :=
  ⟨es0, h, hl, fun es he => by rw [h] at he; injection he with he; rw [← he]; exact k⟩
def of' {α : Type} (g : α → Int) (m : Int) (l : List α) : List α := l.filter fun x => decide (g x = m)
theorem of_pos {α : Type} {g : α → Int} {m : Int} {x : α} {l : List α} (h : g x = m) : of' g m (x :: l) = x :: of' g m l := by simp [of', h]
theorem of_neg {α : Type} {g : α → Int} {m : Int} {x : α} {l : List α} (h : ¬ g x = m) : of' g m (x :: l) = of' g m l := by simp [of', h]
theorem of_len {α : Type} (g : α → Int) (m : Int) (l : List α) : (of' g m l).length ≤ l.length := List.length_filter_le _ _
theorem module_parts (q : Prog) (name : ByteArray) (m : Int) : encModule q name m = encS name ++ encI (of' (·.module) m q.datas).length ++ (of' (·.module) m q.datas).flatMap (encData (some q)) ++ encI (of' (·.module) m q.impls).length ++ (of' (·.module) m q.impls).flatMap (encImpl q) ++ encI (of' (·.module) m q.funcs).length ++ (of' (·.module) m q.funcs).flatMap (encSig (some q)) := by
  simp only [encModule, encSs, encL, List.flatMap_cons, List.flatMap_nil, List.append_nil, List.append_assoc]
  rfl
set_option maxRecDepth 10000 in
theorem t69 (q : Prog) (m : Int) (hb : (encModule q (nm q.modules m) m).length ≤ 2 ^ 46) : Rb 69 [.agg (progC q), IC m] (encModule q (nm q.modules m) m) := by
  have h83 := t83 q
  have h84 := t84 q
  have h85 := t85 q
  have h86 := t86 q.modules m
  have h76 := t76 (nm q.modules m)
  have h77 : ∀ n, CallsT P 77 [IC n] [] (Ret [] (.sl (bcells (encI n)))) := fun n => (t77 n).give
  rw [module_parts] at hb ⊢
  simp only [List.length_append] at hb
  have h76 := h76 (by omega)
  have n1 := of_len (·.module) m q.datas
  have n2 := of_len (·.module) m q.impls
  have n3 := of_len (·.module) m q.funcs
  generalize encData (some q) = E1 at *
  generalize encImpl q = E2 at *
  generalize encSig (some q) = E3 at *
  generalize nm q.modules m = nme at *
  generalize encS nme = c0 at *
  generalize hD : of' (fun x : Api.Data => x.module) m q.datas = D at *
  generalize hI : of' (fun x : Impl => x.module) m q.impls = I' at *
  generalize hF : of' (fun x : Fun => x.module) m q.funcs = F' at *
  refine callsT_facts Try.func69 yfacts69 rfl fun hw _ => ?_
  have hw' := hw.1
  have l1 : q.datas.length ≤ 9223372036854775807 := wf_lenM hw'.2.2.1
  have l2 : q.impls.length ≤ 9223372036854775807 := wf_lenM hw'.2.2.2.2.2.1
  have l3 : q.funcs.length ≤ 9223372036854775807 := wf_lenM hw'.2.2.2.2.2.2.1
  refine loopN q.datas.length 9 [8, 5] (([] : List UInt8), (0 : Int)) (fun y => [.rw 13, .rw 37]) (fun y => [(2, .box 37 (progC q)), (13, .row 3 1 [[IC y.2], [IC 0], [IC 0]]), (37, .row 5 1 (bcells y.1))]) (fun k y => y.1 ++ (of' (fun x : Api.Data => x.module) m (q.datas.drop k)).flatMap E1 = D.flatMap E1 ∧ y.2 + (of' (fun x : Api.Data => x.module) m (q.datas.drop k)).length = D.length ∧ 0 ≤ y.2) ⟨by rw [List.drop_zero, hD]; rfl, by rw [List.drop_zero, hD]; omega, Int.le_refl 0⟩ (same_keys rfl) ⟨same_keys rfl, .inr (.inr (.inr (.inl ⟨rfl, 37, 5, 1, rfl, rfl, rfl⟩))), trivial⟩
    ⟨.inl ⟨_, rfl, .inl ⟨rfl, rfl⟩⟩, .inl ⟨_, rfl, .inl ⟨rfl, rfl⟩⟩, .inr ⟨rfl, 5, 1, rfl⟩, trivial⟩ (fun _ => rfl) (fun _ => rfl) ?_
  rintro k0 ⟨s0, c0'⟩ hk0 ⟨hinv, hcnt, hc0⟩ _ _ _
  simp only at hinv hcnt hc0
  refine brn_p (fun hlt => ?_) (fun hge => ?_)
  · have hlt : k0 < q.datas.length := by simpa using hlt
    refine withDrop hlt fun x hx hxm hd => ?_
    refine idxT hx rfl rfl ?_
    refine brn_p (fun hm => ?_) (fun hm => ?_)
    · rw [hd, of_pos (g := (fun x : Api.Data => x.module)) hm] at hinv hcnt
      have hsz : s0.length + (E1 x).length ≤ 2 ^ 46 := by
        have := congrArg List.length hinv
        simp only [List.flatMap_cons, List.length_append] at this
        omega
      rw [List.length_cons] at hcnt
      refine idxT hx rfl rfl ?_
      refine callPD (h83 x (by omega)).give rfl fun _ => ?_
      refine appN _ (bcells_len s0) (by omega) ?_
      refine InB.mk (by decide) (by show (_ : Int) < 3; decide) ?_
      refine RowT.mk ⟨[IC c0'], rfl, rfl, ?_⟩
      refine Fit.in64 (by omega) (by omega) ?_
      refine InB.mk (by decide) (by show (_ : Int) < 3; decide) ?_
      refine ⟨rfl, rowSt' (es0 := [IC c0']) rfl rfl ?_⟩
      refine Fit.in64 (by omega) (by omega) ?_
      refine ⟨(k0 + 1, (s0 ++ E1 x, c0' + 1)), ⟨hlt, ?_, ?_, ?_⟩, ⟨nextI, same_keys rfl, same_keys rfl, trivial⟩, ⟨.inl ⟨_, rfl, .inl ⟨rfl, rfl⟩⟩, .inl ⟨_, rfl, .inl ⟨rfl, rfl⟩⟩, .inl ⟨_, rfl, .inl ⟨congrArg (TO.row 5 1) (bcells_app _ _).symm, rfl⟩⟩, trivial⟩, nextM hlt⟩
      · show s0 ++ E1 x ++ _ = _
        rw [← hinv]; simp
      · show c0' + 1 + ((of' (fun x : Api.Data => x.module) m (q.datas.drop (k0 + 1))).length : Int) = _
        omega
      · show 0 ≤ c0' + 1
        omega
    · rw [hd, of_neg (g := (fun x : Api.Data => x.module)) hm] at hinv hcnt
      refine Fit.in64 (by omega) (by omega) ?_
      exact ⟨(k0 + 1, (s0, c0')), ⟨hlt, hinv, hcnt, hc0⟩, ⟨nextI, same_keys rfl, same_keys rfl, trivial⟩, ⟨.inl ⟨_, rfl, .inl ⟨rfl, rfl⟩⟩, .inl ⟨_, rfl, .inl ⟨rfl, rfl⟩⟩, .inl ⟨_, rfl, .inl ⟨rfl, rfl⟩⟩, trivial⟩, nextM hlt⟩
  have hge : ¬ k0 < q.datas.length := by simpa using hge
  rw [drop_end hge] at hinv hcnt
  have e0 : s0 = D.flatMap E1 := by rw [← hinv]; simp [of']
  have f0 : c0' = (D.length : Int) := by simpa [of'] using hcnt
  clear hinv hcnt hge
  refine loopN q.impls.length 10 [8, 5, 6] (([] : List UInt8), (0 : Int)) (fun y => [.rw 13, .rw 37, .rw 66]) (fun y => [(2, .box 37 (progC q)), (13, .row 3 1 [[IC c0'], [IC y.2], [IC 0]]), (37, .row 5 1 (bcells s0)), (66, .row 5 1 (bcells y.1))]) (fun k y => y.1 ++ (of' (fun x : Impl => x.module) m (q.impls.drop k)).flatMap E2 = I'.flatMap E2 ∧ y.2 + (of' (fun x : Impl => x.module) m (q.impls.drop k)).length = I'.length ∧ 0 ≤ y.2) ⟨by rw [List.drop_zero, hI]; rfl, by rw [List.drop_zero, hI]; omega, Int.le_refl 0⟩ (same_keys rfl) ⟨same_keys rfl, same_keys rfl, .inr (.inr (.inr (.inl ⟨rfl, 66, 5, 1, rfl, rfl, rfl⟩))), trivial⟩
    ⟨.inl ⟨_, rfl, .inl ⟨rfl, rfl⟩⟩, .inl ⟨_, rfl, .inl ⟨rfl, rfl⟩⟩, .inl ⟨_, rfl, .inl ⟨rfl, rfl⟩⟩, .inr ⟨rfl, 5, 1, rfl⟩, trivial⟩ (fun _ => rfl) (fun _ => rfl) ?_
  rintro k1 ⟨s1, c1'⟩ hk1 ⟨hinv, hcnt, hc0⟩ _ _ _
  simp only at hinv hcnt hc0
  refine brn_p (fun hlt => ?_) (fun hge => ?_)
  · have hlt : k1 < q.impls.length := by simpa using hlt
    refine withDrop hlt fun x hx hxm hd => ?_
    refine idxT hx rfl rfl ?_
    refine brn_p (fun hm => ?_) (fun hm => ?_)
    · rw [hd, of_pos (g := (fun x : Impl => x.module)) hm] at hinv hcnt
      have hsz : s1.length + (E2 x).length ≤ 2 ^ 46 := by
        have := congrArg List.length hinv
        simp only [List.flatMap_cons, List.length_append] at this
        omega
      rw [List.length_cons] at hcnt
      refine idxT hx rfl rfl ?_
      refine callPD (h84 x (by omega)).give rfl fun _ => ?_
      refine appN _ (bcells_len s1) (by omega) ?_
      refine InB.mk (by decide) (by show (_ : Int) < 3; decide) ?_
      refine RowT.mk ⟨[IC c1'], rfl, rfl, ?_⟩
      refine Fit.in64 (by omega) (by omega) ?_
      refine InB.mk (by decide) (by show (_ : Int) < 3; decide) ?_
      refine ⟨rfl, rowSt' (es0 := [IC c1']) rfl rfl ?_⟩
      refine Fit.in64 (by omega) (by omega) ?_
      refine ⟨(k1 + 1, (s1 ++ E2 x, c1' + 1)), ⟨hlt, ?_, ?_, ?_⟩, ⟨nextI, same_keys rfl, same_keys rfl, same_keys rfl, trivial⟩, ⟨.inl ⟨_, rfl, .inl ⟨rfl, rfl⟩⟩, .inl ⟨_, rfl, .inl ⟨rfl, rfl⟩⟩, .inl ⟨_, rfl, .inl ⟨rfl, rfl⟩⟩, .inl ⟨_, rfl, .inl ⟨congrArg (TO.row 5 1) (bcells_app _ _).symm, rfl⟩⟩, trivial⟩, nextM hlt⟩
      · show s1 ++ E2 x ++ _ = _
        rw [← hinv]; simp
      · show c1' + 1 + ((of' (fun x : Impl => x.module) m (q.impls.drop (k1 + 1))).length : Int) = _
        omega
      · show 0 ≤ c1' + 1
        omega
    · rw [hd, of_neg (g := (fun x : Impl => x.module)) hm] at hinv hcnt
      refine Fit.in64 (by omega) (by omega) ?_
      exact ⟨(k1 + 1, (s1, c1')), ⟨hlt, hinv, hcnt, hc0⟩, ⟨nextI, same_keys rfl, same_keys rfl, same_keys rfl, trivial⟩, ⟨.inl ⟨_, rfl, .inl ⟨rfl, rfl⟩⟩, .inl ⟨_, rfl, .inl ⟨rfl, rfl⟩⟩, .inl ⟨_, rfl, .inl ⟨rfl, rfl⟩⟩, .inl ⟨_, rfl, .inl ⟨rfl, rfl⟩⟩, trivial⟩, nextM hlt⟩
  have hge : ¬ k1 < q.impls.length := by simpa using hge
  rw [drop_end hge] at hinv hcnt
  have e1 : s1 = I'.flatMap E2 := by rw [← hinv]; simp [of']
  have f1 : c1' = (I'.length : Int) := by simpa [of'] using hcnt
  clear hinv hcnt hge
  refine loopN q.funcs.length 11 [8, 5, 6, 7] (([] : List UInt8), (0 : Int)) (fun y => [.rw 13, .rw 37, .rw 66, .rw 95]) (fun y => [(2, .box 37 (progC q)), (13, .row 3 1 [[IC c0'], [IC c1'], [IC y.2]]), (37, .row 5 1 (bcells s0)), (66, .row 5 1 (bcells s1)), (95, .row 5 1 (bcells y.1))]) (fun k y => y.1 ++ (of' (fun x : Fun => x.module) m (q.funcs.drop k)).flatMap E3 = F'.flatMap E3 ∧ y.2 + (of' (fun x : Fun => x.module) m (q.funcs.drop k)).length = F'.length ∧ 0 ≤ y.2) ⟨by rw [List.drop_zero, hF]; rfl, by rw [List.drop_zero, hF]; omega, Int.le_refl 0⟩ (same_keys rfl) ⟨same_keys rfl, same_keys rfl, same_keys rfl, .inr (.inr (.inr (.inl ⟨rfl, 95, 5, 1, rfl, rfl, rfl⟩))), trivial⟩
    ⟨.inl ⟨_, rfl, .inl ⟨rfl, rfl⟩⟩, .inl ⟨_, rfl, .inl ⟨rfl, rfl⟩⟩, .inl ⟨_, rfl, .inl ⟨rfl, rfl⟩⟩, .inl ⟨_, rfl, .inl ⟨rfl, rfl⟩⟩, .inr ⟨rfl, 5, 1, rfl⟩, trivial⟩ (fun _ => rfl) (fun _ => rfl) ?_
  rintro k2 ⟨s2, c2'⟩ hk2 ⟨hinv, hcnt, hc0⟩ _ _ _
  simp only at hinv hcnt hc0
  refine brn_p (fun hlt => ?_) (fun hge => ?_)
  · have hlt : k2 < q.funcs.length := by simpa using hlt
    refine withDrop hlt fun x hx hxm hd => ?_
    refine idxT hx rfl rfl ?_
    refine brn_p (fun hm => ?_) (fun hm => ?_)
    · rw [hd, of_pos (g := (fun x : Fun => x.module)) hm] at hinv hcnt
      have hsz : s2.length + (E3 x).length ≤ 2 ^ 46 := by
        have := congrArg List.length hinv
        simp only [List.flatMap_cons, List.length_append] at this
        omega
      rw [List.length_cons] at hcnt
      refine idxT hx rfl rfl ?_
      refine callPD (h85 x (by omega)).give rfl fun _ => ?_
      refine appN _ (bcells_len s2) (by omega) ?_
      refine InB.mk (by decide) (by show (_ : Int) < 3; decide) ?_
      refine RowT.mk ⟨[IC c2'], rfl, rfl, ?_⟩
      refine Fit.in64 (by omega) (by omega) ?_
      refine InB.mk (by decide) (by show (_ : Int) < 3; decide) ?_
      refine ⟨rfl, rowSt' (es0 := [IC c2']) rfl rfl ?_⟩
      refine Fit.in64 (by omega) (by omega) ?_
      refine ⟨(k2 + 1, (s2 ++ E3 x, c2' + 1)), ⟨hlt, ?_, ?_, ?_⟩, ⟨nextI, same_keys rfl, same_keys rfl, same_keys rfl, same_keys rfl, trivial⟩, ⟨.inl ⟨_, rfl, .inl ⟨rfl, rfl⟩⟩, .inl ⟨_, rfl, .inl ⟨rfl, rfl⟩⟩, .inl ⟨_, rfl, .inl ⟨rfl, rfl⟩⟩, .inl ⟨_, rfl, .inl ⟨rfl, rfl⟩⟩, .inl ⟨_, rfl, .inl ⟨congrArg (TO.row 5 1) (bcells_app _ _).symm, rfl⟩⟩, trivial⟩, nextM hlt⟩
      · show s2 ++ E3 x ++ _ = _
        rw [← hinv]; simp
      · show c2' + 1 + ((of' (fun x : Fun => x.module) m (q.funcs.drop (k2 + 1))).length : Int) = _
        omega
      · show 0 ≤ c2' + 1
        omega
    · rw [hd, of_neg (g := (fun x : Fun => x.module)) hm] at hinv hcnt
      refine Fit.in64 (by omega) (by omega) ?_
      exact ⟨(k2 + 1, (s2, c2')), ⟨hlt, hinv, hcnt, hc0⟩, ⟨nextI, same_keys rfl, same_keys rfl, same_keys rfl, same_keys rfl, trivial⟩, ⟨.inl ⟨_, rfl, .inl ⟨rfl, rfl⟩⟩, .inl ⟨_, rfl, .inl ⟨rfl, rfl⟩⟩, .inl ⟨_, rfl, .inl ⟨rfl, rfl⟩⟩, .inl ⟨_, rfl, .inl ⟨rfl, rfl⟩⟩, .inl ⟨_, rfl, .inl ⟨rfl, rfl⟩⟩, trivial⟩, nextM hlt⟩
  have hge : ¬ k2 < q.funcs.length := by simpa using hge
  rw [drop_end hge] at hinv hcnt
  have e2 : s2 = F'.flatMap E3 := by rw [← hinv]; simp [of']
  have f2 : c2' = (F'.length : Int) := by simpa [of'] using hcnt
  clear hinv hcnt hge
  have q0 : s0.length = (D.flatMap E1).length := by rw [e0]
  have q1 : s1.length = (I'.flatMap E2).length := by rw [e1]
  have q2 : s2.length = (F'.flatMap E3).length := by rw [e2]
  have p0 : (encI c0').length = (encI D.length).length := by rw [f0]
  have p1 : (encI c1').length = (encI I'.length).length := by rw [f1]
  have p2 : (encI c2').length = (encI F'.length).length := by rw [f2]
  refine IdxT.mk ⟨[IC c0'], by decide, rfl, rfl, ?_⟩
  refine callPD h86 rfl fun _ => ?_
  refine callDO h76 rfl rfl ?_
  refine callPD (h77 c0') rfl fun _ => ?_
  refine appN _ (bcells_len c0) (by omega) ?_
  refine appN _ (lenA (bcells_len c0) (bcells_len _)) (by omega) ?_
  refine IdxT.mk ⟨[IC c1'], by decide, rfl, rfl, ?_⟩
  refine callP (h77 c1') rfl fun _ => ?_
  refine appN _ (lenA (lenA (bcells_len c0) (bcells_len _)) (bcells_len _)) (by omega) ?_
  refine appN _ (lenA (lenA (lenA (bcells_len c0) (bcells_len _)) (bcells_len _)) (bcells_len _)) (by omega) ?_
  refine IdxT.mk ⟨[IC c2'], by decide, rfl, rfl, ?_⟩
  refine callP (h77 c2') rfl fun _ => ?_
  refine appN _ (lenA (lenA (lenA (lenA (bcells_len c0) (bcells_len _)) (bcells_len _)) (bcells_len _)) (bcells_len _)) (by omega) ?_
  refine appN (b := s2) _ (lenA (lenA (lenA (lenA (lenA (bcells_len c0) (bcells_len _)) (bcells_len _)) (bcells_len _)) (bcells_len _)) (bcells_len _)) (by omega) ?_
  have e9 : bcells c0 ++ bcells (encI c0') ++ bcells s0 ++ bcells (encI c1') ++ bcells s1 ++ bcells (encI c2') ++ bcells s2 = bcells (c0 ++ encI D.length ++ D.flatMap E1 ++ encI I'.length ++ I'.flatMap E2 ++ encI F'.length ++ F'.flatMap E3) := by
    rw [f0, f1, f2, ← e0, ← e1, ← e2]
    simp only [bcells_app]
  exact retO [105] rfl rfl (rowE e9) rfl
end Go.Fr.Try

/- Digest: small programs, how long the code of a module can be, and the statement on the reference implementation. -/
set_option linter.unusedVariables false
set_option linter.unusedSimpArgs false
namespace Go.Fr.Try
open Go Go.RowKit Go.Proofs Go.Fr Go.Fr.T Go.Fr.Api

theorem encVariant_le {po : Option Prog} (hn : Names po) (v : Variant) (h : WfS (variantC v)) (hs : v.name.size ≤ 1048576) : (encVariant po v).length ≤ 4194304 * v.g.bulk := by
  have w1 := encS_le (s := v.name) (by omega)
  have w2 := encL_le (e := encTy po) (g := Ty.g) (wf_lenM h.2.1) fun t ht => encTy_le hn t (wf_map h.2.1 t ht)
  simp only [encVariant, encSs, List.flatMap_cons, List.flatMap_nil, List.append_nil, List.length_append, Variant.g, G.bulk, G.bulkAll]
  omega
theorem bulk_mem {α : Type} {g : α → G} {x : α} : ∀ {l : List α}, x ∈ l → (g x).bulk ≤ G.bulkAll (l.map g)
  | y :: l, h => by
    simp only [List.map_cons, G.bulkAll]
    rcases List.mem_cons.1 h with rfl | h
    · omega
    · have := bulk_mem (g := g) h; omega
theorem encData_le {po : Option Prog} (hn : Names po) (d : Api.Data) (h : WfS (dataC d)) (hs : d.g.bulk ≤ 1048576) : (encData po d).length ≤ 4194304 * d.g.bulk := by
  have e : d.g.bulk = 6 + d.name.size + G.bulkAll (d.variants.map Variant.g) := by simp only [Data.g, G.bulk, G.bulkAll]; omega
  have w1 := encS_le (s := d.name) (by omega)
  have w2 := encI_le h.2.2.1
  have w3 := encI_le h.2.2.2.2.1
  have w4 := encL_le (e := encVariant po) (g := Variant.g) (wf_lenM h.2.2.2.1) fun v hv => encVariant_le hn v (wf_map h.2.2.2.1 v hv) (by
    have h1 := bulk_mem (g := Variant.g) hv
    have h2 : v.name.size ≤ v.g.bulk := by simp only [Variant.g, G.bulk, G.bulkAll]; omega
    omega)
  simp only [encData, encSs, encIs, List.flatMap_cons, List.flatMap_nil, List.append_nil, List.length_append]
  omega
theorem encImpl_le {q : Prog} (hn : Names (some q)) (x : Impl) (h : WfS (implC x)) : (encImpl q x).length ≤ 8388608 * x.g.bulk := by
  have ht : WfS (tyC x.type) := by
    rw [tyC_eq]
    exact ⟨h.2.2.2.2.1, h.2.2.2.2.2.1, h.2.2.2.2.2.2.1, trivial⟩
  have w1 := encTrait_le hn h.1
  have w2 := encI_le h.2.2.1
  have w3 := encL_le (e := encBound (some q)) (g := Bound.g) (wf_lenM h.2.2.2.1) fun b hb => encBound_le hn b (wf_map h.2.2.2.1 b hb)
  have w4 := encTy_le hn x.type ht
  have w5 : (fnameOf q x.func).size ≤ 1048576 := by
    unfold fnameOf
    cases e : elem q.funcs x.func with
    | none => decide
    | some f => exact hn.2.2.2 f (elem_mem e)
  have w6 := encS_le (s := fnameOf q x.func) (by omega)
  simp only [encImpl, encSs, encIs, List.flatMap_cons, List.flatMap_nil, List.append_nil, List.length_append, Impl.g, G.bulk, G.bulkAll]
  omega
theorem names_of {q : Prog} (h : q.g.bulk ≤ 1048576) : Names (some q) := by
  have e : q.g.bulk = 9 + G.bulkAll (q.modules.map .str) + G.bulkAll (q.uses.map fun l => .sl 1 (l.map I)) + G.bulkAll (q.datas.map Data.g) + G.bulkAll (q.traits.map .str) + G.bulkAll (q.homes.map I) + G.bulkAll (q.impls.map Impl.g) + G.bulkAll (q.funcs.map Fun.g) := by
    simp only [Prog.g, G.bulk, G.bulkAll]; omega
  refine ⟨fun s hs => ?_, fun s hs => ?_, fun d hd => ?_, fun f hf => ?_⟩
  · have := bulk_mem (g := G.str) hs; simp only [G.bulk] at this; omega
  · have := bulk_mem (g := G.str) hs; simp only [G.bulk] at this; omega
  · have h1 := bulk_mem (g := Data.g) hd
    have h2 : d.name.size ≤ d.g.bulk := by simp only [Data.g, G.bulk, G.bulkAll]; omega
    omega
  · have h1 := bulk_mem (g := Fun.g) hf
    have h2 : f.name.size ≤ f.g.bulk := by simp only [Fun.g, G.bulk, G.bulkAll]; omega
    omega
theorem encModule_le {q : Prog} (hb : q.g.bulk ≤ 1048576) (hw : WfS (progC q)) {name : ByteArray} (hname : name.size ≤ 1048576) (m : Int) : (encModule q name m).length ≤ 2 ^ 46 := by
  have hn := names_of hb
  have e : q.g.bulk = 9 + G.bulkAll (q.modules.map .str) + G.bulkAll (q.uses.map fun l => .sl 1 (l.map I)) + G.bulkAll (q.datas.map Data.g) + G.bulkAll (q.traits.map .str) + G.bulkAll (q.homes.map I) + G.bulkAll (q.impls.map Impl.g) + G.bulkAll (q.funcs.map Fun.g) := by
    simp only [Prog.g, G.bulk, G.bulkAll]; omega
  have l1 : q.datas.length ≤ 9223372036854775807 := wf_lenM hw.2.2.1
  have l2 : q.impls.length ≤ 9223372036854775807 := wf_lenM hw.2.2.2.2.2.1
  have l3 : q.funcs.length ≤ 9223372036854775807 := wf_lenM hw.2.2.2.2.2.2.1
  have w0 := encS_le (s := name) (by omega)
  have w1 := encL_le (e := encData (some q)) (g := Data.g) (l := q.datas.filter fun x => decide (x.module = m)) (W := 8388608) (by have := List.length_filter_le (fun x : Api.Data => decide (x.module = m)) q.datas; omega) fun d hd => by
    have hd := (List.mem_filter.1 hd).1
    have := bulk_mem (g := Data.g) hd
    have := encData_le hn d (wf_map hw.2.2.1 d hd) (by omega)
    omega
  have w2 := encL_le (e := encImpl q) (g := Impl.g) (l := q.impls.filter fun x => decide (x.module = m)) (by have := List.length_filter_le (fun x : Impl => decide (x.module = m)) q.impls; omega) fun d hd => encImpl_le hn d (wf_map hw.2.2.2.2.2.1 d (List.mem_filter.1 hd).1)
  have w3 := encL_le (e := encSig (some q)) (g := Fun.g) (l := q.funcs.filter fun x => decide (x.module = m)) (W := 8388608) (by have := List.length_filter_le (fun x : Fun => decide (x.module = m)) q.funcs; omega) fun d hd => by
    have hd := (List.mem_filter.1 hd).1
    have := encSig_le hn d (wf_map hw.2.2.2.2.2.2.1 d hd) (hn.2.2.2 d hd)
    omega
  have b1 := bulk_filter Data.g (fun x : Api.Data => decide (x.module = m)) q.datas
  have b2 := bulk_filter Impl.g (fun x : Impl => decide (x.module = m)) q.impls
  have b3 := bulk_filter Fun.g (fun x : Fun => decide (x.module = m)) q.funcs
  simp only [encModule, encSs, List.flatMap_cons, List.flatMap_nil, List.append_nil, List.length_append]
  omega

set_option maxRecDepth 10000 in
theorem t12 (q : Prog) : CallsT P 12 [.agg (progC q)] [] (Such True) := by
  have h31 := t31'
  have h11 := t11
  generalize few = fw at h31
  refine callsT_facts Try.func12 facts12 rfl fun hw _ => ?_
  have hw := hw.1
  have l1 : q.datas.length ≤ 9223372036854775807 := wf_lenM hw.2.2.1
  have l3 : q.funcs.length ≤ 9223372036854775807 := wf_lenM hw.2.2.2.2.2.2.1
  refine brn_p (fun _ => ?_) (fun _ => ?_)
  · exact retB false rfl rfl (fun _ => trivial)
  refine brn_p (fun _ => ?_) (fun _ => ?_)
  · exact retB false rfl rfl (fun _ => trivial)
  refine brn_p (fun _ => ?_) (fun _ => ?_)
  · exact retB false rfl rfl (fun _ => trivial)
  refine loopN q.datas.length 3 [] () (fun _ => []) (fun _ => [(1, .box 37 (progC q))]) (fun _ _ => True) trivial (same_keys rfl) trivial ⟨.inl ⟨_, rfl, .inl ⟨rfl, rfl⟩⟩, trivial⟩ (fun _ => rfl) (fun _ => rfl) ?_
  rintro k _ hk _ _ _ _
  refine brn_p (fun hlt => ?_) (fun hge => ?_)
  · have hlt : k < q.datas.length := by simpa using hlt
    refine withGet hlt fun d hd hdm => ?_
    have hwd := wf_map hw.2.2.1 d hdm
    have lv : d.variants.length ≤ 9223372036854775807 := wf_lenM hwd.2.2.2.1
    refine idxT hd rfl rfl ?_
    refine brn_p (fun _ => ?_) (fun _ => ?_)
    · exact retB false rfl rfl (fun _ => trivial)
    refine loopN d.variants.length 4 [3] () (fun _ => [IC k]) (fun _ => [(1, .box 37 (progC q))]) (fun _ _ => True) trivial (same_keys rfl) ⟨same_keys rfl, trivial⟩ ⟨.inl ⟨_, rfl, .inl ⟨rfl, rfl⟩⟩, trivial⟩ (fun _ => rfl) (fun _ => rfl) ?_
    rintro j _ hj _ _ _ _
    refine idxT hd rfl rfl ?_
    refine brn_p (fun hlt' => ?_) (fun hge => ?_)
    · have hlt' : j < d.variants.length := by simpa using hlt'
      refine withGet hlt' fun v hv hvm => ?_
      have lf : v.fields.length ≤ 9223372036854775807 := wf_lenM (wf_map hwd.2.2.2.1 v hvm).2.1
      refine idxT hd rfl rfl ?_
      refine idxT hv rfl rfl ?_
      refine brn_p (fun _ => ?_) (fun _ => ?_)
      · exact retB false rfl rfl (fun _ => trivial)
      refine loopN v.fields.length 6 [3, 4, 5] () (fun _ => [IC k, IC j, .sl (v.fields.map tyC)]) (fun _ => [(1, .box 37 (progC q))]) (fun _ _ => True) trivial (same_keys rfl) ⟨same_keys rfl, same_keys rfl, same_keys rfl, trivial⟩ ⟨.inl ⟨_, rfl, .inl ⟨rfl, rfl⟩⟩, trivial⟩ (fun _ => rfl) (fun _ => rfl) ?_
      rintro i _ hi _ _ _ _
      refine brn_p (fun hlt2 => ?_) (fun hge => ?_)
      · have hlt2 : i < v.fields.length := by simpa using hlt2
        refine withGet hlt2 fun t ht _ => ?_
        refine idxTy ht ?_
        refine callP (h31 t) rfl fun _ => ?_
        refine brn_p (fun _ => ?_) (fun _ => ?_)
        · exact retB false rfl rfl (fun _ => trivial)
        refine Fit.in64 (by omega) (by omega) ?_
        exact ⟨(i + 1, ()), ⟨hlt2, trivial⟩, ⟨nextI, same_keys rfl, same_keys rfl, same_keys rfl, trivial⟩, ⟨.inl ⟨_, rfl, .inl ⟨rfl, rfl⟩⟩, trivial⟩, nextM hlt2⟩
      refine Fit.in64 (by omega) (by omega) ?_
      exact ⟨(j + 1, ()), ⟨hlt', trivial⟩, ⟨nextI, same_keys rfl, trivial⟩, ⟨.inl ⟨_, rfl, .inl ⟨rfl, rfl⟩⟩, trivial⟩, nextM hlt'⟩
    refine Fit.in64 (by omega) (by omega) ?_
    exact ⟨(k + 1, ()), ⟨hlt, trivial⟩, ⟨nextI, trivial⟩, ⟨.inl ⟨_, rfl, .inl ⟨rfl, rfl⟩⟩, trivial⟩, nextM hlt⟩
  refine loopN q.funcs.length 7 [] () (fun _ => []) (fun _ => [(1, .box 37 (progC q))]) (fun _ _ => True) trivial (same_keys rfl) trivial ⟨.inl ⟨_, rfl, .inl ⟨rfl, rfl⟩⟩, trivial⟩ (fun _ => rfl) (fun _ => rfl) ?_
  rintro k _ hk _ _ _ _
  refine brn_p (fun hlt => ?_) (fun hge => ?_)
  · have hlt : k < q.funcs.length := by simpa using hlt
    refine withGet hlt fun f hf _ => ?_
    refine idxT hf rfl rfl ?_
    refine callB (h11 f) rfl fun b _ => ?_
    refine brn_split (fun _ => ?_) (fun _ => ?_)
    · exact retB false rfl rfl (fun _ => trivial)
    refine Fit.in64 (by omega) (by omega) ?_
    exact ⟨(k + 1, ()), ⟨hlt, trivial⟩, ⟨nextI, trivial⟩, ⟨.inl ⟨_, rfl, .inl ⟨rfl, rfl⟩⟩, trivial⟩, nextM hlt⟩
  exact retB true rfl rfl (fun _ => trivial)
set_option maxRecDepth 10000 in
theorem t23 (q : Prog) (m : Int) (hb : (encModule q (nm q.modules m) m).length ≤ 2 ^ 46) : CallsT P 23 [.agg (progC q), IC m] [] (Ret [] (.int .i64 (digM q m))) := by
  have h69 := (t69 q m hb).give
  have hlm : (scs q.modules).length = q.modules.length := by simp [scs]
  unfold digM
  cases hn : elem q.modules m with
  | none =>
    have h := elem_none hn
    rw [← hlm] at h
    simp only []
    refine callsT_facts Try.func23 facts23 rfl fun hw _ => ?_
    refine brn_p (fun _ => ?_) (fun h1 => ?_)
    · exact retP rfl rfl
    refine brn_p (fun _ => ?_) (fun h2 => (by omega : False).elim)
    exact retP rfl rfl
  | some name =>
    have h := elem_some hn
    rw [← hlm] at h
    have e : nm q.modules m = name := by simp [nm, hn]
    rw [e] at h69
    simp only []
    generalize encModule q name m = code at *
    refine callsT_facts Try.func23 facts23 rfl fun hw _ => ?_
    refine brn_p (fun h1 => (by omega : False).elim) (fun h1 => ?_)
    refine brn_p (fun h1 => (by omega : False).elim) (fun h2 => ?_)
    refine callP h69 rfl fun _ => ?_
    refine callP (t16 code) rfl fun _ => ?_
    exact retP rfl rfl
set_option maxRecDepth 10000 in
theorem t3 (bs : List UInt8) (l : List Int) (t : Ty) (f : Fun) (q : Prog) (m : Int) (ht : t.g.bulk ≤ 1048576) (hf : f.g.bulk ≤ 1048576) (hq : q.g.bulk ≤ 1048576) :
    CallsT P 3 [.sl (bcells bs), .sl (ics l), .agg (tyC t), .agg (funC f), .agg (progC q), IC m] [] (Ret [] (.bool true)) := by
  have h10 := t10
  have h11 := t11
  have h12 := t12 q
  have h13 := t13 f
  have h14 := t14 f
  have h15 := t15 bs
  have h16 := t16 bs
  have h17 := t17 l
  have h18 := t18 l
  have h20 := t20 t
  have h21 := fun h => (t21 t h).give
  have h22 := t22 q m
  have h23 := t23 q m
  have hname : f.name.size ≤ 1048576 := by
    have : f.name.size + 1 ≤ f.g.bulk := by simp only [Fun.g, G.bulk, G.bulkAll]; omega
    omega
  have z1 := fun h => encFun_le (po := none) trivial f h hname
  have z2 := encTy_le (po := none) trivial t
  have z3 := fun h (name : ByteArray) hn => encModule_le (name := name) hq h hn m
  have hns := (names_of hq).1
  have b1 : q.datas.length ≤ 2 ^ 30 ∧ q.impls.length ≤ 2 ^ 30 ∧ q.funcs.length ≤ 2 ^ 30 := by
    have e : q.g.bulk = 9 + G.bulkAll (q.modules.map .str) + G.bulkAll (q.uses.map fun l => .sl 1 (l.map I)) + G.bulkAll (q.datas.map Data.g) + G.bulkAll (q.traits.map .str) + G.bulkAll (q.homes.map I) + G.bulkAll (q.impls.map Impl.g) + G.bulkAll (q.funcs.map Fun.g) := by
      simp only [Prog.g, G.bulk, G.bulkAll]; omega
    have a1 := bulk_map (f := Data.g) q.datas
    have a2 := bulk_map (f := Impl.g) q.impls
    have a3 := bulk_map (f := Fun.g) q.funcs
    omega
  have h19 := t19 (encTy none t) (encTy none t)
  rw [decide_eq_true (rfl : encTy none t = encTy none t)] at h19
  rw [tyC_eq] at *
  generalize smallL = sm at *
  generalize foldN (bytesN bs) = S at *
  generalize foldN (l.map modN) = J at *
  generalize encTy none t = ct at *
  generalize foldN (bytesN (encSig none f)) = S1 at *
  generalize digM q m = D at *
  generalize hff : encFun none f = ff at *
  generalize foldN (bytesN ff) = S2 at *
  refine callsT_facts Try.func3 facts3 rfl fun hw _ => ?_
  have w1 : ff.length ≤ 2 ^ 46 := by have := z1 hw.2.2.2.1; omega
  have w2 : ct.length ≤ 2 ^ 46 := by have := z2 hw.2.2.1; omega
  have w3 := z3 hw.2.2.2.2.1
  have li : q.impls.length ≤ 9223372036854775807 := by have := b1.2.1; omega
  have h13 := h13 w1
  have h14 := h14 w1
  have h20 := h20 w2
  have h21 := h21 w2
  have h22 := h22 (fun name hn => w3 name (hns name (elem_mem hn))) b1.1 b1.2.1 b1.2.2
  have h23 := h23 (w3 _ (nm_le hns m))
  refine callP t9 rfl fun _ => ?_
  refine brn_p (fun _ => ?_) (fun _ => ?_)
  · exact retP rfl rfl
  refine brn_p (fun _ => ?_) (fun _ => ?_)
  · exact retP rfl rfl
  refine callP (h10 [t]) (by simp only [List.map_cons, List.map_nil, tyC_eq]; rfl) fun _ => ?_
  refine brn_split (fun _ => ?_) (fun _ => ?_)
  · exact retP rfl rfl
  refine callB (h11 f) rfl fun b _ => ?_
  refine brn_split (fun _ => ?_) (fun _ => ?_)
  · exact retP rfl rfl
  refine callB h12 rfl fun b _ => ?_
  refine brn_split (fun _ => ?_) (fun _ => ?_)
  · exact retP rfl rfl
  refine brn_p (fun _ => ?_) (fun _ => ?_)
  · exact retP rfl rfl
  refine brn_p (fun _ => ?_) (fun _ => ?_)
  · exact retP rfl rfl
  refine loopN q.impls.length 14 [] () (fun _ => []) (fun _ => [(8, .box 26 [IC t.kind, IC t.id, .sl (t.args.map tyC)]), (9, .box 30 (funC f)), (10, .box 37 (progC q))]) (fun _ _ => True) trivial (same_keys rfl) trivial ⟨.inl ⟨_, rfl, .inl ⟨rfl, rfl⟩⟩, .inl ⟨_, rfl, .inl ⟨rfl, rfl⟩⟩, .inl ⟨_, rfl, .inl ⟨rfl, rfl⟩⟩, trivial⟩ (fun _ => rfl) (fun _ => rfl) ?_
  rintro k _ hk _ _ _ _
  refine brn_p (fun hlt => ?_) (fun hge => ?_)
  · have hlt : k < q.impls.length := by simpa using hlt
    refine withGet hlt fun x hx _ => ?_
    refine idxT hx rfl rfl ?_
    refine callP (h10 [x.type]) (by simp only [List.map_cons, List.map_nil, tyC_eq]; rfl) fun _ => ?_
    refine brn_split (fun _ => ?_) (fun _ => ?_)
    · exact retP rfl rfl
    refine idxT hx rfl rfl ?_
    refine brn_p (fun _ => ?_) (fun _ => ?_)
    · exact retP rfl rfl
    refine Fit.in64 (by omega) (by omega) ?_
    exact ⟨(k + 1, ()), ⟨hlt, trivial⟩, ⟨nextI, trivial⟩, ⟨.inl ⟨_, rfl, .inl ⟨rfl, rfl⟩⟩, .inl ⟨_, rfl, .inl ⟨rfl, rfl⟩⟩, .inl ⟨_, rfl, .inl ⟨rfl, rfl⟩⟩, trivial⟩, nextM hlt⟩
  refine callP h13 rfl fun _ => ?_
  refine callP h14 rfl fun _ => ?_
  refine callPD h15 rfl fun _ => ?_
  refine callPD h16 rfl fun _ => ?_
  refine brn_p (fun _ => ?_) (fun h => (h rfl).elim)
  refine callPD h17 rfl fun _ => ?_
  refine callPD h18 rfl fun _ => ?_
  refine brn_p (fun _ => ?_) (fun h => (h rfl).elim)
  refine callPD h20 rfl fun _ => ?_
  refine callPD h21 rfl fun _ => ?_
  refine callPD h19 rfl fun _ => ?_
  refine brn_p (fun _ => ?_) (fun h => (h rfl).elim)
  refine brn_p (fun _ => ?_) (fun h => (h rfl).elim)
  refine callPD h22 rfl fun _ => ?_
  refine callPD h23 rfl fun _ => ?_
  have e9 : decide (D = D) = true := decide_eq_true rfl
  exact retP rfl (congrArg C.bool e9)
end Go.Fr.Try

/- Digest: types whose numbers of data types are shifted. -/
set_option linter.unusedVariables false
set_option linter.unusedSimpArgs false
namespace Go.Fr.Try
open Go Go.RowKit Go.Proofs Go.Fr Go.Fr.T Go.Fr.Api

mutual
def shT (n : Int) : Ty → Ty
  | .mk k i l => .mk k (if k = 2 ∧ 0 ≤ i ∧ i < n then i + 1 else i) (shTs n l)
def shTs (n : Int) : List Ty → List Ty
  | [] => []
  | t :: l => shT n t :: shTs n l
end
theorem shTs_map (n : Int) : ∀ l : List Ty, shTs n l = l.map (shT n)
  | [] => rfl
  | t :: l => by rw [shTs, shTs_map n l]; rfl
mutual
def FitT (n : Int) : Ty → Prop
  | .mk k i l => (k = 2 → 0 ≤ i ∧ i < n) ∧ FitTs n l
def FitTs (n : Int) : List Ty → Prop
  | [] => True
  | t :: l => FitT n t ∧ FitTs n l
end
theorem fitTs_iff (n : Int) : ∀ l : List Ty, FitTs n l ↔ ∀ t ∈ l, FitT n t
  | [] => by simp [FitTs]
  | t :: l => by simp [FitTs, fitTs_iff n l]
theorem fitT_iff (n : Int) (t : Ty) : FitT n t ↔ (t.kind = 2 → 0 ≤ t.id ∧ t.id < n) ∧ FitTs n t.args := by
  cases t; simp only [FitT, Ty.kind, Ty.id, Ty.args]
set_option maxRecDepth 10000 in
theorem t26 (n : Int) (l : List Ty) : CallsT P 26 [.sl (l.map tyC), IC n] [] (Such (FitTs n l)) := by
  have ih : ∀ x ∈ l, CallsT P 26 [.sl (x.args.map tyC), IC n] [] (Such (FitTs n x.args)) := fun x hx => t26 n x.args
  have hfi := fitTs_iff n l
  have hf1 := fitT_iff n
  generalize FitT n = FT at *
  generalize FitTs n = FTs at *
  refine callsT_facts Try.func26 facts26 rfl fun hw _ => ?_
  have hlen : l.length ≤ 9223372036854775807 := wf_lenT hw.1
  refine loopN l.length 5 [] () (fun _ => []) (fun _ => []) (fun k _ => ∀ t ∈ l.take k, FT t) (by simp) (same_keys rfl) trivial trivial (fun _ => rfl) (fun _ => rfl) ?_
  rintro k _ hk hinv _ _ _
  refine brn_p (fun hlt => ?_) (fun hge => ?_)
  · have hlt : k < l.length := by simpa using hlt
    refine withGet hlt fun x hx hxm => ?_
    have hstep : FT x → ∀ t ∈ l.take (k + 1), FT t := by
      intro h t ht
      rw [List.take_add_one, hx] at ht
      simp only [List.mem_append, Option.toList_some, List.mem_singleton] at ht
      rcases ht with ht | rfl
      · exact hinv t ht
      · exact h
    have ihx := ih x hxm
    have hfx := hf1 x
    refine idxTy hx ?_
    refine brn_p (fun h2 => ?_) (fun h2 => ?_)
    · refine idxTy hx ?_
      refine brn_p (fun h3 => ?_) (fun h3 => ?_)
      · exact retB false rfl rfl (fun h => by cases h)
      refine idxTy hx ?_
      refine brn_p (fun h4 => ?_) (fun h4 => ?_)
      · exact retB false rfl rfl (fun h => by cases h)
      refine idxTy hx ?_
      refine callB ihx rfl fun b hb => ?_
      refine brn_split (fun h5 => ?_) (fun h5 => ?_)
      · exact retB false rfl rfl (fun h => by cases h)
      have h5 : b = true := by have : (!b) = false := h5; simpa using this
      refine Fit.in64 (by omega) (by omega) ?_
      exact ⟨(k + 1, ()), ⟨hlt, hstep (hfx.2 ⟨fun _ => ⟨by omega, by omega⟩, hb h5⟩)⟩, ⟨nextI, trivial⟩, trivial, nextM hlt⟩
    · refine idxTy hx ?_
      refine callB ihx rfl fun b hb => ?_
      refine brn_split (fun h5 => ?_) (fun h5 => ?_)
      · exact retB false rfl rfl (fun h => by cases h)
      have h5 : b = true := by have : (!b) = false := h5; simpa using this
      refine Fit.in64 (by omega) (by omega) ?_
      exact ⟨(k + 1, ()), ⟨hlt, hstep (hfx.2 ⟨fun h => absurd h h2, hb h5⟩)⟩, ⟨nextI, trivial⟩, trivial, nextM hlt⟩
  · have hge : ¬ k < l.length := by simpa using hge
    rw [List.take_of_length_le (by omega)] at hinv
    exact retB true rfl rfl (fun _ => hfi.2 hinv)
termination_by SizeOf.sizeOf l
decreasing_by
  have h1 := List.sizeOf_lt_of_mem hx
  cases x with
  | mk k i a =>
    simp only [Ty.args]
    simp only [Ty.mk.sizeOf_spec] at h1
    omega
theorem rowF {a b : List (List C)} (h : a = b) : C.sl a = C.sl b := by rw [h]
set_option maxRecDepth 10000 in
theorem t27 (n : Int) (l : List Ty) (f : Ty → Ty) (hl : l.length ≤ 2 ^ 30) (ih : ∀ x ∈ l, CallsT P 28 [.agg [IC x.kind, IC x.id, .sl (x.args.map tyC)], IC n] [] (Ret [] (.agg [IC (f x).kind, IC (f x).id, .sl ((f x).args.map tyC)]))) : CallsT P 27 [.sl (l.map tyC), IC n] [] (Ret [] (.sl ((l.map f).map tyC))) := by
  refine callsT_facts Try.func27 facts27 rfl fun hw _ => ?_
  refine loopN l.length 6 [5] ([] : List Ty) (fun _ => [.rw 21]) (fun s => [(21, .row 26 3 (s.map tyC))]) (fun k s => s = (l.take k).map f) (by simp) (same_keys rfl) ⟨.inr (.inr (.inr (.inl ⟨rfl, 21, 26, 3, rfl, rfl, rfl⟩))), trivial⟩
    ⟨.inr ⟨rfl, 26, 3, rfl⟩, trivial⟩ (fun _ => rfl) (fun _ => rfl) ?_
  rintro k s hk hinv _ _ _
  refine brn_p (fun hlt => ?_) (fun hge => ?_)
  · have hlt : k < l.length := by simpa using hlt
    refine withGet hlt fun x hx hxm => ?_
    have hs : s.length ≤ k := by rw [hinv, List.length_map, List.length_take]; omega
    refine idxTy hx ?_
    refine callP (ih x hxm) rfl fun _ => ?_
    refine AppT.mk ?_ ?_ ?_ ?_
    · intro es he
      rcases List.mem_cons.1 he with rfl | he
      · rfl
      · cases he
    · show (s.map tyC).length + 1 ≤ maxLen
      rw [List.length_map]; simp only [maxLen]; omega
    · show ((s.map tyC).length + 1) * 40 ≤ _
      rw [List.length_map]; omega
    refine Fit.in64 (by omega) (by omega) ?_
    refine ⟨(k + 1, s ++ [f x]), ⟨hlt, ?_⟩, ⟨nextI, same_keys rfl, trivial⟩, ⟨.inl ⟨_, rfl, .inl ⟨?_, rfl⟩⟩, trivial⟩, nextM hlt⟩
    · show s ++ [f x] = (l.take (k + 1)).map f
      rw [List.take_add_one, hx, hinv]; simp
    · have e9 : s.map tyC ++ [[IC (f x).kind, IC (f x).id, .sl ((f x).args.map tyC)]] = (s ++ [f x]).map tyC := by rw [List.map_append, ← tyC_eq]; rfl
      exact congrArg (TO.row 26 3) e9
  · have hge : ¬ k < l.length := by simpa using hge
    rw [List.take_of_length_le (by omega)] at hinv
    have e9 : s.map tyC = (l.map f).map tyC := by rw [hinv]
    exact retF [21] [] ⟨_, [], rfl, rfl, rfl, rfl, rowF e9⟩
theorem sz_args {x : Ty} : x.args.length ≤ x.g.bulk := by
  cases x with
  | mk k i l =>
    have := bulk_map (f := Ty.g) l
    simp only [Ty.args, Ty.g, G.bulk, G.bulkAll, Ty.gs_map]
    omega
set_option maxRecDepth 10000 in
theorem t28' (n : Int) (hn : n ≤ 2 ^ 30) : ∀ (t : Ty), t.g.bulk ≤ 1048576 → CallsT P 28 [.agg [IC t.kind, IC t.id, .sl (t.args.map tyC)], IC n] [] (Ret [] (.agg [IC (shT n t).kind, IC (shT n t).id, .sl ((shT n t).args.map tyC)]))
  | .mk k i l, hb => by
    have hbl : (Ty.g (.mk k i l)).bulk = 4 + G.bulkAll (l.map Ty.g) := by simp only [Ty.g, G.bulk, G.bulkAll, Ty.gs_map]; omega
    have hll := sz_args (x := .mk k i l)
    simp only [Ty.args] at hll
    have h27 := t27 n l (shT n) (by omega) (fun x hx => t28' n hn x (by have := bulk_mem (g := Ty.g) hx; omega))
    rw [shT, shTs_map]
    simp only [Ty.kind, Ty.id, Ty.args]
    generalize l.map (shT n) = l' at *
    refine callsT_facts Try.func28 facts28 rfl fun hw _ => ?_
    refine callPD h27 rfl fun _ => ?_
    refine brn_p (fun h1 => ?_) (fun h1 => ?_)
    · refine brn_p (fun h2 => ?_) (fun h2 => ?_)
      · refine brn_p (fun h3 => ?_) (fun h3 => ?_)
        · refine Fit.in64 (by omega) (by omega) ?_
          have e : i + 1 = (if k = 2 ∧ 0 ≤ i ∧ i < n then i + 1 else i) := by rw [if_pos ⟨h1, by omega, h3⟩]
          exact retP rfl (congrArg (fun z => C.agg [IC k, IC z, .sl (l'.map tyC)]) e)
        · have e : i = (if k = 2 ∧ 0 ≤ i ∧ i < n then i + 1 else i) := by rw [if_neg (fun h => h3 h.2.2)]
          exact retP rfl (congrArg (fun z => C.agg [IC k, IC z, .sl (l'.map tyC)]) e)
      · have e : i = (if k = 2 ∧ 0 ≤ i ∧ i < n then i + 1 else i) := by rw [if_neg (fun h => h2 h.2.1)]
        exact retP rfl (congrArg (fun z => C.agg [IC k, IC z, .sl (l'.map tyC)]) e)
    · have e : i = (if k = 2 ∧ 0 ≤ i ∧ i < n then i + 1 else i) := by rw [if_neg (fun h => h1 h.1)]
      exact retP rfl (congrArg (fun z => C.agg [IC k, IC z, .sl (l'.map tyC)]) e)
termination_by t => SizeOf.sizeOf t
decreasing_by
  have := List.sizeOf_lt_of_mem hx
  simp only [Ty.mk.sizeOf_spec]
  omega
theorem t27s (n : Int) (hn : n ≤ 2 ^ 30) (l : List Ty) (hb : G.bulkAll (l.map Ty.g) ≤ 1048576) : CallsT P 27 [.sl (l.map tyC), IC n] [] (Ret [] (.sl ((l.map (shT n)).map tyC))) :=
  t27 n l (shT n) (by have := bulk_map (f := Ty.g) l; omega) (fun x hx => t28' n hn x (by have := bulk_mem (g := Ty.g) hx; omega))
end Go.Fr.Try

/- Digest: the statement on modules. -/
set_option linter.unusedVariables false
set_option linter.unusedSimpArgs false
namespace Go.Fr.Try
open Go Go.RowKit Go.Proofs Go.Fr Go.Fr.T Go.Fr.Api

def shV (n : Int) (v : Variant) : Variant := { v with fields := v.fields.map (shT n) }
def shD (n : Int) (d : Api.Data) : Api.Data := { d with variants := d.variants.map (shV n) }
def shF (n : Int) (f : Fun) : Fun := { f with blocks := [], locals := f.locals.map (shT n), result := shT n f.result }
def shP (p : Prog) (m : Int) (other : Api.Data) : Prog := { p with datas := other :: p.datas.map (shD p.datas.length), funcs := (of' (fun f : Fun => f.module) m p.funcs).map (shF p.datas.length) }
theorem elem_shift (p : Prog) (m : Int) (other : Api.Data) {i : Int} (h0 : 0 ≤ i) (h1 : i < p.datas.length) : ∃ d, elem p.datas i = some d ∧ elem (shP p m other).datas (i + 1) = some (shD p.datas.length d) := by
  have hlt : i.toNat < p.datas.length := by omega
  refine ⟨p.datas[i.toNat], ?_, ?_⟩
  · unfold elem
    rw [if_neg (by omega), List.getElem?_eq_getElem hlt]
  · unfold elem
    rw [if_neg (by omega), show (i + 1).toNat = i.toNat + 1 by omega]
    simp only [shP, List.getElem?_cons_succ, List.getElem?_map, List.getElem?_eq_getElem hlt, Option.map_some]
theorem encL_map {α β : Type} (e : β → List UInt8) (f : α → β) (e' : α → List UInt8) (l : List α) (h : ∀ x ∈ l, e (f x) = e' x) : encL e (l.map f) = encL e' l := by
  have : (l.map f).flatMap e = l.flatMap e' := by
    induction l with
    | nil => rfl
    | cons x l ih => simp only [List.map_cons, List.flatMap_cons, h x (by simp), ih fun y hy => h y (by simp [hy])]
  simp only [encL, List.length_map, this]
theorem encTy_shift (p : Prog) (m : Int) (other : Api.Data) : ∀ t : Ty, FitT p.datas.length t → encTy (some (shP p m other)) (shT p.datas.length t) = encTy (some p) t
  | .mk k i l, h => by
    rw [FitT, fitTs_iff] at h
    have ih : ∀ x ∈ l, encTy (some (shP p m other)) (shT p.datas.length x) = encTy (some p) x := fun x hx => encTy_shift p m other x (h.2 x hx)
    rw [encTy_eq, encTy_eq, shT, shTs_map]
    simp only [Ty.kind, Ty.id, Ty.args]
    rw [encL_map _ _ _ _ ih]
    congr 2
    by_cases h2 : k = 2
    · obtain ⟨h0, h1⟩ := h.1 h2
      obtain ⟨d, e1, e2⟩ := elem_shift p m other h0 h1
      rw [if_pos ⟨h2, h0, h1⟩, two_of h2 e1, two_of h2 e2]
      rfl
    · rw [if_neg (fun h => h2 h.1)]
      simp [encName, h2]
termination_by t => SizeOf.sizeOf t
decreasing_by
  have := List.sizeOf_lt_of_mem hx
  simp only [Ty.mk.sizeOf_spec]
  omega
theorem encSig_shift (p : Prog) (m : Int) (other : Api.Data) (f : Fun) (hl : FitTs p.datas.length f.locals) (hr : FitT p.datas.length f.result) : encSig (some (shP p m other)) (shF p.datas.length f) = encSig (some p) f := by
  rw [fitTs_iff] at hl
  have ha : argsOf (shF p.datas.length f) = (argsOf f).map (shT p.datas.length) := by
    simp only [argsOf, shF, List.length_map, List.map_take]
  have e1 : encL (encTy (some (shP p m other))) ((argsOf f).map (shT p.datas.length)) = encL (encTy (some p)) (argsOf f) := encL_map _ _ _ _ fun x hx => encTy_shift p m other x (hl x (List.mem_of_mem_take hx))
  have e2 : encTy (some (shP p m other)) (shF p.datas.length f).result = encTy (some p) f.result := encTy_shift p m other f.result hr
  have e3 : encBound (some (shP p m other)) = encBound (some p) := rfl
  simp only [encSig, ha, e1, e2, e3]
  rfl
theorem encData_shift (p : Prog) (m : Int) (other : Api.Data) (d : Api.Data) (h : ∀ v ∈ d.variants, FitTs p.datas.length v.fields) : encData (some (shP p m other)) (shD p.datas.length d) = encData (some p) d := by
  have e1 : encL (encVariant (some (shP p m other))) (d.variants.map (shV p.datas.length)) = encL (encVariant (some p)) d.variants := by
    refine encL_map _ _ _ _ fun v hv => ?_
    have h1 := (fitTs_iff _ _).1 (h v hv)
    simp only [encVariant, shV]
    rw [encL_map _ _ _ _ fun x hx => encTy_shift p m other x (h1 x hx)]
  simp only [encData, shD, e1]
theorem module_shift (p : Prog) (m : Int) (other : Api.Data) (ho : other.module ≠ m) (hi : p.impls = []) (hd : ∀ d ∈ p.datas, ∀ v ∈ d.variants, FitTs p.datas.length v.fields) (hf : ∀ f ∈ p.funcs, FitTs p.datas.length f.locals ∧ FitT p.datas.length f.result) (name : ByteArray) :
    encModule (shP p m other) name m = encModule p name m := by
  have e1 : ((shP p m other).datas.filter fun x => decide (x.module = m)) = (p.datas.filter fun x => decide (x.module = m)).map (shD p.datas.length) := by
    simp only [shP, List.filter_cons, decide_eq_false ho, List.filter_map]
    rfl
  have e2 : ((shP p m other).funcs.filter fun x => decide (x.module = m)) = (p.funcs.filter fun x => decide (x.module = m)).map (shF p.datas.length) := by
    simp only [shP, of', List.filter_map, List.filter_filter]
    congr 1
    refine List.filter_congr fun x _ => ?_
    show (decide (x.module = m) && decide (x.module = m)) = _
    rw [Bool.and_self]
  have e3 : (shP p m other).impls = [] := hi
  have q1 : encL (encData (some (shP p m other))) ((p.datas.filter fun x => decide (x.module = m)).map (shD p.datas.length)) = encL (encData (some p)) (p.datas.filter fun x => decide (x.module = m)) :=
    encL_map _ _ _ _ fun d hd' => encData_shift p m other d (hd d (List.mem_filter.1 hd').1)
  have q2 : encL (encSig (some (shP p m other))) ((p.funcs.filter fun x => decide (x.module = m)).map (shF p.datas.length)) = encL (encSig (some p)) (p.funcs.filter fun x => decide (x.module = m)) :=
    encL_map _ _ _ _ fun f hf' => encSig_shift p m other f (hf f (List.mem_filter.1 hf').1).1 (hf f (List.mem_filter.1 hf').1).2
  unfold encModule
  rw [e1, e2, e3, hi, q1, q2]
  rfl
theorem digM_shift (p : Prog) (m : Int) (other : Api.Data) (ho : other.module ≠ m) (hi : p.impls = []) (hd : ∀ d ∈ p.datas, ∀ v ∈ d.variants, FitTs p.datas.length v.fields) (hf : ∀ f ∈ p.funcs, FitTs p.datas.length f.locals ∧ FitT p.datas.length f.result) :
    digM (shP p m other) m = digM p m := by
  unfold digM
  show (match elem p.modules m with | none => 0 | some name => foldN (bytesN (encModule (shP p m other) name m))) = _
  cases elem p.modules m with
  | none => rfl
  | some name => simp only [module_shift p m other ho hi hd hf name]
end Go.Fr.Try
