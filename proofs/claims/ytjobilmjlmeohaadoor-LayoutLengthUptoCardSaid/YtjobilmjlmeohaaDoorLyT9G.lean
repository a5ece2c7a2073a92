/- Part of the proofs of the statements of this seat. -/
import Derived.Test.YtjobilmjlmeohaaDoorLyS1G
/- Layout: methods of shapes that only read; the sum of words; marks. -/
set_option linter.unusedVariables false
set_option linter.unusedSimpArgs false
namespace Go.Fr.Tryd
open Go Go.RowKit Go.Proofs Go.Fr Go.Fr.T Go.Fr.Api

theorem t60 (k : Int) : CallsT P 60 [IC k] [] (Ret [] (IC 32768)) := by
  refine callsT_facts Tryd.func60 facts60 rfl fun hw _ => ?_
  exact retP rfl rfl
theorem t62 (k : Int) : CallsT P 62 [IC k] [] (Ret [] (IC 1)) := by
  refine callsT_facts Tryd.func62 facts62 rfl fun hw _ => ?_
  exact retP rfl rfl
theorem t64 : CallsT P 64 [.agg []] [] (Ret [] (IC 0)) := by
  refine callsT_facts Tryd.func64 facts64 rfl fun hw _ => ?_
  exact retP rfl rfl
theorem t66 : CallsT P 66 [.agg []] [] (Ret [] (IC 1)) := by
  refine callsT_facts Tryd.func66 facts66 rfl fun hw _ => ?_
  exact retP rfl rfl
theorem t68 (i : Int) (vs : List (List Sh)) (sz sp gr be : Int) : CallsT P 68 [sumA i vs sz sp gr be] [] (Ret [] (IC sp)) := by
  refine callsT_facts Tryd.func68 facts68 rfl fun hw _ => ?_
  exact retP rfl rfl
theorem t70 (i : Int) (vs : List (List Sh)) (sz sp gr be : Int) : CallsT P 70 [sumA i vs sz sp gr be] [] (Ret [] (IC sz)) := by
  refine callsT_facts Tryd.func70 facts70 rfl fun hw _ => ?_
  exact retP rfl rfl
def fWords : Sh → Nat | .num => 66 | .hdl _ => 62 | .sum .. => 70
def fNiches : Sh → Nat | .num => 64 | .hdl _ => 60 | .sum .. => 68
def fPut : Sh → Nat | .num => 65 | .hdl _ => 61 | .sum .. => 69
def fGet : Sh → Nat | .num => 63 | .hdl _ => 59 | .sum .. => 67
theorem m93w : methP P 93 "leasehold/layout.words" = some 66 := by kernel_rfl
theorem m89w : methP P 89 "leasehold/layout.words" = some 62 := by kernel_rfl
theorem m96w : methP P 96 "leasehold/layout.words" = some 70 := by kernel_rfl
theorem m93n : methP P 93 "leasehold/layout.niches" = some 64 := by kernel_rfl
theorem m89n : methP P 89 "leasehold/layout.niches" = some 60 := by kernel_rfl
theorem m96n : methP P 96 "leasehold/layout.niches" = some 68 := by kernel_rfl
theorem m93p : methP P 93 "leasehold/layout.put" = some 65 := by kernel_rfl
theorem m89p : methP P 89 "leasehold/layout.put" = some 61 := by kernel_rfl
theorem m96p : methP P 96 "leasehold/layout.put" = some 69 := by kernel_rfl
theorem m93g : methP P 93 "leasehold/layout.get" = some 63 := by kernel_rfl
theorem m89g : methP P 89 "leasehold/layout.get" = some 59 := by kernel_rfl
theorem m96g : methP P 96 "leasehold/layout.get" = some 67 := by kernel_rfl
theorem methW (s : Sh) : methP P (shTy s) "leasehold/layout.words" = some (fWords s) := by
  cases s
  · exact m93w
  · exact m89w
  · exact m96w
theorem methN (s : Sh) : methP P (shTy s) "leasehold/layout.niches" = some (fNiches s) := by
  cases s
  · exact m93n
  · exact m89n
  · exact m96n
theorem methU (s : Sh) : methP P (shTy s) "leasehold/layout.put" = some (fPut s) := by
  cases s
  · exact m93p
  · exact m89p
  · exact m96p
theorem methG (s : Sh) : methP P (shTy s) "leasehold/layout.get" = some (fGet s) := by
  cases s
  · exact m93g
  · exact m89g
  · exact m96g
theorem mokU (s : Sh) : mOk mOkL (shTy s) "leasehold/layout.put" = true := by cases s <;> rfl
theorem mokG (s : Sh) : mOk mOkL (shTy s) "leasehold/layout.get" = true := by cases s <;> rfl
theorem tW (s : Sh) : CallsT P (fWords s) [shR s] [] (Ret [] (IC s.words)) := by
  cases s with
  | num => rw [shR]; exact t66
  | hdl k => rw [shR]; exact t62 k
  | sum i vs sz sp gr be => rw [shR_sum]; exact t70 i vs sz sp gr be
theorem tN (s : Sh) : CallsT P (fNiches s) [shR s] [] (Ret [] (IC s.niches)) := by
  cases s with
  | num => rw [shR]; exact t64
  | hdl k => rw [shR]; exact t60 k
  | sum i vs sz sp gr be => rw [shR_sum]; exact t68 i vs sz sp gr be
theorem shR_arg (s : Sh) : (shR s).canA.ren (toIn [] 1000) = shR s := by
  cases s with
  | num => rw [shR]; rfl
  | hdl k => rw [shR]; rfl
  | sum i vs sz sp gr be => rw [shR_sum]; rfl
section
variable {L : TL} {ρ : TEnv}
theorem invT {t : TypeId} {nm : String} {f : Nat} {K : Nat → Prop} (hm : methP P t nm = some f) (h : K f) : InvT P t nm K := ⟨f, hm, h⟩
theorem meth0 {f : Nat} {s : Sh} {x : C} {K : TL → TEnv → C → Prop} (h : CallsT P f [shR s] [] (Ret [] x)) (k : Wf x → K L ρ (x.ren (fromIn [])).slt) : CallT P f [shR s] L ρ K :=
  callP h (by show [(shR s).canA.ren (toIn [] 1000)] = _; rw [shR_arg]) k
theorem meth0D {f : Nat} {s : Sh} {x : C} {d : Option Nat} {K : TL → TEnv → C → Prop} (h : CallsT P f [shR s] [] (Ret [] x)) (k : Wf x → K L ρ x.slt) : CallDT P f [shR s] L ρ d K :=
  callPD h (by show [(shR s).canA.ren (toIn [] 1000)] = _; rw [shR_arg]) k
theorem idxSh {l : List Sh} {k : Nat} {s : Sh} {K : List C → Prop} (hx : l[k]? = some s) (h : K [.ifc (shTy s) (shR s)]) : IdxT (l.map shE) (k : Int) 1 K := idxT hx rfl rfl h
theorem idxVr {vs : List (List Sh)} {k : Nat} {l : List Sh} {K : List C → Prop} (hx : vs[k]? = some l) (h : K [.sl (l.map shE)]) : IdxT (vs.map vrE) (k : Int) 1 K := idxT hx rfl rfl h
end
theorem total_take {l : List Sh} {j : Nat} {s : Sh} (h : l[j]? = some s) : total (l.take (j + 1)) = total (l.take j) + s.words := by
  rw [take_snoc h]
  have : ∀ a b : List Sh, total (a ++ b) = total a + total b := by
    intro a b
    induction a with
    | nil => simp [total]
    | cons x a ih => simp only [List.cons_append, total, ih]; omega
  rw [this]; simp [total]
set_option maxRecDepth 10000 in
theorem t43 (l : List Sh) (hg : ∀ s ∈ l, Good s) (hc : cntFs l ≤ 2 ^ 30) : CallsT P 43 [.sl (l.map shE)] [] (Ret [] (IC (total l))) := by
  have hb : ∀ j, 0 ≤ total (l.take j) ∧ total (l.take j) ≤ 2 ^ 30 := by
    intro j
    have h1 := total_bd (l := l.take j) fun s hs => words_bd (hg s (List.mem_of_mem_take hs))
    have h2 : cntFs (l.take j) ≤ cntFs l := by
      have : ∀ a b : List Sh, cntFs (a ++ b) = cntFs a + cntFs b := by
        intro a b
        induction a with
        | nil => simp [cntFs]
        | cons x a ih => simp only [List.cons_append, cntFs, ih]; omega
      have h3 := this (l.take j) (l.drop j)
      rw [List.take_append_drop] at h3
      omega
    omega
  have hn : l.length ≤ 2 ^ 30 := by have := cntFs_len l; omega
  refine callsT_facts Tryd.func43 facts43 rfl fun hw _ => ?_
  have hm : (l.map shE).length = l.length := List.length_map _
  refine loopN l.length 8 [3] (0 : Int) (fun n => [IC n]) (fun _ => []) (fun j n => n = total (l.take j)) (by simp [total]) (same_keys rfl) ⟨same_keys rfl, trivial⟩ trivial (fun _ => rfl) (fun _ => rfl) ?_
  rintro j n hj hinv _ _ _
  have hbj := hb j
  refine brn_p (fun hlt => ?_) (fun hge => ?_)
  · have hlt : j < l.length := by omega
    refine withGet hlt fun s hs hsm => ?_
    have htt := total_take hs
    have hbj1 := hb (j + 1)
    refine idxSh hs ?_
    refine invT (methW s) ?_
    refine meth0 (tW s) fun _ => ?_
    refine Fit.in64 (by omega) (by omega) ?_
    refine Fit.in64 (by omega) (by omega) ?_
    exact ⟨(j + 1, n + s.words), ⟨hlt, by rw [htt, hinv]⟩, ⟨nextI, same_keys rfl, trivial⟩, trivial, nextM hlt⟩
  · have hge : ¬ j < l.length := by omega
    have e : IC n = IC (total l) := by rw [hinv, List.take_of_length_le (by omega)]
    exact retP rfl e
theorem t71 (i : Int) (vs : List (List Sh)) (sz sp gr be k : Int) (h0 : 0 ≤ k) (h1 : k ≤ 2 ^ 30) (h2 : 0 ≤ be) (h3 : be ≤ 2 ^ 30) : CallsT P 71 [sumA i vs sz sp gr be, IC k] [] (Ret [] (.tup [IC ((markM gr be k).getD 0), .bool (markM gr be k).isSome])) := by
  generalize hm : markM gr be k = m
  rw [markM] at hm
  refine callsT_facts Tryd.func71 facts71 rfl fun hw _ => ?_
  refine brn_p (fun q1 => ?_) (fun q1 => ?_)
  · have e : C.tup [IC k, .bool true] = .tup [IC (m.getD 0), .bool m.isSome] := by rw [← hm, if_pos q1]; rfl
    exact retP rfl e
  refine brn_p (fun q2 => ?_) (fun q2 => ?_)
  · have e : C.tup [IC 0, .bool false] = .tup [IC (m.getD 0), .bool m.isSome] := by rw [← hm, if_neg q1, if_pos q2]; rfl
    exact retP rfl e
  refine brn_p (fun q3 => ?_) (fun q3 => ?_)
  · have e : C.tup [IC (be + k), .bool true] = .tup [IC (m.getD 0), .bool m.isSome] := by rw [← hm, if_neg q1, if_neg q2, if_pos q3]; rfl
    refine Fit.in64 (by omega) (by omega) ?_
    exact retP rfl e
  · have e : C.tup [IC (be + k - 1), .bool true] = .tup [IC (m.getD 0), .bool m.isSome] := by rw [← hm, if_neg q1, if_neg q2, if_neg q3]; rfl
    refine Fit.in64 (by omega) (by omega) ?_
    refine Fit.in64 (by omega) (by omega) ?_
    exact retP rfl e
end Go.Fr.Tryd

/- Layout: the layout of a data type is made. -/
set_option linter.unusedVariables false
set_option linter.unusedSimpArgs false
namespace Go.Fr.Tryd
open Go Go.RowKit Go.Proofs Go.Fr Go.Fr.T Go.Fr.Api

/-- what is known of the great variant -/
def GrOk (vs : List (List Sh)) (gr : Int) : Prop := gr = -1 ∨ (0 ≤ gr ∧ ∃ s l, vs[gr.toNat]? = some (s :: l))
theorem foldV_gr {vs : List (List Sh)} : ∀ {r : List (List Sh)} {k : Nat} {sz gr wi : Int}, r = vs.drop k → GrOk vs gr → GrOk vs (foldV r k (sz, gr, wi)).2.1
  | [], k, sz, gr, wi, _, h => h
  | l :: r, k, sz, gr, wi, hr, h => by
    rw [foldV]
    have hk : k < vs.length := by
      rcases Nat.lt_or_ge k vs.length with h | h
      · exact h
      · rw [List.drop_of_length_le h] at hr; cases hr
    rw [List.drop_eq_getElem_cons hk] at hr
    injection hr with h1 h2
    refine foldV_gr (k := k + 1) h2 ?_
    split
    · exact h
    · rename_i hl
      refine .inr ⟨by omega, ?_⟩
      cases l with
      | nil => exact absurd rfl hl
      | cons s l => exact ⟨s, l, by rw [show (k : Int).toNat = k from rfl, List.getElem?_eq_getElem hk, ← h1]⟩
theorem freeOf_get {vs : List (List Sh)} {gr : Int} {s : Sh} {l : List Sh} (h0 : 0 ≤ gr) (h : vs[gr.toNat]? = some (s :: l)) : freeOf vs gr = s.niches := by
  rw [freeOf, if_pos h0, h]; rfl
theorem newSum_some (i : Int) (vs : List (List Sh)) : ∃ sz sp gr be, newSum i vs = .sum i vs sz sp gr be := by
  simp only [newSum]
  split
  · exact ⟨_, _, _, _, rfl⟩
  · split
    · exact ⟨_, _, _, _, rfl⟩
    · exact ⟨_, _, _, _, rfl⟩
theorem freeOf_bd {vs : List (List Sh)} {gr : Int} (h : ∀ l ∈ vs, ∀ s ∈ l, 0 ≤ s.niches ∧ s.niches ≤ 65535) : 0 ≤ freeOf vs gr ∧ freeOf vs gr ≤ 65535 := by
  rw [freeOf]
  split
  · cases hv : vs[gr.toNat]? with
    | none => exact ⟨Int.le_refl 0, by decide⟩
    | some l =>
      cases l with
      | nil => exact ⟨Int.le_refl 0, by decide⟩
      | cons s l => exact h _ (List.mem_of_getElem? hv) s (by simp)
  · exact ⟨Int.le_refl 0, by decide⟩
theorem niches_bd : ∀ {s : Sh}, Good s → 0 ≤ s.niches ∧ s.niches ≤ 65535
  | .num, _ => by simp [Sh.niches]
  | .hdl _, _ => by simp [Sh.niches]
  | .sum i vs sz sp gr be, h => by
    rw [Good, goodVs_iff] at h
    have ih := freeOf_bd (vs := vs) (gr := (foldV vs 0 (0, -1, 0)).2.1) fun l hl s hs => niches_bd (h.2.2.2 l hl s hs)
    have h0 : 0 < vs.length := List.length_pos_iff.2 h.1
    have h1 := h.2.1
    have h2 := h.2.2.1
    simp only [newSum] at h2
    simp only [Sh.niches]
    split at h2
    · injection h2 with _ _ _ h2 _ _; omega
    · split at h2
      · injection h2 with _ _ _ h2 _ _; omega
      · injection h2 with _ _ _ h2 _ _; omega
termination_by s => SizeOf.sizeOf s
decreasing_by
  have h1 := List.sizeOf_lt_of_mem hs
  have h2 := List.sizeOf_lt_of_mem hl
  simp only [Sh.sum.sizeOf_spec]
  omega
section
variable {L : TL} {ρ : TEnv}
theorem idxVrZ {vs : List (List Sh)} {z : Int} {l : List Sh} {K : List C → Prop} (h0 : 0 ≤ z) (hx : vs[z.toNat]? = some l) (h : K [.sl (l.map shE)]) : IdxT (vs.map vrE) z 1 K :=
  ⟨_, h0, by rw [List.getElem?_map, hx]; rfl, rfl, h⟩
end
theorem wf_of_bd {n : Int} (h1 : -9223372036854775808 ≤ n) (h2 : n ≤ 9223372036854775807) : (Lit.int .i64 n).wf = true := by
  simp only [Lit.wf, Bool.and_eq_true, decide_eq_true_eq]
  exact ⟨h1, h2⟩
abbrev sumL (i : Int) (vs : List (List Sh)) (sz sp gr be : Int) : List C := [IC i, .sl (vs.map vrE), IC sz, IC sp, IC gr, IC be]
set_option maxRecDepth 10000 in
theorem t40o (i : Int) (vs : List (List Sh)) (sz sp gr be : Int) (hns : newSum i vs = .sum i vs sz sp gr be) (hv0 : vs ≠ []) (hv1 : vs.length ≤ 16) (hg : ∀ l ∈ vs, ∀ s ∈ l, Good s) (hc : cntVs vs ≤ 2 ^ 29) :
    CallsT P 40 [IC i, .sl (vs.map vrE)] [] (Ret [.box 101 (sumL i vs sz sp gr be)] (.own 1000 0)) := by
  have hv2 : 0 < vs.length := List.length_pos_iff.2 hv0
  have htot : ∀ l ∈ vs, 0 ≤ total l ∧ total l ≤ 2 ^ 29 := fun l hl => by
    have h1 := total_bd fun s hs => words_bd (hg l hl s hs)
    have h2 := cntVs_mem hl
    omega
  have h43 : ∀ l ∈ vs, CallsT P 43 [.sl (l.map shE)] [] (Ret [] (IC (total l))) := fun l hl => t43 l (hg l hl) (by have := cntVs_mem hl; omega)
  have hlen : ∀ l ∈ vs, l.length ≤ 2 ^ 29 := fun l hl => by
    have h2 := cntVs_mem hl
    have h3 := cntFs_len l
    omega
  have hnb : ∀ l ∈ vs, ∀ s ∈ l, 0 ≤ s.niches ∧ s.niches ≤ 65535 := fun l hl s hs => niches_bd (hg l hl s hs)
  have hfr : ∀ z : Int, 0 ≤ freeOf vs z ∧ freeOf vs z ≤ 65535 := fun z => freeOf_bd hnb
  have hE : ∀ a : Int × Int × Int, foldV vs 0 (0, -1, 0) = a → Sh.sum i vs sz sp gr be = (if (vs.length : Int) - 1 = 0 then Sh.sum i vs a.1 (freeOf vs a.2.1) 0 0
      else if a.2.2 = 1 ∧ (vs.length : Int) - 1 ≤ freeOf vs a.2.1 then .sum i vs a.1 (freeOf vs a.2.1 - (vs.length - 1)) a.2.1 (65536 - freeOf vs a.2.1)
      else .sum i vs (a.1 + 1) (65536 - vs.length) (-1) 0) := by
    intro a ha
    rw [← hns, newSum, ha]
  have hfold : ∀ (k : Nat) (s g w : Int) l r, vs.drop k = l :: r → foldV (vs.drop k) k (s, g, w) = foldV r ((k + 1 : Nat) : Int) (max s (total l), if l = [] then g else k, if l = [] then w else w + 1) := by
    intro k s g w l r h; rw [h, foldV]; rfl
  have hgr0 : ∀ {k : Nat} {g : Int} {l : List Sh}, vs[k]? = some l → ¬ l = [] → GrOk vs (k : Int) := by
    intro k g l h1 h2
    cases l with
    | nil => exact absurd rfl h2
    | cons s l => exact .inr ⟨by omega, s, l, h1⟩
  generalize hfin : foldV vs 0 (0, -1, 0) = fin at hE
  have hE := hE fin rfl
  generalize hres : sumL i vs sz sp gr be = res
  have hcell : ∀ z p g b, Sh.sum i vs sz sp gr be = .sum i vs z p g b → sumL i vs z p g b = res := by
    intro z p g b h
    injection h with _ _ h1 h2 h3 h4
    rw [← hres, h1, h2, h3, h4]
  refine callsT_facts Tryd.func40 facts40 rfl fun hw _ => ?_
  have hm : (vs.map vrE).length = vs.length := List.length_map _
  refine loopN vs.length 17 [6] ((0, -1, 0) : Int × Int × Int) (fun s => [IC s.2.2]) (fun s => [(14, .box 101 [IC i, .sl (vs.map vrE), IC s.1, IC 0, IC s.2.1, IC 0])])
    (fun j s => foldV (vs.drop j) j s = fin ∧ 0 ≤ s.1 ∧ s.1 ≤ 2 ^ 29 ∧ GrOk vs s.2.1 ∧ 0 ≤ s.2.2 ∧ s.2.2 ≤ j) ⟨by rw [← hfin]; rfl, by decide, by decide, .inl rfl, by decide, by decide⟩ (same_keys rfl) ⟨same_keys rfl, trivial⟩ ⟨.inl ⟨_, rfl, .inl ⟨rfl, rfl⟩⟩, trivial⟩ (fun _ => rfl) (fun _ => rfl) ?_
  rintro j ⟨s, g, w⟩ hj ⟨hinv, hs0, hs1, hgo, hw0, hw1⟩ _ _ _
  have hw1' : w ≤ (j : Int) := hw1
  have hs1' : s ≤ 2 ^ 29 := hs1
  have hs0' : 0 ≤ s := hs0
  have hw0' : 0 ≤ w := hw0
  refine brn_p (fun hlt => ?_) (fun hge => ?_)
  · have hlt : j < vs.length := by omega
    refine withDrop hlt fun l hl hlm hdr => ?_
    have htl := htot l hlm
    have hll := hlen l hlm
    have hlE : (l.map shE).length = l.length := List.length_map _
    have hinv2 := hinv
    rw [hfold j s g w l _ hdr] at hinv2
    refine idxVr hl ?_
    refine callPD (h43 l hlm) rfl fun _ => ?_
    have hmax : (if total l > s then total l else s) = max s (total l) := by split <;> omega
    have hmw : (Lit.int .i64 (if total l > s then total l else s)).wf = true := by
      rw [hmax]
      exact wf_of_bd (by omega) (by omega)
    refine ⟨hmw, ?_⟩
    refine brn_p (fun hpos => ?_) (fun hz => ?_)
    · have hne : ¬ l = [] := by intro h; rw [h] at hpos; simp at hpos
      refine Fit.in64 (by omega) (by omega) ?_
      refine Fit.in64 (by omega) (by omega) ?_
      refine ⟨(j + 1, (max s (total l), (j : Int), w + 1)), ⟨hlt, ?_, by show 0 ≤ max s (total l); omega, by show max s (total l) ≤ 2 ^ 29; omega, hgr0 (g := g) hl hne, by show 0 ≤ w + 1; omega, by show w + 1 ≤ ((j + 1 : Nat) : Int); omega⟩, ⟨nextI, same_keys rfl, trivial⟩, ⟨.inl ⟨_, rfl, .inl ⟨by rw [hmax], rfl⟩⟩, trivial⟩, nextM hlt⟩
      rw [if_neg hne, if_neg hne] at hinv2
      exact hinv2
    · have hne : l = [] := by
        cases l with
        | nil => rfl
        | cons x l => simp at hz
      refine Fit.in64 (by omega) (by omega) ?_
      refine ⟨(j + 1, (max s (total l), g, w)), ⟨hlt, ?_, by show 0 ≤ max s (total l); omega, by show max s (total l) ≤ 2 ^ 29; omega, hgo, hw0, by show w ≤ ((j + 1 : Nat) : Int); omega⟩, ⟨nextI, same_keys rfl, trivial⟩, ⟨.inl ⟨_, rfl, .inl ⟨by rw [hmax], rfl⟩⟩, trivial⟩, nextM hlt⟩
      rw [if_pos hne, if_pos hne] at hinv2
      exact hinv2
  · have hge : ¬ j < vs.length := by omega
    have hfin2 : (s, g, w) = fin := by
      have h := hinv
      rw [drop_end hge] at h
      exact h
    have hE2 := hE
    rw [← hfin2] at hE2
    have hfg := hfr g
    refine Fit.in64 (by omega) (by omega) ?_
    have tail : ∀ (fr : Int), fr = freeOf vs g → True := fun _ _ => trivial
    refine brn_p (fun hg0 => ?_) (fun hg0 => ?_)
    · have hgo2 : ∃ p : Sh × List Sh, vs[g.toNat]? = some (p.1 :: p.2) := by
        rcases hgo with h | ⟨_, s', l', h⟩
        · have h : g = -1 := h
          omega
        · exact ⟨(s', l'), h⟩
      refine exE hgo2 fun p hp => ?_
      have hfree : freeOf vs g = p.1.niches := freeOf_get hg0 hp
      refine idxVrZ hg0 hp ?_
      refine idxSh (k := 0) (l := p.1 :: p.2) rfl ?_
      refine invT (methN p.1) ?_
      refine meth0 (tN p.1) fun _ => ?_
      refine brn_p (fun ho => ?_) (fun ho => ?_)
      · have e := hcell _ _ _ _ (hE2.trans (if_pos (by omega)))
        rw [hfree] at e
        exact retO [14] rfl rfl (congrArg (fun z => [TO.box 101 z]) e) rfl
      · refine brn_p (fun hw1 => ?_) (fun hw1 => ?_)
        · refine brn_p (fun hle => ?_) (fun hle => ?_)
          · have e := hcell _ _ _ _ (hE2.trans ((if_neg (by omega)).trans (if_pos ⟨hw1, by rw [hfree]; omega⟩)))
            rw [hfree] at e
            refine Fit.in64 (by omega) (by omega) ?_
            refine Fit.in64 (by omega) (by omega) ?_
            rw [hm]
            exact retO [14] rfl rfl (congrArg (fun z => [TO.box 101 z]) e) rfl
          · have e := hcell _ _ _ _ (hE2.trans ((if_neg (by omega)).trans (if_neg (fun h => hle (by have := h.2; rw [hfree] at this; omega)))))
            refine Fit.in64 (by omega) (by omega) ?_
            refine Fit.in64 (by omega) (by omega) ?_
            rw [hm]
            exact retO [14] rfl rfl (congrArg (fun z => [TO.box 101 z]) e) rfl
        · have e := hcell _ _ _ _ (hE2.trans ((if_neg (by omega)).trans (if_neg (fun h => hw1 h.1))))
          refine Fit.in64 (by omega) (by omega) ?_
          refine Fit.in64 (by omega) (by omega) ?_
          rw [hm]
          exact retO [14] rfl rfl (congrArg (fun z => [TO.box 101 z]) e) rfl
    · have hfree : freeOf vs g = 0 := by rw [freeOf, if_neg hg0]
      refine brn_p (fun ho => ?_) (fun ho => ?_)
      · have e := hcell _ _ _ _ (hE2.trans (if_pos (by omega)))
        rw [hfree] at e
        exact retO [14] rfl rfl (congrArg (fun z => [TO.box 101 z]) e) rfl
      · refine brn_p (fun hw1 => ?_) (fun hw1 => ?_)
        · refine brn_p (fun hle => ?_) (fun hle => ?_)
          · omega
          · have e := hcell _ _ _ _ (hE2.trans ((if_neg (by omega)).trans (if_neg (fun h => hle (by have := h.2; rw [hfree] at this; omega)))))
            refine Fit.in64 (by omega) (by omega) ?_
            refine Fit.in64 (by omega) (by omega) ?_
            rw [hm]
            exact retO [14] rfl rfl (congrArg (fun z => [TO.box 101 z]) e) rfl
        · have e := hcell _ _ _ _ (hE2.trans ((if_neg (by omega)).trans (if_neg (fun h => hw1 h.1))))
          refine Fit.in64 (by omega) (by omega) ?_
          refine Fit.in64 (by omega) (by omega) ?_
          rw [hm]
          exact retO [14] rfl rfl (congrArg (fun z => [TO.box 101 z]) e) rfl
theorem t40 (i : Int) (vs : List (List Sh)) (hv0 : vs ≠ []) (hv1 : vs.length ≤ 16) (hg : ∀ l ∈ vs, ∀ s ∈ l, Good s) (hc : cntVs vs ≤ 2 ^ 29) :
    CallsT P 40 [IC i, .sl (vs.map vrE)] [] (Ret [] (shR (newSum i vs))) := by
  obtain ⟨sz, sp, gr, be, h⟩ := newSum_some i vs
  rw [h, shR_sum]
  exact (t40o i vs sz sp gr be h hv0 hv1 hg hc).giveB rfl rfl
end Go.Fr.Tryd

/- Layout: the layout of a type is found. -/
set_option linter.unusedVariables false
set_option linter.unusedSimpArgs false
namespace Go.Fr.Tryd
open Go Go.RowKit Go.Proofs Go.Fr Go.Fr.T Go.Fr.Api

def shO : Option Sh → C
  | none => .opq 0
  | some s => shA s
abbrev PlnS (p : Ty → Int → Option Sh × Int) : Prop := ∀ t n, 0 ≤ n → ∀ s m, p t n = (some s, m) → Good s ∧ 0 ≤ m ∧ (s.cnt : Int) = n - m
abbrev PlnB (p : Ty → Int → Option Sh × Int) : Prop := ∀ t n, 0 ≤ n → -1 ≤ (p t n).2 ∧ (p t n).2 ≤ n
theorem planFs_ok {p : Ty → Int → Option Sh × Int} (hp : PlnS p) : ∀ {l : List Ty} {n m : Int} {ss : List Sh}, 0 ≤ n → planFs p l n = (some ss, m) → GoodFs ss ∧ 0 ≤ m ∧ (cntFs ss : Int) = n - m ∧ ss.length = l.length
  | [], n, m, ss, h0, h => by
    rw [planFs] at h
    injection h with h1 h2
    injection h1 with h1
    subst h1 h2
    simp [GoodFs, cntFs, h0]
  | x :: l, n, m, ss, h0, h => by
    rw [planFs] at h
    split at h
    · injection h with h1 h2; cases h1
    · rename_i s k hs
      obtain ⟨g1, g2, g3⟩ := hp x n h0 s k hs
      split at h
      · injection h with h1 h2; cases h1
      · rename_i ss' k' hss
        obtain ⟨f1, f2, f3, f4⟩ := planFs_ok hp g2 hss
        injection h with h1 h2
        injection h1 with h1
        subst h1 h2
        simp only [GoodFs, cntFs, List.length_cons]
        exact ⟨⟨g1, f1⟩, f2, by omega, by omega⟩
theorem planVs_ok {p : Ty → Int → Option Sh × Int} (hp : PlnS p) {t : Ty} : ∀ {l : List Variant} {n m : Int} {ss : List (List Sh)}, 0 ≤ n → planVs p t l n = (some ss, m) → GoodVs ss ∧ 0 ≤ m ∧ (cntVs ss : Int) = n - m ∧ ss.length = l.length
  | [], n, m, ss, h0, h => by
    rw [planVs] at h
    injection h with h1 h2
    injection h1 with h1
    subst h1 h2
    simp [GoodVs, cntVs, h0]
  | x :: l, n, m, ss, h0, h => by
    rw [planVs] at h
    split at h
    · injection h with h1 h2; cases h1
    · rename_i s k hs
      obtain ⟨g1, g2, g3, _⟩ := planFs_ok hp h0 hs
      split at h
      · injection h with h1 h2; cases h1
      · rename_i ss' k' hss
        obtain ⟨f1, f2, f3, f4⟩ := planVs_ok hp g2 hss
        injection h with h1 h2
        injection h1 with h1
        subst h1 h2
        simp only [GoodVs, cntVs, List.length_cons]
        exact ⟨⟨g1, f1⟩, f2, by omega, by omega⟩
theorem good_newSum {i : Int} {vs : List (List Sh)} (h0 : vs ≠ []) (h1 : vs.length ≤ 16) (hg : GoodVs vs) : Good (newSum i vs) := by
  obtain ⟨sz, sp, gr, be, h⟩ := newSum_some i vs
  rw [h, Good]
  exact ⟨h0, h1, h, hg⟩
theorem cnt_newSum (i : Int) (vs : List (List Sh)) : (newSum i vs).cnt = 1 + cntVs vs := by
  obtain ⟨sz, sp, gr, be, h⟩ := newSum_some i vs
  rw [h, Sh.cnt]
theorem plan_ok (ds : List Api.Data) : ∀ f : Nat, PlnS (plan ds f)
  | 0, t, n, h0, s, m, h => by rw [plan] at h; injection h with h1 h2; cases h1
  | f + 1, t, n, h0, s, m, h => by
    rw [plan] at h
    split at h
    · injection h with h1 h2; cases h1
    · rename_i hn
      split at h
      · injection h with h1 h2
        injection h1 with h1
        subst h1 h2
        exact ⟨trivial, by omega, by simp only [Sh.cnt]; omega⟩
      · split at h
        · injection h with h1 h2
          injection h1 with h1
          subst h1 h2
          exact ⟨trivial, by omega, by simp only [Sh.cnt]; omega⟩
        · split at h
          · injection h with h1 h2; cases h1
          · split at h
            · injection h with h1 h2; cases h1
            · rename_i hodd
              split at h
              · injection h with h1 h2; cases h1
              · rename_i vs m' hvs
                obtain ⟨g1, g2, g3, g4⟩ := planVs_ok (plan_ok ds f) (by omega) hvs
                injection h with h1 h2
                injection h1 with h1
                subst h1 h2
                have hl : ¬ ((dataAt ds t).variants.length : Int) < 1 := fun q => hodd (.inr (.inl q))
                have hl2 : ¬ 16 < ((dataAt ds t).variants.length : Int) := fun q => hodd (.inr (.inr q))
                refine ⟨good_newSum (fun e => by rw [e] at g4; simp at g4; omega) (by omega) g1, g2, ?_⟩
                rw [cnt_newSum]; omega
theorem planFs_bd {p : Ty → Int → Option Sh × Int} (hs : PlnS p) (hp : PlnB p) : ∀ (l : List Ty) (n : Int), 0 ≤ n → -1 ≤ (planFs p l n).2 ∧ (planFs p l n).2 ≤ n
  | [], n, h0 => by rw [planFs]; exact ⟨by show -1 ≤ n; omega, Int.le_refl n⟩
  | x :: l, n, h0 => by
    rw [planFs]
    have hb := hp x n h0
    cases h : p x n with
    | mk o m =>
      rw [h] at hb
      cases o with
      | none => exact hb
      | some s =>
        have h2 := planFs_bd hs hp l m (hs x n h0 s m h).2.1
        have hb1 : m ≤ n := hb.2
        simp only []
        cases h3 : planFs p l m with
        | mk o2 k =>
          rw [h3] at h2
          have h21 : -1 ≤ k := h2.1
          have h22 : k ≤ m := h2.2
          cases o2 with
          | none => exact ⟨h21, Int.le_trans h22 hb1⟩
          | some ss => exact ⟨h21, Int.le_trans h22 hb1⟩
theorem planVs_bd {p : Ty → Int → Option Sh × Int} (hs : PlnS p) (hp : PlnB p) (t : Ty) : ∀ (l : List Variant) (n : Int), 0 ≤ n → -1 ≤ (planVs p t l n).2 ∧ (planVs p t l n).2 ≤ n
  | [], n, h0 => by rw [planVs]; exact ⟨by show -1 ≤ n; omega, Int.le_refl n⟩
  | x :: l, n, h0 => by
    rw [planVs]
    have hb := planFs_bd hs hp (fldsM t x) n h0
    cases h : planFs p (fldsM t x) n with
    | mk o m =>
      rw [h] at hb
      cases o with
      | none => exact hb
      | some s =>
        have h2 := planVs_bd hs hp t l m (planFs_ok hs h0 h).2.1
        have hb1 : m ≤ n := hb.2
        simp only []
        cases h3 : planVs p t l m with
        | mk o2 k =>
          rw [h3] at h2
          have h21 : -1 ≤ k := h2.1
          have h22 : k ≤ m := h2.2
          cases o2 with
          | none => exact ⟨h21, Int.le_trans h22 hb1⟩
          | some ss => exact ⟨h21, Int.le_trans h22 hb1⟩
theorem plan_bd (ds : List Api.Data) : ∀ f : Nat, PlnB (plan ds f)
  | 0, t, n, h0 => by rw [plan]; exact ⟨by show -1 ≤ n - 1; omega, by show n - 1 ≤ n; omega⟩
  | f + 1, t, n, h0 => by
    rw [plan]
    have a1 : -1 ≤ n - 1 := by omega
    have a2 : n - 1 ≤ n := by omega
    split
    · exact ⟨a1, a2⟩
    · rename_i hn
      split
      · exact ⟨a1, a2⟩
      · split
        · exact ⟨a1, a2⟩
        · split
          · exact ⟨a1, a2⟩
          · split
            · exact ⟨a1, a2⟩
            · have h2 := planVs_bd (plan_ok ds f) (plan_bd ds f) t (dataAt ds t).variants (n - 1) (by omega)
              split
              · rename_i m h3
                rw [h3] at h2
                exact ⟨h2.1, Int.le_trans h2.2 a2⟩
              · rename_i vs m h3
                rw [h3] at h2
                exact ⟨h2.1, Int.le_trans h2.2 a2⟩
/-- a list of layouts goes on -/
def preO {α : Type} (a : List α) (r : Option (List α) × Int) : Option (List α) × Int := (r.1.map (a ++ ·), r.2)
theorem pre_nil {α : Type} (r : Option (List α) × Int) : preO [] r = r := by
  obtain ⟨o, n⟩ := r
  cases o <;> simp [preO]
theorem planFs_step {p : Ty → Int → Option Sh × Int} {a : List Sh} {x : Ty} {l : List Ty} {n m : Int} {s : Sh} (h : p x n = (some s, m)) : preO a (planFs p (x :: l) n) = preO (a ++ [s]) (planFs p l m) := by
  rw [planFs, h]
  simp only []
  cases h3 : planFs p l m with
  | mk o k => cases o <;> simp [preO]
theorem planFs_stop {p : Ty → Int → Option Sh × Int} {a : List Sh} {x : Ty} {l : List Ty} {n m : Int} (h : p x n = (none, m)) : preO a (planFs p (x :: l) n) = (none, m) := by
  rw [planFs, h]; rfl
theorem planVs_step {p : Ty → Int → Option Sh × Int} {t : Ty} {a : List (List Sh)} {x : Variant} {l : List Variant} {n m : Int} {s : List Sh} (h : planFs p (fldsM t x) n = (some s, m)) : preO a (planVs p t (x :: l) n) = preO (a ++ [s]) (planVs p t l m) := by
  rw [planVs, h]
  simp only []
  cases h3 : planVs p t l m with
  | mk o k => cases o <;> simp [preO]
theorem planVs_stop {p : Ty → Int → Option Sh × Int} {t : Ty} {a : List (List Sh)} {x : Variant} {l : List Variant} {n m : Int} (h : planFs p (fldsM t x) n = (none, m)) : preO a (planVs p t (x :: l) n) = (none, m) := by
  rw [planVs, h]; rfl
abbrev plnR (ds : List Api.Data) (r : Option Sh × Int) : List TO → C → Prop := Ret [.box 86 [.sl (ds.map dataC), IC r.2]] (.tup [shO r.1, .bool r.1.isSome])
theorem rowSh {a : List Sh} {s : Sh} : a.map shE ++ [[C.ifc (shTy s) (shR s)]] = (a ++ [s]).map shE := by rw [List.map_append]; rfl
theorem rowVr {a : List (List Sh)} {l : List Sh} : a.map vrE ++ [[C.sl (l.map shE)]] = (a ++ [l]).map vrE := by rw [List.map_append]; rfl
theorem shR_ret (s : Sh) (f : Nat → Option Nat) : (shR s).ren f = shR s := by
  cases s with
  | num => rw [shR]; rfl
  | hdl k => rw [shR]; rfl
  | sum i vs sz sp gr be => rw [shR_sum]; rfl
end Go.Fr.Tryd

/- Layout: the planner walked. -/
set_option linter.unusedVariables false
set_option linter.unusedSimpArgs false
namespace Go.Fr.Tryd
open Go Go.RowKit Go.Proofs Go.Fr Go.Fr.T Go.Fr.Api

theorem plnCase (r : Option Sh × Int) {K : Prop} (h1 : ∀ s m, r = (some s, m) → K) (h2 : ∀ m, r = (none, m) → K) : K := by
  obtain ⟨o, m⟩ := r
  cases o with
  | none => exact h2 m rfl
  | some s => exact h1 s m rfl
theorem t40s {i : Int} {vs : List (List Sh)} {sz sp gr be : Int} (h : newSum i vs = .sum i vs sz sp gr be) (hv0 : vs ≠ []) (hv1 : vs.length ≤ 16) (hg : GoodVs vs) (hc : cntVs vs ≤ 2 ^ 29) :
    CallsT P 40 [IC i, .sl (vs.map vrE)] [] (Ret [] (sumA i vs sz sp gr be)) := (t40o i vs sz sp gr be h hv0 hv1 (goodVs_iff.1 hg) hc).giveB rfl rfl
theorem newSumC (i : Int) (vs : List (List Sh)) {K : Prop} (h : ∀ sz sp gr be, newSum i vs = .sum i vs sz sp gr be → K) : K := by
  obtain ⟨sz, sp, gr, be, e⟩ := newSum_some i vs
  exact h sz sp gr be e
set_option maxRecDepth 10000 in
set_option maxHeartbeats 1000000 in
theorem t37 (ds : List Api.Data) (hds : DsB ds) : ∀ (f : Nat) (t : Ty) (n : Int), TyB t → 0 ≤ n → n ≤ f → n ≤ 2 ^ 28 → CallsT P 37 [.own 1000 0, tyA t] [.box 86 [.sl (ds.map dataC), IC n]] (plnR ds (plan ds f t n))
  | f, t, n, ht, h0, hf, h40 => by
    have hb := (tyB_iff t).1 ht
    have hdm : (ds.map dataC).length = ds.length := List.length_map _
    have ham : (t.args.map tyC).length = t.args.length := List.length_map _
    have hplan : plan ds f t n = if n - 1 < 0 then (none, n - 1) else if has1 t.kind = true then (some (.hdl (look1 t.kind)), n - 1) else if t.kind = 1 then (some .num, n - 1) else if badP ds t then (none, n - 1) else if oddP (dataAt ds t) t then (none, n - 1)
        else match planVs (plan ds (f - 1)) t (dataAt ds t).variants (n - 1) with
          | (none, m) => (none, m)
          | (some vs, m) => (some (newSum t.id vs), m) := by
      cases f with
      | zero => rw [plan, if_pos (by omega)]
      | succ f => rw [plan]; rfl
    have hpS := plan_ok ds (f - 1)
    have hpB := plan_bd ds (f - 1)
    have ih : ∀ x, TyB x → ∀ m, 0 ≤ m → m < n → CallsT P 37 [.own 1000 0, tyA x] [.box 86 [.sl (ds.map dataC), IC m]] (plnR ds (plan ds (f - 1) x m)) := by
      intro x hx m h1 h2
      cases f with
      | zero => omega
      | succ f => exact t37 ds hds f x m hx h1 (by omega) (by omega)
    generalize plan ds f t n = res at hplan ⊢
    generalize plan ds (f - 1) = p at hplan hpS hpB ih
    have hfl : ¬ badP ds t → ∀ v ∈ (dataAt ds t).variants, v.fields.length ≤ 2 ^ 30 ∧ ∀ x ∈ v.fields, TyB x := by
      intro hbad v hv
      exact (hds _ (dataAt_get hbad).2).2 v hv
    have hsub : ∀ x, TyB x → TyB (subst t.args x) := fun x hx => tyB_subst hb.2 x hx
    have h39 : ∀ x, TyB x → CallsT P 39 [.sl (t.args.map tyC), tyA x] [] (Ret [] (tyA (subst t.args x))) := fun x hx => t39 t.args x hx
    have hfv : ∀ v : Variant, fldsM t v = v.fields.map (subst t.args) := fun v => rfl
    generalize subst t.args = sub at hsub h39 hfv
    have hget := fun h => (dataAt_get (ds := ds) (t := t) h).1
    generalize dataAt ds t = d at *
    have hvm : (d.variants.map variantC).length = d.variants.length := List.length_map _
    have hRn : ∀ m, (none, m) = res → [TO.box 86 [C.sl (ds.map dataC), IC m]] = [TO.box 86 [C.sl (ds.map dataC), IC res.2]] ∧ C.tup [.opq 0, .bool false] = C.tup [shO res.1, .bool res.1.isSome] := by
      intro m h; rw [← h]; exact ⟨rfl, rfl⟩
    have hRs : ∀ s m, (some s, m) = res → [TO.box 86 [C.sl (ds.map dataC), IC m]] = [TO.box 86 [C.sl (ds.map dataC), IC res.2]] ∧ C.tup [.ifc (shTy s) (shR s), .bool true] = C.tup [shO res.1, .bool res.1.isSome] := by
      intro s m h; rw [← h]; exact ⟨rfl, rfl⟩
    have hhdl : shR (.hdl (look1 t.kind)) = IC (look1 t.kind) := by rw [shR]
    have hnum : shR .num = .agg [] := by rw [shR]
    rw [plnR]
    refine callsT_facts Tryd.func37 facts37 rfl fun hw hwo => ?_
    refine Fit.in64 (by omega) (by omega) ?_
    refine brn_p (fun h1 => ?_) (fun h1 => ?_)
    · have e := hRn (n - 1) (by rw [hplan, if_pos h1])
      exact retO [1000] rfl rfl e.1 e.2
    rw [if_neg h1] at hplan
    refine brn_split (fun h2 => ?_) (fun h2 => ?_)
    · have e := hRs _ (n - 1) (by rw [hplan, if_pos h2])
      rw [hhdl] at e
      exact retO [1000] rfl rfl e.1 e.2
    rw [if_neg (by rw [h2]; exact Bool.false_ne_true)] at hplan
    refine brn_p (fun h3 => ?_) (fun h3 => ?_)
    · have e := hRs _ (n - 1) (by rw [hplan, if_pos h3])
      rw [hnum] at e
      exact retO [1000] rfl rfl e.1 e.2
    rw [if_neg h3] at hplan
    have hbadr : badP ds t → (none, n - 1) = res := fun h => by rw [hplan, if_pos h]
    refine brn_split (fun q1 => ?_) (fun q1 => ?_)
    · have q : ¬ t.kind = 2 := by simpa using q1
      have e := hRn (n - 1) (hbadr (.inl q))
      exact retO [1000] rfl rfl e.1 e.2
    have q1 : t.kind = 2 := by simpa using q1
    refine brn_p (fun q2 => ?_) (fun q2 => ?_)
    · have e := hRn (n - 1) (hbadr (.inr (.inl q2)))
      exact retO [1000] rfl rfl e.1 e.2
    refine brn_p (fun q3 => ?_) (fun q3 => ?_)
    · have e := hRn (n - 1) (hbadr (.inr (.inr (by omega))))
      exact retO [1000] rfl rfl e.1 e.2
    have hbad : ¬ badP ds t := by
      rintro (h | h | h) <;> omega
    rw [if_neg hbad] at hplan
    have hoddr : oddP d t → (none, n - 1) = res := fun h => by rw [hplan, if_pos h]
    have hget := hget hbad
    have hz : 0 ≤ t.id := by omega
    refine idxD hz hget ?_
    refine brn_split (fun q4 => ?_) (fun q4 => ?_)
    · have q : ¬ ((t.args.map tyC).length : Int) = d.params := by simpa using q4
      have e := hRn (n - 1) (hoddr (.inl (by omega)))
      exact retO [1000] rfl rfl e.1 e.2
    have q4 : ((t.args.map tyC).length : Int) = d.params := by simpa using q4
    refine brn_p (fun q5 => ?_) (fun q5 => ?_)
    · have e := hRn (n - 1) (hoddr (.inr (.inl (by omega))))
      exact retO [1000] rfl rfl e.1 e.2
    refine brn_p (fun q6 => ?_) (fun q6 => ?_)
    · have e := hRn (n - 1) (hoddr (.inr (.inr (by omega))))
      exact retO [1000] rfl rfl e.1 e.2
    have hodd : ¬ oddP d t := by
      rintro (h | h | h) <;> omega
    rw [if_neg hodd] at hplan
    have hfl := hfl hbad
    have hn1 : 0 ≤ n - 1 := by omega
    refine loopN d.variants.length 91 [9] (([], n - 1) : List (List Sh) × Int) (fun _ => [.rw 121]) (fun s => [(3, .box 25 [IC t.kind, IC t.id, .sl (t.args.map tyC)]), (8, .box 48 [.str d.name, IC d.module, IC d.params, .sl (d.variants.map variantC), IC d.drop]), (121, .row 95 1 (s.1.map vrE)), (1000, .box 86 [.sl (ds.map dataC), IC s.2])])
      (fun k s => preO s.1 (planVs p t (d.variants.drop k) s.2) = planVs p t d.variants (n - 1) ∧ 0 ≤ s.2 ∧ s.2 ≤ n - 1 ∧ s.1.length = k) ⟨pre_nil _, hn1, by show n - 1 ≤ n - 1; omega, rfl⟩ (same_keys rfl) ⟨nil_rw rfl rfl, trivial⟩
      ⟨.inl ⟨_, rfl, .inl ⟨rfl, rfl⟩⟩, .inl ⟨_, rfl, .inl ⟨rfl, rfl⟩⟩, .inr ⟨rfl, 95, 1, rfl⟩, .inl ⟨_, rfl, .inl ⟨rfl, rfl⟩⟩, trivial⟩ (fun _ => rfl) (fun _ => rfl) ?_
    rintro k ⟨us, m⟩ hk ⟨hinv, hm0, hm1, hul⟩ _ _ _
    have hm0 : 0 ≤ m := hm0
    have hm1 : m ≤ n - 1 := hm1
    have hul : us.length = k := hul
    have hum : (us.map vrE).length = us.length := List.length_map _
    refine brn_p (fun hlt => ?_) (fun hge => ?_)
    · have hlt : k < d.variants.length := by simpa using hlt
      refine withDrop hlt fun v hv hvm' hdr => ?_
      have hflv := hfl v hvm'
      have hFm : (v.fields.map tyC).length = v.fields.length := List.length_map _
      have hplF : ∀ r, planFs p (fldsM t v) m = r → (∀ s k', r = (some s, k') → preO (us ++ [s]) (planVs p t (d.variants.drop (k + 1)) k') = planVs p t d.variants (n - 1)) ∧ ∀ k', r = (none, k') → (none, k') = planVs p t d.variants (n - 1) := by
        intro r hr
        rw [← hinv, hdr]
        exact ⟨fun s k' e => (planVs_step (hr.trans e)).symm, fun k' e => (planVs_stop (hr.trans e)).symm⟩
      have hFok := fun ss k' (h : planFs p (fldsM t v) m = (some ss, k')) => planFs_ok hpS hm0 h
      have hfvv := hfv v
      generalize fldsM t v = Fd at hplF hFok hfvv
      refine idxV hv ?_
      refine loopN v.fields.length 98 [12, 9] (([], m) : List Sh × Int) (fun _ => [.rw 116, .rw 121]) (fun s => [(3, .box 25 [IC t.kind, IC t.id, .sl (t.args.map tyC)]), (8, .box 48 [.str d.name, IC d.module, IC d.params, .sl (d.variants.map variantC), IC d.drop]), (11, .box 50 [.str v.name, .sl (v.fields.map tyC)]), (116, .row 70 1 (s.1.map shE)), (121, .row 95 1 (us.map vrE)), (1000, .box 86 [.sl (ds.map dataC), IC s.2])])
        (fun i s => preO s.1 (planFs p (Fd.drop i) s.2) = planFs p Fd m ∧ 0 ≤ s.2 ∧ s.2 ≤ n - 1 ∧ s.1.length = i) ⟨pre_nil _, hm0, hm1, rfl⟩ (same_keys rfl) ⟨nil_rw rfl rfl, same_keys rfl, trivial⟩
        ⟨.inl ⟨_, rfl, .inl ⟨rfl, rfl⟩⟩, .inl ⟨_, rfl, .inl ⟨rfl, rfl⟩⟩, .inl ⟨_, rfl, .inl ⟨rfl, rfl⟩⟩, .inr ⟨rfl, 70, 1, rfl⟩, .inl ⟨_, rfl, .inl ⟨rfl, rfl⟩⟩, .inl ⟨_, rfl, .inl ⟨rfl, rfl⟩⟩, trivial⟩ (fun _ => rfl) (fun _ => rfl) ?_
      rintro i ⟨acc, q⟩ hi ⟨hin2, hq0, hq1, hal⟩ _ _ _
      have hq0 : 0 ≤ q := hq0
      have hq1 : q ≤ n - 1 := hq1
      have hal : acc.length = i := hal
      have ham2 : (acc.map shE).length = i := (List.length_map _).trans hal
      refine brn_p (fun hlt2 => ?_) (fun hge2 => ?_)
      · have hlt2 : i < v.fields.length := by simpa using hlt2
        refine withDrop hlt2 fun x hx hxm hdr2 => ?_
        have hxB := hflv.2 x hxm
        refine idxTy hx ?_
        refine callP (h39 x hxB) rfl fun _ => ?_
        have h37 := ih (sub x) (hsub x hxB) q hq0 (by omega)
        have hdF : Fd.drop i = sub x :: Fd.drop (i + 1) := by
          rw [hfvv, ← List.map_drop, hdr2, List.map_cons, List.map_drop]
        refine plnCase (p (sub x) q) (fun s k' hs => ?_) (fun k' hs => ?_)
        · rw [hs] at h37
          have hsg := hpS (sub x) q hq0 s k' hs
          have hsb := hpB (sub x) q hq0
          rw [hs] at hsb
          have hsb2 : k' ≤ q := hsb.2
          refine callO [1000] [1000] h37 rfl rfl rfl rfl rfl fun _ _ => ?_
          refine app1' i rfl ham2 (by decide) (by omega) ?_
          refine Fit.in64 (by omega) (by omega) ?_
          refine ⟨(i + 1, (acc ++ [s], k')), ⟨hlt2, ?_, hsg.2.1, by show k' ≤ n - 1; omega, by show (acc ++ [s]).length = i + 1; simp [hal]⟩, ⟨nextI, same_keys rfl, same_keys rfl, trivial⟩,
            ⟨.inl ⟨_, rfl, .inl ⟨rfl, rfl⟩⟩, .inl ⟨_, rfl, .inl ⟨rfl, rfl⟩⟩, .inl ⟨_, rfl, .inl ⟨rfl, rfl⟩⟩, .inl ⟨_, rfl, .inl ⟨rowG rowSh, rfl⟩⟩, .inl ⟨_, rfl, .inl ⟨rfl, rfl⟩⟩, .inl ⟨_, rfl, .inl ⟨rfl, rfl⟩⟩, trivial⟩, nextM hlt2⟩
          rw [hdF, planFs_step hs] at hin2
          exact hin2
        · rw [hs] at h37
          refine callO [1000] [1000] h37 rfl rfl rfl rfl rfl fun _ _ => ?_
          rw [hdF, planFs_stop hs] at hin2
          have h4 := (hplF _ rfl).2 k' hin2.symm
          have e := hRn k' (by rw [hplan, ← h4])
          exact retO [1000] rfl rfl e.1 e.2
      · have hge2 : ¬ i < v.fields.length := by simpa using hge2
        have hFdl : Fd.drop i = [] := by rw [hfvv]; exact List.drop_eq_nil_iff.2 (by rw [List.length_map]; omega)
        rw [hFdl, planFs] at hin2
        have hin3 : planFs p Fd m = (some acc, q) := by
          have : preO acc (some [], q) = (some acc, q) := by simp [preO]
          rw [← hin2, this]
        have h4 := (hplF _ rfl).1 acc q hin3
        refine app1' k rfl (hum.trans hul) (by decide) (by have := hodd; omega) ?_
        refine Fit.in64 (by omega) (by omega) ?_
        refine ⟨(k + 1, (us ++ [acc], q)), ⟨hlt, h4, hq0, hq1, by show (us ++ [acc]).length = k + 1; simp [hul]⟩, ⟨nextI, same_keys rfl, trivial⟩,
          ⟨.inl ⟨_, rfl, .inl ⟨rfl, rfl⟩⟩, .inl ⟨_, rfl, .inl ⟨rfl, rfl⟩⟩, .inl ⟨_, rfl, .inl ⟨rowG rowVr, rfl⟩⟩, .inl ⟨_, rfl, .inl ⟨rfl, rfl⟩⟩, trivial⟩, nextM hlt⟩
    · have hge : ¬ k < d.variants.length := by simpa using hge
      rw [drop_end hge, planVs] at hinv
      have hin3 : planVs p t d.variants (n - 1) = (some us, m) := by
        have : preO us (some [], m) = (some us, m) := by simp [preO]
        rw [← hinv, this]
      have hok := planVs_ok hpS hn1 hin3
      rw [hin3] at hplan
      have hne : us ≠ [] := fun e => by rw [e] at hul; simp at hul; omega
      refine newSumC t.id us fun sz sp gr be hns => ?_
      refine callF [121] [] [] (t40s hns hne (by omega) hok.1 (by omega)) ⟨[], rfl, rfl, rfl, rfl, rfl, fun _ _ => ?_⟩
      have e := hRs (newSum t.id us) m (by rw [hplan])
      rw [hns, shR_sum] at e
      exact retO [1000] rfl rfl e.1 e.2
end Go.Fr.Tryd

/- Layout, plain: what the numbers of a layout are; lengths of words. -/
set_option linter.unusedVariables false
set_option linter.unusedSimpArgs false
namespace Go.Fr.Tryd
open Go Go.RowKit Go.Proofs Go.Fr Go.Fr.T Go.Fr.Api

theorem foldV_mem : ∀ {vs : List (List Sh)} {k sz gr wi : Int}, ∀ l ∈ vs, total l ≤ (foldV vs k (sz, gr, wi)).1
  | x :: r, k, sz, gr, wi, l, h => by
    rw [foldV]
    have hge : ∀ {r : List (List Sh)} {k sz gr wi : Int}, sz ≤ (foldV r k (sz, gr, wi)).1 := by
      intro r
      induction r with
      | nil => intro k sz gr wi; exact Int.le_refl _
      | cons y r ih => intro k sz gr wi; rw [foldV]; exact Int.le_trans (by omega) (ih (sz := max sz (total y)))
    rcases List.mem_cons.1 h with rfl | h
    · exact Int.le_trans (by omega) (hge (sz := max sz (total l)))
    · exact foldV_mem l h
theorem foldV_wi : ∀ {vs : List (List Sh)} {k sz gr wi : Int}, wi ≤ (foldV vs k (sz, gr, wi)).2.2 ∧ ((foldV vs k (sz, gr, wi)).2.2 = wi → (foldV vs k (sz, gr, wi)).2.1 = gr ∧ ∀ l ∈ vs, l = [])
  | [], k, sz, gr, wi => ⟨Int.le_refl _, fun _ => ⟨rfl, fun l h => by cases h⟩⟩
  | x :: r, k, sz, gr, wi => by
    rw [foldV]
    by_cases hx : x = []
    · rw [if_pos hx, if_pos hx]
      obtain ⟨h1, h2⟩ := foldV_wi (vs := r) (k := k + 1) (sz := max sz (total x)) (gr := gr) (wi := wi)
      refine ⟨h1, fun h => ⟨(h2 h).1, fun l hl => ?_⟩⟩
      rcases List.mem_cons.1 hl with rfl | hl
      · exact hx
      · exact (h2 h).2 l hl
    · rw [if_neg hx, if_neg hx]
      obtain ⟨h1, h2⟩ := foldV_wi (vs := r) (k := k + 1) (sz := max sz (total x)) (gr := k) (wi := wi + 1)
      exact ⟨by omega, fun h => by omega⟩
theorem foldV_one : ∀ {vs : List (List Sh)} {k sz gr : Int}, (foldV vs k (sz, gr, 0)).2.2 = 1 → ∃ j : Nat, (foldV vs k (sz, gr, 0)).2.1 = k + j ∧ (∃ s l, vs[j]? = some (s :: l)) ∧ ∀ (i : Nat) l, vs[i]? = some l → i ≠ j → l = []
  | [], k, sz, gr, h => by simp [foldV] at h
  | x :: r, k, sz, gr, h => by
    rw [foldV] at h ⊢
    by_cases hx : x = []
    · rw [if_pos hx, if_pos hx] at h ⊢
      obtain ⟨j, h1, h2, h3⟩ := foldV_one h
      refine ⟨j + 1, by rw [h1]; omega, by simpa using h2, fun i l hi hj => ?_⟩
      cases i with
      | zero => simp only [List.getElem?_cons_zero, Option.some.injEq] at hi; rw [← hi, hx]
      | succ i => exact h3 i l (by simpa using hi) (by omega)
    · rw [if_neg hx, if_neg hx] at h ⊢
      obtain ⟨h1, h2⟩ := foldV_wi (vs := r) (k := k + 1) (sz := max sz (total x)) (gr := k) (wi := 0 + 1)
      obtain ⟨h3, h4⟩ := h2 h
      refine ⟨0, by rw [h3]; omega, ?_, fun i l hi hj => ?_⟩
      · cases x with
        | nil => exact absurd rfl hx
        | cons s l => exact ⟨s, l, rfl⟩
      · cases i with
        | zero => omega
        | succ i => exact h4 l (List.mem_of_getElem? (by simpa using hi))
/-- what the numbers of a layout are -/
inductive FormS (vs : List (List Sh)) (sz sp gr be : Int) : Prop
  | one (l : List Sh) (h1 : vs = [l]) (h2 : gr = 0) (h3 : sz = total l) (h4 : sp = (l.head?.map Sh.niches).getD 0) (h5 : be = 0)
  | great (j : Nat) (s : Sh) (l : List Sh) (h1 : vs[j]? = some (s :: l)) (h2 : gr = j) (h3 : ∀ (i : Nat) l', vs[i]? = some l' → i ≠ j → l' = []) (h4 : 2 ≤ vs.length) (h5 : (vs.length : Int) - 1 ≤ s.niches) (h6 : total (s :: l) ≤ sz) (h7 : sp = s.niches - (vs.length - 1)) (h8 : be = 65536 - s.niches) (h9 : 1 ≤ sz)
  | tag (h1 : gr = -1) (h2 : ∀ l ∈ vs, total l + 1 ≤ sz) (h3 : sp = 65536 - vs.length) (h4 : 2 ≤ vs.length) (h5 : be = 0)
theorem total_nonneg {l : List Sh} (h : ∀ s ∈ l, 0 ≤ s.words) : 0 ≤ total l := by
  induction l with
  | nil => exact Int.le_refl _
  | cons s l ih =>
    have h1 := h s (by simp)
    have h2 := ih fun x hx => h x (by simp [hx])
    simp only [total]; omega
theorem formS {i : Int} {vs : List (List Sh)} {sz sp gr be : Int} (hns : newSum i vs = .sum i vs sz sp gr be) (hv0 : vs ≠ []) (hw : ∀ l ∈ vs, ∀ s ∈ l, 0 ≤ s.words ∧ (0 < s.niches → 1 ≤ s.words)) : FormS vs sz sp gr be := by
  have hlen : 0 < vs.length := List.length_pos_iff.2 hv0
  have hmem : ∀ l ∈ vs, total l ≤ (foldV vs 0 (0, -1, 0)).1 := fun l hl => foldV_mem l hl
  simp only [newSum] at hns
  split at hns
  · rename_i ho
    injection hns with _ _ h1 h2 h3 h4
    have hl1 : vs.length = 1 := by omega
    obtain ⟨l, rfl⟩ := List.length_eq_one_iff.1 hl1
    have ht : 0 ≤ total l := total_nonneg fun s hs => (hw l (by simp) s hs).1
    refine .one l rfl h3.symm ?_ ?_ h4.symm
    · rw [← h1, foldV, foldV]
      show max 0 (total l) = total l
      omega
    · rw [← h2]
      cases l with
      | nil => rfl
      | cons s l => rfl
  · rename_i ho
    split at hns
    · rename_i hc
      injection hns with _ _ h1 h2 h3 h4
      obtain ⟨j, g1, ⟨s, l, g2⟩, g3⟩ := foldV_one hc.1
      have hgr : (foldV vs 0 (0, -1, 0)).2.1 = j := by rw [g1]; omega
      have hfree : freeOf vs (foldV vs 0 (0, -1, 0)).2.1 = s.niches := by
        rw [hgr]
        exact freeOf_get (by omega) g2
      have hsl : s :: l ∈ vs := List.mem_of_getElem? g2
      have hs := hw _ hsl s (by simp)
      have hl : 0 ≤ total l := total_nonneg fun x hx => (hw _ hsl x (by simp [hx])).1
      have hm := hmem _ hsl
      rw [hfree] at hc h2 h4
      refine .great j s l g2 (by rw [← h3, hgr]) g3 (by omega) hc.2 (by rw [← h1]; exact hm) h2.symm h4.symm ?_
      have := hs.2 (by omega)
      simp only [total] at hm
      omega
    · injection hns with _ _ h1 h2 h3 h4
      refine .tag h3.symm (fun l hl => ?_) h2.symm (by omega) h4.symm
      have := hmem l hl
      omega
theorem niches_words : ∀ {s : Sh}, Good s → 0 < s.niches → 1 ≤ s.words
  | .num, _, h => by simp [Sh.niches] at h
  | .hdl _, _, _ => by simp [Sh.words]
  | .sum i vs sz sp gr be, hg, h => by
    rw [Good, goodVs_iff] at hg
    have ih : ∀ l ∈ vs, ∀ s ∈ l, 0 ≤ s.words ∧ (0 < s.niches → 1 ≤ s.words) := fun l hl s hs => ⟨(words_bd (hg.2.2.2 l hl s hs)).1, niches_words (hg.2.2.2 l hl s hs)⟩
    simp only [Sh.niches] at h
    simp only [Sh.words]
    cases formS hg.2.2.1 hg.1 ih with
    | one l h1 h2 h3 h4 h5 =>
      subst h1
      cases l with
      | nil => simp at h4; omega
      | cons s l =>
        have h40 : sp = s.niches := h4
        have h6 := (ih (s :: l) (by simp) s (by simp)).2 (by omega)
        have h7 : 0 ≤ total l := total_nonneg fun x hx => (ih (s :: l) (by simp) x (by simp [hx])).1
        rw [h3, total]; omega
    | great j s l h1 h2 h3 h4 h5 h6 h7 h8 h9 => exact h9
    | tag h1 h2 h3 h4 h5 =>
      obtain ⟨l, hl⟩ := List.exists_mem_of_ne_nil _ hg.1
      have := h2 l hl
      have h7 : 0 ≤ total l := total_nonneg fun x hx => (ih _ hl x hx).1
      omega
termination_by s => SizeOf.sizeOf s
decreasing_by
  have h1 := List.sizeOf_lt_of_mem hs
  have h2 := List.sizeOf_lt_of_mem hl
  simp only [Sh.sum.sizeOf_spec]
  omega
theorem good_form {i : Int} {vs : List (List Sh)} {sz sp gr be : Int} (hg : Good (.sum i vs sz sp gr be)) : FormS vs sz sp gr be := by
  rw [Good, goodVs_iff] at hg
  exact formS hg.2.2.1 hg.1 fun l hl s hs => ⟨(words_bd (hg.2.2.2 l hl s hs)).1, niches_words (hg.2.2.2 l hl s hs)⟩
/-- there is room for every variant -/
theorem form_room {vs : List (List Sh)} {sz sp gr be : Int} (hf : FormS vs sz sp gr be) {k : Nat} {l : List Sh} (hl : vs[k]? = some l) : ((markM gr be k).toList.length : Int) + total l ≤ sz := by
  cases hf with
  | one l' h1 h2 h3 h4 h5 =>
    subst h1
    cases k with
    | zero =>
      simp only [List.getElem?_cons_zero, Option.some.injEq] at hl
      subst hl h2 h3
      simp [markM]
    | succ k => simp at hl
  | great j s l' h1 h2 h3 h4 h5 h6 h7 h8 h9 =>
    by_cases hk : k = j
    · subst hk
      rw [h1] at hl
      injection hl with hl
      subst hl h2
      have : ¬ (k : Int) < 0 := by omega
      simp only [markM, if_neg this, if_pos, Option.toList_none, List.length_nil]
      omega
    · rw [h3 k l hl hk, total]
      have : (markM gr be k).toList.length ≤ 1 := by cases markM gr be k <;> simp
      omega
  | tag h1 h2 h3 h4 h5 =>
    have := h2 l (List.mem_of_getElem? hl)
    have : (markM gr be k).toList.length ≤ 1 := by cases markM gr be k <;> simp
    omega
theorem form_be {vs : List (List Sh)} {sz sp gr be : Int} (hf : FormS vs sz sp gr be) (hn : ∀ l ∈ vs, ∀ s ∈ l, 0 ≤ s.niches ∧ s.niches ≤ 65535) : 0 ≤ be ∧ be ≤ 65536 := by
  cases hf with
  | one l h1 h2 h3 h4 h5 => omega
  | great j s l h1 h2 h3 h4 h5 h6 h7 h8 h9 =>
    have := hn _ (List.mem_of_getElem? h1) s (by simp)
    omega
  | tag h1 h2 h3 h4 h5 => omega
theorem putVs_at {vs : List (List Sh)} : ∀ {k : Nat} {fs : List Val}, putVs vs k fs = (vs[k]?).bind fun l => if fs.length = l.length then putFs l fs else none := by
  induction vs with
  | nil => intro k fs; rw [putVs]; rfl
  | cons l r ih =>
    intro k fs
    cases k with
    | zero => rw [putVs]; rfl
    | succ k => rw [putVs, ih]; rfl
theorem putFs_len : ∀ {l : List Sh} {fs : List Val} {w : List Int}, (∀ s ∈ l, ∀ v, (putM s v).2 = true → ((putM s v).1.length : Int) = s.words) → putFs l fs = some w → (w.length : Int) = total l
  | [], fs, w, _, h => by rw [putFs] at h; injection h with h; subst h; rfl
  | s :: l, [], w, _, h => by rw [putFs] at h; cases h
  | s :: l, v :: fs, w, hp, h => by
    rw [putFs] at h
    split at h
    · rename_i hb
      obtain ⟨u, h1, rfl⟩ := Option.map_eq_some_iff.1 h
      have h2 := hp s (by simp) v hb
      have h3 := putFs_len (l := l) (fun x hx => hp x (by simp [hx])) h1
      simp only [List.length_append, total]
      omega
    · cases h
theorem put_len : ∀ {s : Sh} {v : Val}, Good s → (putM s v).2 = true → ((putM s v).1.length : Int) = s.words
  | .num, v, _, _ => by rw [putM]; rfl
  | .hdl k, v, _, _ => by rw [putM]; rfl
  | .sum i vs sz sp gr be, v, hg, h => by
    have hf := good_form hg
    rw [Good, goodVs_iff] at hg
    rw [putM] at h ⊢
    simp only [Sh.words]
    split at h
    · cases h
    · rename_i hc
      rw [if_neg hc]
      split at h
      · cases h
      · rename_i w hw
        rw [putVs_at] at hw
        obtain ⟨l, hl, hw⟩ := Option.bind_eq_some_iff.1 hw
        split at hw
        · have h3 := putFs_len (fun s hs v => put_len (v := v) (hg.2.2.2 l (List.mem_of_getElem? hl) s hs)) hw
          have h4 := form_room hf hl
          have hv0 : ¬ v.var < 0 := fun q => hc (.inr (.inr q))
          have h5 : ((v.var.toNat : Nat) : Int) = v.var := by omega
          rw [h5] at h4
          simp only [List.length_append, List.length_replicate]
          omega
        · cases hw
termination_by s => SizeOf.sizeOf s
decreasing_by
  have h1 := List.sizeOf_lt_of_mem hs
  have h2 := List.sizeOf_lt_of_mem (List.mem_of_getElem? hl)
  simp only [Sh.sum.sizeOf_spec]
  omega
end Go.Fr.Tryd

/- Layout: of, Words, Niches, numbers and handles. -/
set_option linter.unusedVariables false
set_option linter.unusedSimpArgs false
namespace Go.Fr.Tryd
open Go Go.RowKit Go.Proofs Go.Fr Go.Fr.T Go.Fr.Api

def planO (ds : List Api.Data) (t : Ty) : Option Sh := (plan ds 200 t 200).1
theorem t27 (ds : List Api.Data) (hds : DsB ds) (t : Ty) (ht : TyB t) : CallsT P 27 [.sl (ds.map dataC), tyA t] [] (Ret [] (.tup [shO (planO ds t), .bool (planO ds t).isSome])) := by
  have h37 := t37 ds hds 200 t 200 ht (by decide) (by decide) (by decide)
  rw [planO]
  generalize plan ds 200 t 200 = r at h37
  obtain ⟨o, m⟩ := r
  cases o with
  | none =>
    refine callsT_facts Tryd.func27 facts27 rfl fun hw _ => ?_
    refine callO [9] [9] h37 rfl rfl rfl rfl rfl fun _ _ => ?_
    exact retP rfl rfl
  | some s =>
    refine callsT_facts Tryd.func27 facts27 rfl fun hw _ => ?_
    refine callO [9] [9] h37 rfl rfl rfl rfl rfl fun _ _ => ?_
    exact retP rfl rfl
set_option maxRecDepth 100000 in
theorem t28w (ds : List Api.Data) (hds : DsB ds) (t : Ty) (ht : TyB t) : CallsT P 28 [.sl (ds.map dataC), tyA t, .mof 70 "leasehold/layout.words"] [] (Ret [] (IC (((planO ds t).map Sh.words).getD 0))) := by
  have h27 := t27 ds hds t ht
  cases ho : planO ds t with
  | none =>
    rw [ho] at h27
    refine callsT_facts Tryd.func28 facts28 rfl fun hw _ => ?_
    refine callP h27 rfl fun _ => ?_
    exact retP rfl rfl
  | some s =>
    rw [ho] at h27
    refine callsT_facts Tryd.func28 facts28 rfl fun hw _ => ?_
    refine callP h27 rfl fun _ => ?_
    refine invT (methW s) ?_
    refine meth0 (tW s) fun _ => ?_
    exact retP rfl rfl
set_option maxRecDepth 100000 in
theorem t28n (ds : List Api.Data) (hds : DsB ds) (t : Ty) (ht : TyB t) : CallsT P 28 [.sl (ds.map dataC), tyA t, .mof 70 "leasehold/layout.niches"] [] (Ret [] (IC (((planO ds t).map Sh.niches).getD 0))) := by
  have h27 := t27 ds hds t ht
  cases ho : planO ds t with
  | none =>
    rw [ho] at h27
    refine callsT_facts Tryd.func28 facts28 rfl fun hw _ => ?_
    refine callP h27 rfl fun _ => ?_
    exact retP rfl rfl
  | some s =>
    rw [ho] at h27
    refine callsT_facts Tryd.func28 facts28 rfl fun hw _ => ?_
    refine callP h27 rfl fun _ => ?_
    refine invT (methN s) ?_
    refine meth0 (tN s) fun _ => ?_
    exact retP rfl rfl
theorem t14 (ds : List Api.Data) (hds : DsB ds) (t : Ty) (ht : TyB t) : CallsT P 14 [.sl (ds.map dataC), tyA t] [] (Ret [] (IC (((planO ds t).map Sh.words).getD 0))) := by
  have h28 := t28w ds hds t ht
  generalize ((planO ds t).map Sh.words).getD 0 = r at h28 ⊢
  refine callsT_facts Tryd.func14 facts14 rfl fun hw _ => ?_
  refine callP h28 rfl fun _ => ?_
  exact retP rfl rfl
theorem t13 (ds : List Api.Data) (hds : DsB ds) (t : Ty) (ht : TyB t) : CallsT P 13 [.sl (ds.map dataC), tyA t] [] (Ret [] (IC (((planO ds t).map Sh.niches).getD 0))) := by
  have h28 := t28n ds hds t ht
  generalize ((planO ds t).map Sh.niches).getD 0 = r at h28 ⊢
  refine callsT_facts Tryd.func13 facts13 rfl fun hw _ => ?_
  refine callP h28 rfl fun _ => ?_
  exact retP rfl rfl
theorem t65 (v : Val) : CallsT P 65 [.agg [], valA v] [] (Ret [] (.tup [.sl (ics [v.n]), .bool (decide (v.kind = 1 ∧ -1000000000 ≤ v.n ∧ v.n ≤ 1000000000))])) := by
  refine callsT_facts Tryd.func65 facts65 rfl fun hw _ => ?_
  have e : ∀ b, b = decide (v.kind = 1 ∧ -1000000000 ≤ v.n ∧ v.n ≤ 1000000000) → C.tup [.sl [[IC v.n]], .bool b] = .tup [.sl (ics [v.n]), .bool (decide (v.kind = 1 ∧ -1000000000 ≤ v.n ∧ v.n ≤ 1000000000))] := fun b h => by rw [h]; rfl
  refine brn_p (fun h1 => brn_p (fun h2 => ?_) (fun h2 => ?_)) (fun h1 => ?_)
  · refine retP rfl (e _ ?_)
    rw [decide_eq_decide]
    exact ⟨fun h => ⟨h1, by omega, h⟩, fun h => h.2.2⟩
  · refine retP rfl (e _ ?_)
    exact (decide_eq_false fun h => h2 (by omega)).symm
  · refine retP rfl (e _ ?_)
    exact (decide_eq_false fun h => h1 h.1).symm
theorem t61 (k : Int) (v : Val) : CallsT P 61 [IC k, valA v] [] (Ret [] (.tup [.sl (ics [v.n]), .bool (decide (v.kind = k ∧ 0 ≤ v.n ∧ v.n ≤ 32767))])) := by
  refine callsT_facts Tryd.func61 facts61 rfl fun hw _ => ?_
  have e : ∀ b, b = decide (v.kind = k ∧ 0 ≤ v.n ∧ v.n ≤ 32767) → C.tup [.sl [[IC v.n]], .bool b] = .tup [.sl (ics [v.n]), .bool (decide (v.kind = k ∧ 0 ≤ v.n ∧ v.n ≤ 32767))] := fun b h => by rw [h]; rfl
  refine brn_p (fun h1 => brn_p (fun h2 => ?_) (fun h2 => ?_)) (fun h1 => ?_)
  · refine retP rfl (e _ ?_)
    rw [decide_eq_decide]
    exact ⟨fun h => ⟨h1, by omega, h⟩, fun h => h.2.2⟩
  · refine retP rfl (e _ ?_)
    exact (decide_eq_false fun h => h2 (by omega)).symm
  · refine retP rfl (e _ ?_)
    exact (decide_eq_false fun h => h1 h.1).symm
theorem t63 (n : Int) : CallsT P 63 [.agg [], .sl (ics [n])] [] (Ret [] (.tup [valA (.mk 1 0 0 n []), .bool (decide (-1000000000 ≤ n ∧ n ≤ 1000000000))])) := by
  have h65 := t65 (.mk 1 0 0 n [])
  have hb : decide (Val.kind (.mk 1 0 0 n []) = 1 ∧ -1000000000 ≤ Val.n (.mk 1 0 0 n []) ∧ Val.n (.mk 1 0 0 n []) ≤ 1000000000) = decide (-1000000000 ≤ n ∧ n ≤ 1000000000) := by
    rw [decide_eq_decide]; exact ⟨fun h => h.2, fun h => ⟨rfl, h⟩⟩
  rw [hb] at h65
  refine callsT_facts Tryd.func63 facts63 rfl fun hw _ => ?_
  refine idxI (k := 0) (x := n) rfl ?_
  refine callP h65 rfl fun _ => ?_
  exact retP rfl rfl
theorem t59 (k n : Int) : CallsT P 59 [IC k, .sl (ics [n])] [] (Ret [] (.tup [valA (.mk k 0 0 n []), .bool (decide (0 ≤ n ∧ n ≤ 32767))])) := by
  have h65 := t61 k (.mk k 0 0 n [])
  have hb : decide (Val.kind (.mk k 0 0 n []) = k ∧ 0 ≤ Val.n (.mk k 0 0 n []) ∧ Val.n (.mk k 0 0 n []) ≤ 32767) = decide (0 ≤ n ∧ n ≤ 32767) := by
    rw [decide_eq_decide]; exact ⟨fun h => h.2, fun h => ⟨rfl, h⟩⟩
  rw [hb] at h65
  refine callsT_facts Tryd.func59 facts59 rfl fun hw _ => ?_
  refine idxI (k := 0) (x := n) rfl ?_
  refine callP h65 rfl fun _ => ?_
  exact retP rfl rfl
end Go.Fr.Tryd
