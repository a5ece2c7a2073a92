/- Part of the proofs of the statements of this seat. -/
import Derived.Test.YtjobilmjlmeohaaDoorFW2
import Derived.Test.YtjobilmjlmeohaaDoorFW3
import Derived.Test.YtjobilmjlmeohaaDoorLyCode
/- Layout: sizes of types, substitution. -/
set_option linter.unusedVariables false
set_option linter.unusedSimpArgs false
namespace Go.Fr.Tryd
open Go Go.RowKit Go.Proofs Go.Fr Go.Fr.T Go.Fr.Api
noncomputable abbrev P : Program := Tryd.prog

mutual
def few : Ty → Int → Int
  | .mk _ _ l, m => fewL l m 1
def fewL : List Ty → Int → Int → Int
  | [], _, n => n
  | x :: l, m, n => if n ≤ m then fewL l m (n + few x (m - n)) else n
end
mutual
theorem few_bd : ∀ (t : Ty) (m : Int), 0 ≤ m → 1 ≤ few t m ∧ few t m ≤ m + 1
  | .mk _ _ l, m, h => by
    rw [few]
    exact fewL_bd l m 1 h (by omega) (by omega)
theorem fewL_bd : ∀ (l : List Ty) (m n : Int), 0 ≤ m → 1 ≤ n → n ≤ m + 1 → 1 ≤ fewL l m n ∧ fewL l m n ≤ m + 1
  | [], m, n, _, h1, h2 => by rw [fewL]; exact ⟨h1, h2⟩
  | x :: l, m, n, h0, h1, h2 => by
    rw [fewL]
    split
    · have := few_bd x (m - n) (by omega)
      exact fewL_bd l m _ h0 (by omega) (by omega)
    · exact ⟨h1, h2⟩
end
theorem fewL_stop {l : List Ty} {m n : Int} (h : ¬ n ≤ m) : fewL l m n = n := by
  cases l with
  | nil => rw [fewL]
  | cons x l => rw [fewL, if_neg h]
theorem wf_lenT {l : List Ty} (h : Wf (.sl (l.map tyC))) : l.length ≤ 9223372036854775807 := wf_lenM h
set_option maxRecDepth 10000 in
theorem t34 : ∀ (t : Ty) (m : Int), 0 ≤ m → m ≤ 1000 → CallsT P 34 [.agg (tyC t), IC m] [] (Ret [] (IC (few t m)))
  | .mk k i l, m, h0, h1 => by
    have ih : ∀ x ∈ l, ∀ m' : Int, 0 ≤ m' → m' ≤ 1000 → CallsT P 34 [.agg [IC x.kind, IC x.id, .sl (x.args.map tyC)], IC m'] [] (Ret [] (IC (few x m'))) := fun x hx m' a b => by
      have := t34 x m' a b
      rw [tyC_eq] at this
      exact this
    have hfb := few_bd
    rw [tyC_eq, few]
    simp only [Ty.kind, Ty.id, Ty.args]
    generalize hfew : few = few' at ih hfb
    have hfl : ∀ x r n, fewL (x :: r) m n = if n ≤ m then fewL r m (n + few' x (m - n)) else n := by
      intro x r n; rw [fewL, hfew]
    refine callsT_facts Tryd.func34 facts34 rfl fun hw _ => ?_
    refine loopN l.length 6 [5] (1 : Int) (fun n => [IC n]) (fun _ => [(2, .box 25 [IC k, IC i, .sl (l.map tyC)])]) (fun k n => fewL (l.drop k) m n = fewL l m 1 ∧ 1 ≤ n ∧ n ≤ m + 1) ⟨rfl, by omega, by omega⟩ (same_keys rfl) ⟨same_keys rfl, trivial⟩ ⟨.inl ⟨_, rfl, .inl ⟨rfl, rfl⟩⟩, trivial⟩ (fun _ => rfl) (fun _ => rfl) ?_
    rintro j n hj ⟨hinv, hn0, hn1⟩ _ _ _
    have hlen : l.length ≤ 9223372036854775807 := wf_lenT hw.1.2.2.1
    refine brn_p (fun hlt => ?_) (fun hge => ?_)
    · have hlt : j < l.length := by simpa using hlt
      refine withDrop hlt fun x hx hxm hdr => ?_
      refine brn_p (fun hle => ?_) (fun hgt => ?_)
      · refine idxTy hx ?_
        refine Fit.in64 (by omega) (by omega) ?_
        refine callP (ih x hxm (m - n) (by omega) (by omega)) rfl fun _ => ?_
        have hb := hfb x (m - n) (by omega)
        refine Fit.in64 (by omega) (by omega) ?_
        refine Fit.in64 (by omega) (by omega) ?_
        refine ⟨(j + 1, n + few' x (m - n)), ⟨hlt, ?_, by omega, by omega⟩, ⟨nextI, same_keys rfl, trivial⟩, ⟨.inl ⟨_, rfl, .inl ⟨rfl, rfl⟩⟩, trivial⟩, nextM hlt⟩
        rw [hdr, hfl, if_pos hle] at hinv
        exact hinv
      · have hinv2 := hinv
        rw [fewL_stop hgt] at hinv2
        exact retP rfl (congrArg IC hinv2)
    · have hge : ¬ j < l.length := by simpa using hge
      have hinv2 := hinv
      rw [drop_end hge, fewL] at hinv2
      exact retP rfl (congrArg IC hinv2)
termination_by t => SizeOf.sizeOf t
decreasing_by
  have := List.sizeOf_lt_of_mem hx
  simp only [Ty.mk.sizeOf_spec]
  omega
def smallL (l : List Ty) : Bool := l.all (fun t => decide (few t 30 ≤ 30)) && decide ((l.length : Int) ≤ 8)
set_option maxRecDepth 10000 in
theorem t23 (l : List Ty) : CallsT P 23 [.sl (l.map tyC)] [] (Ret [] (.bool (smallL l))) := by
  have h31 : ∀ x : Ty, CallsT P 34 [.agg [IC x.kind, IC x.id, .sl (x.args.map tyC)], IC 30] [] (Ret [] (IC (few x 30))) := fun x => by
    have := t34 x 30 (by omega) (by omega)
    rw [tyC_eq] at this
    exact this
  have hsm : smallL l = (l.all (fun t => decide (few t 30 ≤ 30)) && decide ((l.length : Int) ≤ 8)) := rfl
  generalize few = fw at h31 hsm
  refine callsT_facts Tryd.func23 facts23 rfl fun hw _ => ?_
  have hlen : l.length ≤ 9223372036854775807 := wf_lenT hw.1
  have hlm : (l.map tyC).length = l.length := List.length_map _
  refine loopN l.length 3 [] () (fun _ => []) (fun _ => []) (fun k _ => (l.drop k).all (fun t => decide (fw t 30 ≤ 30)) = l.all (fun t => decide (fw t 30 ≤ 30))) rfl (same_keys rfl) trivial trivial (fun _ => rfl) (fun _ => rfl) ?_
  rintro k _ hk hinv _ _ _
  refine brn_p (fun hlt => ?_) (fun hge => ?_)
  · have hlt : k < l.length := by simpa using hlt
    refine withDrop hlt fun x hx hxm hdr => ?_
    refine idxTy hx ?_
    refine callP (h31 x) rfl fun _ => ?_
    have hinv2 := hinv
    rw [hdr, List.all_cons] at hinv2
    refine brn_p (fun hgt => ?_) (fun hle => ?_)
    · have e : false = smallL l := by
        have hdc : decide (fw x 30 ≤ 30) = false := decide_eq_false (by omega)
        rw [hdc, Bool.false_and] at hinv2
        rw [hsm, ← hinv2, Bool.false_and]
      exact retP rfl (congrArg C.bool e)
    · refine Fit.in64 (by omega) (by omega) ?_
      have hdc : decide (fw x 30 ≤ 30) = true := decide_eq_true (by omega)
      have hinv3 := hinv2
      rw [hdc, Bool.true_and] at hinv3
      exact ⟨(k + 1, ()), ⟨hlt, hinv3⟩, ⟨nextI, trivial⟩, trivial, nextM hlt⟩
  · have hge : ¬ k < l.length := by simpa using hge
    have e : decide (((l.map tyC).length : Int) ≤ 8) = smallL l := by
      rw [drop_end hge, List.all_nil] at hinv
      rw [hsm, ← hinv, Bool.true_and, hlm]
    exact retP rfl (congrArg C.bool e)

/- substitution -/
mutual
def subst (a : List Ty) : Ty → Ty
  | .mk k i l => if k = 5 ∧ 0 ≤ i ∧ i < a.length then (a[i.toNat]?).getD (.mk 0 0 []) else .mk k i (substs a l)
def substs (a : List Ty) : List Ty → List Ty
  | [] => []
  | t :: l => subst a t :: substs a l
end
theorem substs_map (a : List Ty) : ∀ l : List Ty, substs a l = l.map (subst a)
  | [] => rfl
  | t :: l => by rw [substs, substs_map a l]; rfl
mutual
def TyB : Ty → Prop
  | .mk _ _ l => l.length ≤ 2 ^ 30 ∧ TyBs l
def TyBs : List Ty → Prop
  | [] => True
  | t :: l => TyB t ∧ TyBs l
end
theorem tyBs_iff : ∀ l : List Ty, TyBs l ↔ ∀ t ∈ l, TyB t
  | [] => by simp [TyBs]
  | t :: l => by simp [TyBs, tyBs_iff l]
theorem rowT {f : Ty} {s : List Ty} : s.map tyC ++ [[IC f.kind, IC f.id, .sl (f.args.map tyC)]] = (s ++ [f]).map tyC := by rw [List.map_append, ← tyC_eq]; rfl
theorem szT {x : Ty} : ∀ es ∈ [[IC x.kind, IC x.id, C.sl (x.args.map tyC)]], es.length = 3 := by
  intro es he
  rcases List.mem_cons.1 he with rfl | he
  · rfl
  · cases he
abbrev tyA (x : Ty) : C := .agg [IC x.kind, IC x.id, .sl (x.args.map tyC)]
theorem tyA_eq (t : Ty) : C.agg (tyC t) = tyA t := congrArg C.agg (tyC_eq t)
theorem app1' {els : List (List C)} {c : List C} {sz by' : Nat} {K : Prop} (n : Nat) (hc : c.length = sz) (hn : els.length = n) (hb : by' ≤ 1024) (h : n ≤ 2 ^ 30) (k : K) : AppT els [c] sz by' K :=
  ⟨fun es he => (by rcases List.mem_cons.1 he with rfl | he; exact hc; cases he), by rw [hn]; simp only [List.length_cons, List.length_nil, maxLen]; omega, by
    rw [hn]
    simp only [List.length_cons, List.length_nil]
    exact Nat.le_trans (Nat.mul_le_mul (show n + (0 + 1) ≤ 2 ^ 31 by omega) hb) (by decide), k⟩
theorem take_snoc {α : Type} {l : List α} {k : Nat} {x : α} (hx : l[k]? = some x) : l.take (k + 1) = l.take k ++ [x] := by
  rw [List.take_add_one, hx]; rfl
/-- nil becomes an empty row -/
theorem nil_rw {L L1 : TL} {k t sz : Nat} (h : L.get k = none) (h1 : L1.get k = some (.row t sz [])) : leC L L1 .nils (.rw k) := .inr (.inr (.inr (.inl ⟨rfl, k, t, sz, rfl, h, h1⟩)))
theorem rowG {t sz : Nat} {a b : List (List C)} (h : a = b) : TO.row t sz a = TO.row t sz b := by rw [h]
theorem rowF {a b : List (List C)} (h : a = b) : C.sl a = C.sl b := by rw [h]
theorem substHit {a : List Ty} {i : Int} (h1 : 0 ≤ i) (h2 : i < (a.map tyC).length) : ∃ x, a[i.toNat]? = some x ∧ x ∈ a ∧ i = (i.toNat : Int) := by
  have hl : i.toNat < a.length := by rw [List.length_map] at h2; omega
  exact ⟨a[i.toNat], List.getElem?_eq_getElem hl, List.getElem_mem hl, by omega⟩
set_option maxRecDepth 10000 in
theorem t36 (a : List Ty) : ∀ t : Ty, TyB t → CallsT P 36 [.sl (a.map tyC), tyA t] [] (Ret [] (tyA (subst a t)))
  | .mk k i l, hb => by
    rw [TyB, tyBs_iff] at hb
    have ih : ∀ x ∈ l, CallsT P 36 [.sl (a.map tyC), tyA x] [] (Ret [] (tyA (subst a x))) := fun x hx => t36 a x (hb.2 x hx)
    have hll := hb.1
    have hs := substs_map a l
    rw [subst, hs]
    generalize subst a = f at ih ⊢
    have halm : (a.map tyC).length = a.length := List.length_map _
    generalize hg : (if k = 5 ∧ 0 ≤ i ∧ i < ↑a.length then a[i.toNat]?.getD (Ty.mk 0 0 []) else Ty.mk k i (List.map f l)) = res
    show CallsT P 36 [.sl (a.map tyC), .agg [IC k, IC i, .sl (l.map tyC)]] [] (Ret [] (tyA res))
    refine callsT_facts Tryd.func36 facts36 rfl fun hw _ => ?_
    refine brn_p (fun h1 => brn_p (fun h2 => brn_p (fun h3 => ?_) (fun h3 => ?_)) (fun h2 => ?_)) (fun h1 => ?_)
    · refine exE (substHit h2 h3) fun x hx => ?_
      refine (congrArg (fun z => IdxT (a.map tyC) z 3 _) hx.2.2).mpr ?_
      refine idxTy hx.1 ?_
      have e : tyA x = tyA res := by
        rw [← hg, if_pos ⟨h1, h2, by omega⟩, hx.1]; rfl
      exact retP rfl e
    all_goals
      have hc : ¬ (k = 5 ∧ 0 ≤ i ∧ i < (a.length : Int)) := by
        rintro ⟨q1, q2, q3⟩
        omega
      refine loopN l.length 6 [] ([] : List Ty) (fun _ => []) (fun s => [(3, .box 25 [IC k, IC i, .sl (l.map tyC)]), (4, .box 25 [IC 0, IC 0, .nils]), (5, .box 25 [IC k, IC i, .rw 49]), (49, .row 25 3 (s.map tyC))]) (fun j s => s = (l.take j).map f) (by simp) (same_keys rfl) trivial
        ⟨.inl ⟨_, rfl, .inl ⟨rfl, rfl⟩⟩, .inl ⟨_, rfl, .inl ⟨rfl, rfl⟩⟩, .inl ⟨_, rfl, .inr ⟨25, _, _, rfl, rfl, _, _, rfl, same_keys rfl, _, _, rfl, same_keys rfl, _, _, rfl, nil_rw rfl rfl, rfl⟩⟩, .inr ⟨rfl, 25, 3, rfl⟩, trivial⟩ (fun _ => rfl) (fun _ => rfl) ?_
      rintro j s hj hinv _ _ _
      refine brn_p (fun hlt => ?_) (fun hge => ?_)
      · have hlt : j < l.length := by simpa using hlt
        refine withGet hlt fun x hx hxm => ?_
        have hs : (s.map tyC).length = j := by rw [hinv, List.length_map, List.length_map, List.length_take]; omega
        refine idxTy hx ?_
        refine callPD (ih x hxm) rfl fun _ => ?_
        refine app1' j rfl hs (by decide) (by omega) ?_
        refine Fit.in64 (by omega) (by omega) ?_
        refine ⟨(j + 1, s ++ [f x]), ⟨hlt, ?_⟩, ⟨nextI, trivial⟩, ⟨.inl ⟨_, rfl, .inl ⟨rfl, rfl⟩⟩, .inl ⟨_, rfl, .inl ⟨rfl, rfl⟩⟩, .inl ⟨_, rfl, .inl ⟨rfl, rfl⟩⟩, .inl ⟨_, rfl, .inl ⟨rowG rowT, rfl⟩⟩, trivial⟩, nextM hlt⟩
        show s ++ [f x] = (l.take (j + 1)).map f
        rw [take_snoc hx, hinv, List.map_append]; rfl
      · have hge : ¬ j < l.length := by simpa using hge
        have e : C.agg [IC k, IC i, .sl (s.map tyC)] = tyA res := by
          rw [← hg, if_neg hc, hinv, List.take_of_length_le (by omega)]; rfl
        exact retF [49] [] ⟨_, [], rfl, rfl, rfl, rfl, e⟩
end Go.Fr.Tryd

/- Layout: substitution by a function that replaces parts; the fields of a variant. -/
set_option linter.unusedVariables false
set_option linter.unusedSimpArgs false
namespace Go.Fr.Tryd
open Go Go.RowKit Go.Proofs Go.Fr Go.Fr.T Go.Fr.Api

abbrev hitP (a : List Ty) (t : Ty) : Prop := t.kind = 5 ∧ 0 ≤ t.id ∧ t.id < (a.length : Int)
def hitT (a : List Ty) (t : Ty) : Ty := if hitP a t then (a[t.id.toNat]?).getD (.mk 0 0 []) else t
def hitB (a : List Ty) (t : Ty) : Bool := decide (hitP a t)
set_option maxRecDepth 10000 in
theorem t42 (a : List Ty) (t : Ty) : CallsT P 42 [tyA t, .pt [.sl (a.map tyC)] 0] [] (Ret [] (.tup [tyA (hitT a t), .bool (hitB a t)])) := by
  have halm : (a.map tyC).length = a.length := List.length_map _
  generalize hg : hitT a t = res
  generalize hg2 : hitB a t = bb
  refine callsT_facts Tryd.func42 facts42 rfl fun hw _ => ?_
  refine brn_p (fun h1 => brn_p (fun h2 => brn_p (fun h3 => ?_) (fun h3 => ?_)) (fun h2 => ?_)) (fun h1 => ?_)
  · refine exE (substHit h2 h3) fun x hx => ?_
    refine (congrArg (fun z => IdxT (a.map tyC) z 3 _) hx.2.2).mpr ?_
    refine idxTy hx.1 ?_
    have hp : hitP a t := ⟨h1, h2, by omega⟩
    have e : C.tup [tyA x, .bool true] = C.tup [tyA res, .bool bb] := by
      rw [← hg, ← hg2, hitT, if_pos hp, hx.1, hitB, decide_eq_true hp]; rfl
    exact retP rfl e
  all_goals
    have hc : ¬ hitP a t := by
      rintro ⟨q1, q2, q3⟩
      omega
    have e : C.tup [.agg [IC t.kind, IC t.id, .sl (t.args.map tyC)], .bool false] = C.tup [tyA res, .bool bb] := by
      rw [← hg, ← hg2, hitT, if_neg hc, hitB, decide_eq_false hc]
    exact retP rfl e
theorem subst_eq (a : List Ty) (t : Ty) : subst a t = if hitP a t then (a[t.id.toNat]?).getD (.mk 0 0 []) else .mk t.kind t.id (t.args.map (subst a)) := by
  cases t; rw [subst, substs_map]; rfl
set_option maxRecDepth 10000 in
theorem t41 (a : List Ty) : ∀ t : Ty, TyB t → CallsT P 41 [tyA t, .fn 42 [] [.pt [.sl (a.map tyC)] 0]] [] (Ret [] (tyA (subst a t)))
  | .mk k i l, hb => by
    rw [TyB, tyBs_iff] at hb
    have ih : ∀ x ∈ l, CallsT P 41 [tyA x, .fn 42 [] [.pt [.sl (a.map tyC)] 0]] [] (Ret [] (tyA (subst a x))) := fun x hx => t41 a x (hb.2 x hx)
    have hll := hb.1
    have hs := subst_eq a (.mk k i l)
    have h42 := t42 a (.mk k i l)
    generalize hu : subst a = f at ih hs ⊢
    generalize hg : f (.mk k i l) = res at hs ⊢
    simp only [Ty.kind, Ty.id, Ty.args] at hs
    have hT : hitB a (.mk k i l) = true → tyA (hitT a (.mk k i l)) = tyA res := by
      intro h
      have h := of_decide_eq_true h
      rw [hitT, if_pos h, hs, if_pos h]
      rfl
    have hF : hitB a (.mk k i l) = false → C.agg [IC k, IC i, .sl ((l.map f).map tyC)] = tyA res := by
      intro h
      have h := of_decide_eq_false h
      rw [hs, if_neg h]; rfl
    generalize hitB a (.mk k i l) = bb at h42 hT hF
    generalize hitT a (.mk k i l) = r0 at h42 hT
    show CallsT P 41 [.agg [IC k, IC i, .sl (l.map tyC)], .fn 42 [] [.pt [.sl (a.map tyC)] 0]] [] (Ret [] (tyA res))
    refine callsT_facts Tryd.func41 facts41 rfl fun hw _ => ?_
    refine callP h42 rfl fun _ => ?_
    refine brn_split (fun hq => ?_) (fun hq => ?_)
    · exact retP rfl (hT hq)
    · have hF := hF hq
      refine loopN l.length 26 [] ([] : List Ty) (fun _ => []) (fun s => [(2, .box 25 [IC k, IC i, .sl (l.map tyC)]), (4, .box 25 [IC 0, IC 0, .nils]), (5, .box 25 [IC r0.kind, IC r0.id, .sl (r0.args.map tyC)]), (7, .box 25 [IC k, IC i, .rw 36]), (36, .row 25 3 (s.map tyC))]) (fun j s => s = (l.take j).map f) (by simp) (same_keys rfl) trivial
        ⟨.inl ⟨_, rfl, .inl ⟨rfl, rfl⟩⟩, .inl ⟨_, rfl, .inl ⟨rfl, rfl⟩⟩, .inl ⟨_, rfl, .inl ⟨rfl, rfl⟩⟩, .inl ⟨_, rfl, .inr ⟨25, _, _, rfl, rfl, _, _, rfl, same_keys rfl, _, _, rfl, same_keys rfl, _, _, rfl, nil_rw rfl rfl, rfl⟩⟩, .inr ⟨rfl, 25, 3, rfl⟩, trivial⟩ (fun _ => rfl) (fun _ => rfl) ?_
      rintro j s hj hinv _ _ _
      refine brn_p (fun hlt => ?_) (fun hge => ?_)
      · have hlt : j < l.length := by simpa using hlt
        refine withGet hlt fun x hx hxm => ?_
        have hs : (s.map tyC).length = j := by rw [hinv, List.length_map, List.length_map, List.length_take]; omega
        refine idxTy hx ?_
        refine callPD (ih x hxm) rfl fun _ => ?_
        refine app1' j rfl hs (by decide) (by omega) ?_
        refine Fit.in64 (by omega) (by omega) ?_
        refine ⟨(j + 1, s ++ [f x]), ⟨hlt, ?_⟩, ⟨nextI, trivial⟩, ⟨.inl ⟨_, rfl, .inl ⟨rfl, rfl⟩⟩, .inl ⟨_, rfl, .inl ⟨rfl, rfl⟩⟩, .inl ⟨_, rfl, .inl ⟨rfl, rfl⟩⟩, .inl ⟨_, rfl, .inl ⟨rfl, rfl⟩⟩, .inl ⟨_, rfl, .inl ⟨rowG rowT, rfl⟩⟩, trivial⟩, nextM hlt⟩
        show s ++ [f x] = (l.take (j + 1)).map f
        rw [take_snoc hx, hinv, List.map_append]; rfl
      · have hge : ¬ j < l.length := by simpa using hge
        have e : C.agg [IC k, IC i, .sl (s.map tyC)] = tyA res := by
          rw [← hF, hinv, List.take_of_length_le (by omega)]
        exact retF [36] [] ⟨_, [], rfl, rfl, rfl, rfl, e⟩
theorem t39 (a : List Ty) (t : Ty) (hb : TyB t) : CallsT P 39 [.sl (a.map tyC), tyA t] [] (Ret [] (tyA (subst a t))) := by
  have h41 := t41 a t hb
  generalize subst a t = res at h41 ⊢
  refine callsT_facts Tryd.func39 facts39 rfl fun hw _ => ?_
  refine callP h41 rfl fun _ => ?_
  exact retP rfl rfl
/- types of one word -/
abbrev simpleP (t : Ty) : Prop := t.kind = 1 ∨ t.kind = 3 ∨ t.kind = 4 ∨ t.kind = 6
theorem t35 (t : Ty) : CallsT P 35 [tyA t] [] (Ret [] (.bool (decide (simpleP t)))) := by
  have hd : decide (simpleP t) = (decide (t.kind = 1) || decide (t.kind = 3) || decide (t.kind = 4) || decide (t.kind = 6)) := by
    simp only [simpleP, Bool.decide_or, Bool.or_assoc]
  rw [hd]
  refine callsT_facts Tryd.func35 facts35 rfl fun hw _ => ?_
  refine brn_p (fun h1 => ?_) (fun h1 => brn_p (fun h2 => ?_) (fun h2 => brn_p (fun h3 => ?_) (fun h3 => ?_)))
  · have e : C.bool true = C.bool (decide (t.kind = 1) || decide (t.kind = 3) || decide (t.kind = 4) || decide (t.kind = 6)) := by rw [decide_eq_true h1]; rfl
    exact retP rfl e
  · have e : C.bool true = C.bool (decide (t.kind = 1) || decide (t.kind = 3) || decide (t.kind = 4) || decide (t.kind = 6)) := by rw [decide_eq_false h1, decide_eq_true h2]; rfl
    exact retP rfl e
  · have e : C.bool true = C.bool (decide (t.kind = 1) || decide (t.kind = 3) || decide (t.kind = 4) || decide (t.kind = 6)) := by rw [decide_eq_false h1, decide_eq_false h2, decide_eq_true h3]; rfl
    exact retP rfl e
  · have e : C.bool (decide (t.kind = 6)) = C.bool (decide (t.kind = 1) || decide (t.kind = 3) || decide (t.kind = 4) || decide (t.kind = 6)) := by rw [decide_eq_false h1, decide_eq_false h2, decide_eq_false h3]; rfl
    exact retP rfl e
end Go.Fr.Tryd

/- Layout: the fields of a variant, which types have a layout. -/
set_option linter.unusedVariables false
set_option linter.unusedSimpArgs false
namespace Go.Fr.Tryd
open Go Go.RowKit Go.Proofs Go.Fr Go.Fr.T Go.Fr.Api

theorem idxD {ds : List Api.Data} {z : Int} {d : Api.Data} {K : List C → Prop} (h0 : 0 ≤ z) (hx : ds[z.toNat]? = some d) (h : K [.str d.name, IC d.module, IC d.params, .sl (d.variants.map variantC), IC d.drop]) : IdxT (ds.map dataC) z 5 K :=
  ⟨_, h0, by rw [List.getElem?_map, hx]; rfl, rfl, h⟩
theorem idxV {vs : List Variant} {k : Nat} {v : Variant} {K : List C → Prop} (hx : vs[k]? = some v) (h : K [.str v.name, .sl (v.fields.map tyC)]) : IdxT (vs.map variantC) (k : Int) 2 K :=
  ⟨_, by omega, by rw [List.getElem?_map]; show (vs[k]?).map variantC = _; rw [hx]; rfl, rfl, h⟩
/-- the tables are not too long -/
def DsB (ds : List Api.Data) : Prop := ∀ d ∈ ds, d.variants.length ≤ 2 ^ 30 ∧ ∀ v ∈ d.variants, v.fields.length ≤ 2 ^ 30 ∧ ∀ x ∈ v.fields, TyB x
def TysB (a : List Ty) : Prop := a.length ≤ 2 ^ 30 ∧ ∀ x ∈ a, TyB x
theorem tyB_iff (t : Ty) : TyB t ↔ TysB t.args := by
  cases t with
  | mk k i l => rw [TyB, tyBs_iff]; exact Iff.rfl
theorem tyB_subst {a : List Ty} (ha : ∀ x ∈ a, TyB x) : ∀ t : Ty, TyB t → TyB (subst a t)
  | .mk k i l, hb => by
    rw [subst_eq]
    split
    · rename_i h
      have hl : (Ty.mk k i l).id.toNat < a.length := by have h1 := h.2.1; have h2 := h.2.2; omega
      rw [List.getElem?_eq_getElem hl]
      exact ha _ (List.getElem_mem hl)
    · rw [TyB, tyBs_iff] at hb
      show TyB (.mk k i (l.map (subst a)))
      rw [TyB, tyBs_iff, List.length_map]
      refine ⟨hb.1, fun t ht => ?_⟩
      obtain ⟨x, hx, rfl⟩ := List.mem_map.1 ht
      exact tyB_subst ha x (hb.2 x hx)
termination_by t => SizeOf.sizeOf t
decreasing_by
  have := List.sizeOf_lt_of_mem hx
  simp only [Ty.mk.sizeOf_spec]
  omega
def fldsM (t : Ty) (v : Variant) : List Ty := v.fields.map (subst t.args)
set_option maxRecDepth 10000 in
theorem t26 (ds : List Api.Data) (t : Ty) (vi : Nat) (d : Api.Data) (v : Variant) (h0 : 0 ≤ t.id) (hd : ds[t.id.toNat]? = some d) (hv : d.variants[vi]? = some v) (hl : v.fields.length ≤ 2 ^ 30) (hb : ∀ x ∈ v.fields, TyB x) :
    CallsT P 26 [.sl (ds.map dataC), tyA t, IC vi] [] (Ret [] (.sl ((fldsM t v).map tyC))) := by
  have ih : ∀ x ∈ v.fields, CallsT P 36 [.sl (t.args.map tyC), tyA x] [] (Ret [] (tyA (subst t.args x))) := fun x hx => t36 t.args x (hb x hx)
  rw [fldsM]
  generalize subst t.args = f at ih ⊢
  refine callsT_facts Tryd.func26 facts26 rfl fun hw _ => ?_
  refine idxD h0 hd ?_
  refine idxV hv ?_
  refine loopN v.fields.length 9 [7] ([] : List Ty) (fun _ => [.rw 35]) (fun s => [(4, .box 25 [IC t.kind, IC t.id, .sl (t.args.map tyC)]), (35, .row 25 3 (s.map tyC))]) (fun j s => s = (v.fields.take j).map f) (by simp) (same_keys rfl) ⟨nil_rw rfl rfl, trivial⟩
    ⟨.inl ⟨_, rfl, .inl ⟨rfl, rfl⟩⟩, .inr ⟨rfl, 25, 3, rfl⟩, trivial⟩ (fun _ => rfl) (fun _ => rfl) ?_
  rintro j s hj hinv _ _ _
  refine brn_p (fun hlt => ?_) (fun hge => ?_)
  · have hlt : j < v.fields.length := by simpa using hlt
    refine withGet hlt fun x hx hxm => ?_
    have hs : (s.map tyC).length = j := by rw [hinv, List.length_map, List.length_map, List.length_take]; omega
    refine idxTy hx ?_
    refine callPD (ih x hxm) rfl fun _ => ?_
    refine app1' j rfl hs (by decide) (by omega) ?_
    refine Fit.in64 (by omega) (by omega) ?_
    refine ⟨(j + 1, s ++ [f x]), ⟨hlt, ?_⟩, ⟨nextI, same_keys rfl, trivial⟩, ⟨.inl ⟨_, rfl, .inl ⟨rfl, rfl⟩⟩, .inl ⟨_, rfl, .inl ⟨rowG rowT, rfl⟩⟩, trivial⟩, nextM hlt⟩
    show s ++ [f x] = (v.fields.take (j + 1)).map f
    rw [take_snoc hx, hinv, List.map_append]; rfl
  · have hge : ¬ j < v.fields.length := by simpa using hge
    have e : s.map tyC = (v.fields.map f).map tyC := by
      rw [hinv, List.take_of_length_le (by omega)]
    exact retF [35] [] ⟨_, [], rfl, rfl, rfl, rfl, rowF e⟩
theorem t25 : CallsT P 25 [] [] (Ret [] (IC 200)) := by
  refine callsT_facts Tryd.func25 facts25 rfl fun hw _ => ?_
  exact retP rfl rfl

/- what is left of a number -/
def leftFs (p : Ty → Int → Int) : List Ty → Int → Int
  | [], n => n
  | x :: l, n => if 0 ≤ n then leftFs p l (p x n) else n
def leftVs (p : Ty → Int → Int) (t : Ty) : List Variant → Int → Int
  | [], n => n
  | v :: l, n => leftVs p t l (leftFs p (fldsM t v) n)
abbrev badP (ds : List Api.Data) (t : Ty) : Prop := t.kind ≠ 2 ∨ t.id < 0 ∨ (ds.length : Int) ≤ t.id
def dataAt (ds : List Api.Data) (t : Ty) : Api.Data := (ds[t.id.toNat]?).getD ⟨⟨#[]⟩, 0, 0, [], 0⟩
abbrev oddP (d : Api.Data) (t : Ty) : Prop := (t.args.length : Int) ≠ d.params ∨ (d.variants.length : Int) < 1 ∨ 16 < (d.variants.length : Int)
def left (ds : List Api.Data) : Nat → Ty → Int → Int
  | 0, _, n => n - 1
  | f + 1, t, n => if n - 1 < 0 ∨ simpleP t then n - 1 else if badP ds t then -1 else if oddP (dataAt ds t) t then -1 else leftVs (left ds f) t (dataAt ds t).variants (n - 1)
theorem leftFs_bd {p : Ty → Int → Int} (hp : ∀ x n, 0 ≤ n → -1 ≤ p x n ∧ p x n ≤ n - 1) : ∀ (l : List Ty) (n : Int), -1 ≤ n → -1 ≤ leftFs p l n ∧ leftFs p l n ≤ n
  | [], n, h => ⟨h, Int.le_refl _⟩
  | x :: l, n, h => by
    rw [leftFs]
    split
    · rename_i h0
      have h1 := hp x n h0
      have h2 := leftFs_bd hp l (p x n) h1.1
      omega
    · omega
theorem leftVs_bd {p : Ty → Int → Int} (hp : ∀ x n, 0 ≤ n → -1 ≤ p x n ∧ p x n ≤ n - 1) (t : Ty) : ∀ (l : List Variant) (n : Int), -1 ≤ n → -1 ≤ leftVs p t l n ∧ leftVs p t l n ≤ n
  | [], n, h => ⟨h, Int.le_refl _⟩
  | v :: l, n, h => by
    rw [leftVs]
    have h1 := leftFs_bd hp (fldsM t v) n h
    have h2 := leftVs_bd hp t l _ h1.1
    omega
theorem left_bd (ds : List Api.Data) : ∀ (f : Nat) (t : Ty) (n : Int), 0 ≤ n → -1 ≤ left ds f t n ∧ left ds f t n ≤ n - 1
  | 0, t, n, h => by rw [left]; omega
  | f + 1, t, n, h => by
    rw [left]
    split
    · omega
    · rename_i h1
      have h2 : ¬ n - 1 < 0 := fun h => h1 (.inl h)
      split
      · omega
      · split
        · omega
        · have := leftVs_bd (left_bd ds f) t (dataAt ds t).variants (n - 1) (by omega)
          omega
theorem leftFs_stop {p : Ty → Int → Int} {l : List Ty} {n : Int} (h : ¬ 0 ≤ n) : leftFs p l n = n := by
  cases l with
  | nil => rfl
  | cons x l => rw [leftFs, if_neg h]
theorem dataAt_get {ds : List Api.Data} {t : Ty} (h : ¬ badP ds t) : ds[t.id.toNat]? = some (dataAt ds t) ∧ dataAt ds t ∈ ds := by
  have hl : t.id.toNat < ds.length := by
    have h2 : ¬ t.id < 0 := fun q => h (.inr (.inl q))
    have h3 : ¬ (ds.length : Int) ≤ t.id := fun q => h (.inr (.inr q))
    omega
  rw [dataAt, List.getElem?_eq_getElem hl]
  exact ⟨rfl, List.getElem_mem hl⟩
set_option maxRecDepth 10000 in
theorem t24 (ds : List Api.Data) (hds : DsB ds) : ∀ (f : Nat) (t : Ty) (n : Int), TyB t → 0 ≤ n → n ≤ f → n ≤ 2 ^ 40 → CallsT P 24 [.sl (ds.map dataC), tyA t, IC n] [] (Ret [] (IC (left ds f t n)))
  | f, t, n, ht, h0, hf, h40 => by
    have hb := (tyB_iff t).1 ht
    have h35 := t35 t
    have hdm : (ds.map dataC).length = ds.length := List.length_map _
    have ham : (t.args.map tyC).length = t.args.length := List.length_map _
    have hleft : left ds f t n = if n - 1 < 0 ∨ simpleP t then n - 1 else if badP ds t then -1 else if oddP (dataAt ds t) t then -1 else leftVs (left ds (f - 1)) t (dataAt ds t).variants (n - 1) := by
      cases f with
      | zero => rw [left, if_pos (.inl (by omega))]
      | succ f => rw [left]; rfl
    have hp := left_bd ds (f - 1)
    have ih : ∀ x, TyB x → ∀ m, 0 ≤ m → m < n → CallsT P 24 [.sl (ds.map dataC), tyA x, IC m] [] (Ret [] (IC (left ds (f - 1) x m))) := by
      intro x hx m h1 h2
      cases f with
      | zero => omega
      | succ f => exact t24 ds hds f x m hx h1 (by omega) (by omega)
    generalize left ds f t n = res at hleft ⊢
    generalize left ds (f - 1) = p at hleft hp ih
    have hfl : ¬ badP ds t → ∀ v ∈ (dataAt ds t).variants, ∀ x ∈ fldsM t v, TyB x := by
      intro hbad v hv x hx
      have h2 := (hds _ (dataAt_get hbad).2).2 v hv
      rw [fldsM] at hx
      obtain ⟨y, hy, rfl⟩ := List.mem_map.1 hx
      exact tyB_subst hb.2 y (h2.2 y hy)
    have h26 : ¬ badP ds t → ∀ (k : Nat) v, (dataAt ds t).variants[k]? = some v → CallsT P 26 [.sl (ds.map dataC), tyA t, IC k] [] (Ret [] (.sl ((fldsM t v).map tyC))) := by
      intro hbad k v hv
      have hm := List.mem_of_getElem? hv
      have h2 := (hds _ (dataAt_get hbad).2).2 v hm
      exact t26 ds t k _ v (by have h2 : ¬ t.id < 0 := fun q => hbad (.inr (.inl q)); omega) (dataAt_get hbad).1 hv h2.1 h2.2
    have hget := fun h => (dataAt_get (ds := ds) (t := t) h).1
    have hdv : ¬ badP ds t → (dataAt ds t).variants.length ≤ 2 ^ 30 := fun hbad => (hds _ (dataAt_get hbad).2).1
    generalize dataAt ds t = d at *
    have hvm : (d.variants.map variantC).length = d.variants.length := List.length_map _
    refine callsT_facts Tryd.func24 facts24 rfl fun hw _ => ?_
    refine Fit.in64 (by omega) (by omega) ?_
    refine brn_p (fun h1 => ?_) (fun h1 => ?_)
    · have e : IC (n - 1) = IC res := by rw [hleft, if_pos (.inl h1)]
      exact retP rfl e
    refine callP h35 rfl fun _ => ?_
    refine brn_p (fun h2 => ?_) (fun h2 => ?_)
    · have e : IC (n - 1) = IC res := by rw [hleft, if_pos (.inr h2)]
      exact retP rfl e
    have hs : ¬ (n - 1 < 0 ∨ simpleP t) := fun h => h.elim h1 h2
    have hleft2 := hleft
    rw [if_neg hs] at hleft2
    have hbadr : badP ds t → IC (-1) = IC res := fun h => by rw [hleft2, if_pos h]
    refine brn_split (fun q1 => ?_) (fun q1 => ?_)
    · have q : ¬ t.kind = 2 := by simpa using q1
      exact retP rfl (hbadr (.inl q))
    have q1 : t.kind = 2 := by simpa using q1
    refine brn_p (fun q2 => ?_) (fun q2 => ?_)
    · exact retP rfl (hbadr (.inr (.inl q2)))
    refine brn_p (fun q3 => ?_) (fun q3 => ?_)
    · exact retP rfl (hbadr (.inr (.inr (by omega))))
    have hbad : ¬ badP ds t := by
      rintro (h | h | h) <;> omega
    have hleft3 := hleft2
    rw [if_neg hbad] at hleft3
    have hoddr : oddP d t → IC (-1) = IC res := fun h => by rw [hleft3, if_pos h]
    have hget := hget hbad
    have hz : 0 ≤ t.id := by omega
    refine idxD hz hget ?_
    refine brn_split (fun q4 => ?_) (fun q4 => ?_)
    · have q : ¬ ((t.args.map tyC).length : Int) = d.params := by simpa using q4
      exact retP rfl (hoddr (.inl (by omega)))
    have q4 : ((t.args.map tyC).length : Int) = d.params := by simpa using q4
    refine idxD hz hget ?_
    refine brn_p (fun q5 => ?_) (fun q5 => ?_)
    · exact retP rfl (hoddr (.inr (.inl (by omega))))
    refine idxD hz hget ?_
    refine brn_p (fun q6 => ?_) (fun q6 => ?_)
    · exact retP rfl (hoddr (.inr (.inr (by omega))))
    have hodd : ¬ oddP d t := by
      rintro (h | h | h) <;> omega
    have hleft4 := hleft3
    rw [if_neg hodd] at hleft4
    have h26 := h26 hbad
    have hfl := hfl hbad
    refine loopN d.variants.length 7 [2] (n - 1) (fun m => [IC m]) (fun _ => [(4, .box 25 [IC t.kind, IC t.id, .sl (t.args.map tyC)])]) (fun k m => leftVs p t (d.variants.drop k) m = res ∧ -1 ≤ m ∧ m ≤ n - 1) ⟨hleft4.symm, by omega, by omega⟩ (same_keys rfl) ⟨same_keys rfl, trivial⟩
      ⟨.inl ⟨_, rfl, .inl ⟨rfl, rfl⟩⟩, trivial⟩ (fun _ => rfl) (fun _ => rfl) ?_
    rintro k m hk ⟨hinv, hm0, hm1⟩ _ _ _
    refine idxD hz hget ?_
    refine brn_p (fun hlt => ?_) (fun hge => ?_)
    · have hlt : k < d.variants.length := by simpa using hlt
      refine withDrop hlt fun v hv hvm' hdr => ?_
      have hinv2 := hinv
      rw [hdr, leftVs] at hinv2
      have hfl := hfl v hvm'
      have hFb := leftFs_bd hp (fldsM t v) m hm0
      refine callP (h26 k v hv) rfl fun hwF => ?_
      generalize fldsM t v = F at *
      have hFm : (F.map tyC).length = F.length := List.length_map _
      have hFl : F.length ≤ 9223372036854775807 := wf_lenT hwF
      refine loopN F.length 9 [2] m (fun q => [IC q]) (fun _ => [(4, .box 25 [IC t.kind, IC t.id, .sl (t.args.map tyC)])]) (fun j q => leftFs p (F.drop j) q = leftFs p F m ∧ -1 ≤ q ∧ q ≤ m) ⟨rfl, by omega, by omega⟩ (same_keys rfl) ⟨same_keys rfl, trivial⟩
        ⟨.inl ⟨_, rfl, .inl ⟨rfl, rfl⟩⟩, trivial⟩ (fun _ => rfl) (fun _ => rfl) ?_
      rintro j q hj ⟨hinv3, hq0, hq1⟩ _ _ _
      refine brn_p (fun hlt2 => ?_) (fun hge2 => ?_)
      · have hlt2 : j < F.length := by simpa using hlt2
        refine withDrop hlt2 fun x hx hxm hdr2 => ?_
        refine brn_p (fun hq => ?_) (fun hq => ?_)
        · refine idxTy hx ?_
          refine callP (ih x (hfl x hxm) q hq (by omega)) rfl fun _ => ?_
          refine Fit.in64 (by omega) (by omega) ?_
          have hpx := hp x q hq
          refine ⟨(j + 1, p x q), ⟨hlt2, ?_, by omega, by omega⟩, ⟨nextI, same_keys rfl, trivial⟩, ⟨.inl ⟨_, rfl, .inl ⟨rfl, rfl⟩⟩, trivial⟩, nextM hlt2⟩
          rw [hdr2, leftFs, if_pos hq] at hinv3
          exact hinv3
        · refine Fit.in64 (by omega) (by omega) ?_
          have hinv4 := hinv3
          rw [leftFs_stop hq] at hinv4
          refine ⟨(k + 1, q), ⟨hlt, ?_, by omega, by omega⟩, ⟨nextI, same_keys rfl, trivial⟩, ⟨.inl ⟨_, rfl, .inl ⟨rfl, rfl⟩⟩, trivial⟩, nextM hlt⟩
          rw [← hinv4] at hinv2
          exact hinv2
      · have hge2 : ¬ j < F.length := by simpa using hge2
        refine Fit.in64 (by omega) (by omega) ?_
        have hinv4 := hinv3
        rw [drop_end hge2, leftFs] at hinv4
        refine ⟨(k + 1, q), ⟨hlt, ?_, by omega, by omega⟩, ⟨nextI, same_keys rfl, trivial⟩, ⟨.inl ⟨_, rfl, .inl ⟨rfl, rfl⟩⟩, trivial⟩, nextM hlt⟩
        rw [← hinv4] at hinv2
        exact hinv2
    · have hge : ¬ k < d.variants.length := by simpa using hge
      have e : IC m = IC res := by
        rw [drop_end hge, leftVs] at hinv
        rw [hinv]
      exact retP rfl e
theorem t10 (ds : List Api.Data) (hds : DsB ds) (t : Ty) (ht : TyB t) : CallsT P 10 [.sl (ds.map dataC), tyA t] [] (Ret [] (.bool (decide (0 ≤ left ds 200 t 200)))) := by
  have h24 := t24 ds hds 200 t 200 ht (by decide) (by decide) (by decide)
  generalize left ds 200 t 200 = r at h24 ⊢
  refine callsT_facts Tryd.func10 facts10 rfl fun hw _ => ?_
  refine callPD t25 rfl fun _ => ?_
  refine callPD h24 rfl fun _ => ?_
  exact retP rfl rfl
end Go.Fr.Tryd

/- Layout: comparisons, examples, sizes of tables. -/
set_option linter.unusedVariables false
set_option linter.unusedSimpArgs false
namespace Go.Fr.Tryd
open Go Go.RowKit Go.Proofs Go.Fr Go.Fr.T Go.Fr.Api

/-- a value: kind, number of the data type, variant, number, fields -/
inductive Val where
  | mk (k i v n : Int) (l : List Val)
  deriving Inhabited
def Val.kind : Val → Int | .mk k _ _ _ _ => k
def Val.id : Val → Int | .mk _ i _ _ _ => i
def Val.var : Val → Int | .mk _ _ v _ _ => v
def Val.n : Val → Int | .mk _ _ _ n _ => n
def Val.fields : Val → List Val | .mk _ _ _ _ l => l
mutual
def valC : Val → List C
  | .mk k i v n l => [IC k, IC i, IC v, IC n, .sl (valCs l), .bool false, .sl [], .sl []]
def valCs : List Val → List (List C)
  | [] => []
  | v :: l => valC v :: valCs l
end
theorem valCs_map : ∀ l : List Val, valCs l = l.map valC
  | [] => rfl
  | v :: l => by rw [valCs, valCs_map l]; rfl
abbrev valL (v : Val) : List C := [IC v.kind, IC v.id, IC v.var, IC v.n, .sl (v.fields.map valC), .bool false, .sl [], .sl []]
abbrev valA (v : Val) : C := .agg (valL v)
theorem valC_eq (v : Val) : valC v = valL v := by
  cases v; rw [valC, valCs_map]; rfl
theorem idxVal {l : List Val} {k : Nat} {x : Val} {K : List C → Prop} (hx : l[k]? = some x) (h : K (valL x)) : IdxT (l.map valC) (k : Int) 8 K := idxT hx (valC_eq x) rfl h
set_option maxRecDepth 10000 in
theorem t17 (a : List Int) : CallsT P 17 [.sl (ics a), .sl (ics a)] [] (Ret [] (.bool true)) := by
  refine callsT_facts Tryd.func17 facts17 rfl fun hw _ => ?_
  have hm : (ics a).length = a.length := List.length_map _
  have hn : a.length ≤ 9223372036854775807 := by have := wf_len hw.1; omega
  refine brn_split (fun h => ?_) (fun _ => ?_)
  · simp at h
  refine loopN a.length 5 [] () (fun _ => []) (fun _ => []) (fun _ _ => True) trivial (same_keys rfl) trivial trivial (fun _ => rfl) (fun _ => rfl) ?_
  rintro k _ hk _ _ _ _
  refine brn_p (fun hlt => ?_) (fun hge => ?_)
  · have hlt : k < a.length := by omega
    refine withGet hlt fun x hx hxm => ?_
    refine idxI hx ?_
    refine idxI hx ?_
    refine brn_split (fun h => ?_) (fun _ => ?_)
    · simp at h
    refine Fit.in64 (by omega) (by omega) ?_
    exact ⟨(k + 1, ()), ⟨hlt, trivial⟩, ⟨nextI, trivial⟩, trivial, nextM hlt⟩
  · exact retP rfl rfl
set_option maxRecDepth 10000 in
theorem t16 : ∀ v : Val, CallsT P 16 [valA v, valA v] [] (Ret [] (.bool true))
  | .mk k i va n l => by
    have ih : ∀ x ∈ l, CallsT P 16 [valA x, valA x] [] (Ret [] (.bool true)) := fun x hx => t16 x
    show CallsT P 16 [.agg [IC k, IC i, IC va, IC n, .sl (l.map valC), .bool false, .sl [], .sl []], .agg [IC k, IC i, IC va, IC n, .sl (l.map valC), .bool false, .sl [], .sl []]] [] (Ret [] (.bool true))
    refine callsT_facts Tryd.func16 facts16 rfl fun hw _ => ?_
    have hn : l.length ≤ 9223372036854775807 := wf_lenM hw.1.2.2.2.2.1
    refine brn_split (fun h => ?_) (fun _ => ?_)
    · simp at h
    refine brn_split (fun h2 => ?_) (fun h2 => ?_)
    · refine brn_split (fun h => ?_) (fun _ => ?_)
      · simp at h
      have h2 : ¬ k = 2 := by simpa using h2
      refine brn_p (fun h => absurd h h2) (fun _ => ?_)
      refine brn_split (fun h => ?_) (fun _ => ?_)
      · simp at h
      refine loopN 0 5 [] () (fun _ => []) (fun _ => [(2, .box 32 [IC k, IC i, IC va, IC n, .sl (l.map valC), .bool false, .sl [], .sl []]), (3, .box 32 [IC k, IC i, IC va, IC n, .sl (l.map valC), .bool false, .sl [], .sl []])]) (fun _ _ => True) trivial (same_keys rfl) trivial ⟨.inl ⟨_, rfl, .inl ⟨rfl, rfl⟩⟩, .inl ⟨_, rfl, .inl ⟨rfl, rfl⟩⟩, trivial⟩ (fun _ => rfl) (fun _ => rfl) ?_
      rintro j _ hj _ _ _ _
      refine brn_p (fun hlt => ?_) (fun hge => ?_)
      · refine brn_p (fun h => absurd h h2) (fun _ => ?_)
        exact retP rfl rfl
      · exact retP rfl rfl
    · have h2 : k = 2 := by simpa using h2
      refine brn_p (fun _ => ?_) (fun h => absurd h2 h)
      refine brn_split (fun h => ?_) (fun _ => ?_)
      · simp at h
      refine brn_split (fun h => ?_) (fun _ => ?_)
      · simp at h
      refine brn_split (fun h => ?_) (fun _ => ?_)
      · simp at h
      refine loopN l.length 5 [] () (fun _ => []) (fun _ => [(2, .box 32 [IC k, IC i, IC va, IC n, .sl (l.map valC), .bool false, .sl [], .sl []]), (3, .box 32 [IC k, IC i, IC va, IC n, .sl (l.map valC), .bool false, .sl [], .sl []])]) (fun _ _ => True) trivial (same_keys rfl) trivial ⟨.inl ⟨_, rfl, .inl ⟨rfl, rfl⟩⟩, .inl ⟨_, rfl, .inl ⟨rfl, rfl⟩⟩, trivial⟩ (fun _ => rfl) (fun _ => rfl) ?_
      rintro j _ hj _ _ _ _
      refine brn_p (fun hlt => ?_) (fun hge => ?_)
      · have hlt : j < l.length := by simpa using hlt
        refine brn_p (fun _ => ?_) (fun h => absurd h2 h)
        refine withGet hlt fun x hx hxm => ?_
        refine idxVal hx ?_
        refine idxVal hx ?_
        refine callPD (ih x hxm) rfl fun _ => ?_
        refine Fit.in64 (by omega) (by omega) ?_
        exact ⟨(j + 1, ()), ⟨hlt, trivial⟩, ⟨nextI, trivial⟩, ⟨.inl ⟨_, rfl, .inl ⟨rfl, rfl⟩⟩, .inl ⟨_, rfl, .inl ⟨rfl, rfl⟩⟩, trivial⟩, nextM hlt⟩
      · exact retP rfl rfl
theorem t18 (k : Int) (t : Ty) : CallsT P 18 [IC k, tyA t] [] (Ret [] (tyA (.mk k 0 [t]))) := by
  have e : tyA (.mk k 0 [t]) = .agg [IC k, IC 0, .sl [[IC t.kind, IC t.id, .sl (t.args.map tyC)]]] := by
    show C.agg [IC k, IC 0, .sl [tyC t]] = _
    rw [tyC_eq]
  rw [e]
  refine callsT_facts Tryd.func18 facts18 rfl fun hw _ => ?_
  exact retP rfl rfl
theorem t19 (i : Int) (l : List Ty) : CallsT P 19 [IC i, .sl (l.map tyC)] [] (Ret [] (tyA (.mk 2 i l))) := by
  refine callsT_facts Tryd.func19 facts19 rfl fun hw _ => ?_
  exact retP rfl rfl
theorem t21 : CallsT P 21 [] [] (Ret [] (tyA (.mk 1 0 []))) := by
  refine callsT_facts Tryd.func21 facts21 rfl fun hw _ => ?_
  exact retP rfl rfl
def exDs : List Api.Data :=
  [⟨⟨#[]⟩, 0, 1, [⟨⟨#[]⟩, []⟩, ⟨⟨#[]⟩, [.mk 5 0 []]⟩], 0⟩,
   ⟨⟨#[]⟩, 0, 2, [⟨⟨#[]⟩, [.mk 5 0 [], .mk 5 1 []]⟩], 0⟩,
   ⟨⟨#[]⟩, 0, 1, [⟨⟨#[]⟩, []⟩, ⟨⟨#[]⟩, [.mk 5 0 [], .mk 3 0 [.mk 2 2 [.mk 5 0 []]]]⟩], 0⟩]
set_option maxRecDepth 10000 in
theorem t20 : CallsT P 20 [] [] (Ret [] (.sl (exDs.map dataC))) := by
  refine callsT_facts Tryd.func20 facts20 rfl fun hw _ => ?_
  refine callP (t18 3 (.mk 2 2 [.mk 5 0 []])) rfl fun _ => ?_
  exact retP rfl rfl
set_option maxRecDepth 10000 in
theorem t9 (ds : List Api.Data) (t : Ty) : CallsT P 9 [.sl (ds.map dataC), tyA t] [] (Such True) := by
  have h23 := t23
  have h23t := t23 [t]
  have e : [t].map tyC = [[IC t.kind, IC t.id, .sl (t.args.map tyC)]] := congrArg (fun z => [z]) (tyC_eq t)
  rw [e] at h23t
  have hdm : (ds.map dataC).length = ds.length := List.length_map _
  generalize smallL = sm at h23 h23t
  refine callsT_facts Tryd.func9 facts9 rfl fun hw _ => ?_
  have hdl : ds.length ≤ 9223372036854775807 := wf_lenM hw.1
  refine brn_p (fun h => ?_) (fun h1 => ?_)
  · exact retB false rfl rfl (fun _ => trivial)
  refine callP h23t rfl fun _ => ?_
  refine brn_split (fun h => ?_) (fun _ => ?_)
  · exact retB false rfl rfl (fun _ => trivial)
  refine loopN ds.length 5 [] () (fun _ => []) (fun _ => [(3, .box 25 [IC t.kind, IC t.id, .sl (t.args.map tyC)])]) (fun _ _ => True) trivial (same_keys rfl) trivial ⟨.inl ⟨_, rfl, .inl ⟨rfl, rfl⟩⟩, trivial⟩ (fun _ => rfl) (fun _ => rfl) ?_
  rintro k _ hk _ _ _ hk63
  refine brn_p (fun hlt => ?_) (fun hge => ?_)
  · have hlt : k < ds.length := by simpa using hlt
    refine withGet hlt fun d hd hdm' => ?_
    have hd' : ds[((k : Int)).toNat]? = some d := hd
    have hk0 : (0 : Int) ≤ (k : Int) := by omega
    refine idxD hk0 hd' ?_
    refine brn_p (fun h => ?_) (fun h2 => ?_)
    · exact retB false rfl rfl (fun _ => trivial)
    have hvl : (d.variants.map variantC).length = d.variants.length := List.length_map _
    refine loopN d.variants.length 6 [] () (fun _ => []) (fun _ => [(3, .box 25 [IC t.kind, IC t.id, .sl (t.args.map tyC)])]) (fun _ _ => True) trivial (same_keys rfl) trivial ⟨.inl ⟨_, rfl, .inl ⟨rfl, rfl⟩⟩, trivial⟩ (fun _ => rfl) (fun _ => rfl) ?_
    rintro j _ hj _ _ _ hj63
    refine idxD hk0 hd' ?_
    refine brn_p (fun hlt2 => ?_) (fun hge2 => ?_)
    · have hlt2 : j < d.variants.length := by simpa using hlt2
      refine withGet hlt2 fun v hv hvm => ?_
      refine idxD hk0 hd' ?_
      refine idxV hv ?_
      refine brn_p (fun h => ?_) (fun h3 => ?_)
      · exact retB false rfl rfl (fun _ => trivial)
      refine callP (h23 v.fields) rfl fun _ => ?_
      refine brn_split (fun h => ?_) (fun _ => ?_)
      · exact retB false rfl rfl (fun _ => trivial)
      refine Fit.in64 (by omega) (by omega) ?_
      exact ⟨(j + 1, ()), ⟨hlt2, trivial⟩, ⟨nextI, trivial⟩, ⟨.inl ⟨_, rfl, .inl ⟨rfl, rfl⟩⟩, trivial⟩, nextM hlt2⟩
    · refine Fit.in64 (by omega) (by omega) ?_
      exact ⟨(k + 1, ()), ⟨hlt, trivial⟩, ⟨nextI, trivial⟩, ⟨.inl ⟨_, rfl, .inl ⟨rfl, rfl⟩⟩, trivial⟩, nextM hlt⟩
  · exact retB true rfl rfl (fun _ => trivial)
end Go.Fr.Tryd

/- Layout: shapes (the layouts of types), as data. -/
set_option linter.unusedVariables false
set_option linter.unusedSimpArgs false
namespace Go.Fr.Tryd
open Go Go.RowKit Go.Proofs Go.Fr Go.Fr.T Go.Fr.Api

inductive Sh where
  | num
  | hdl (k : Int)
  | sum (id : Int) (vs : List (List Sh)) (size spare great start : Int)
  deriving Inhabited
def shTy : Sh → TypeId
  | .num => 93
  | .hdl _ => 89
  | .sum .. => 96
mutual
def shR : Sh → C
  | .num => .agg []
  | .hdl k => IC k
  | .sum i vs sz sp gr be => .pt [IC i, .sl (vrCs vs), IC sz, IC sp, IC gr, IC be] 0
def vrCs : List (List Sh) → List (List C)
  | [] => []
  | l :: r => [.sl (shCs l)] :: vrCs r
def shCs : List Sh → List (List C)
  | [] => []
  | s :: l => [.ifc (shTy s) (shR s)] :: shCs l
end
/-- a shape as a value of the interface -/
abbrev shA (s : Sh) : C := .ifc (shTy s) (shR s)
abbrev shE (s : Sh) : List C := [shA s]
abbrev vrE (l : List Sh) : List C := [.sl (l.map shE)]
theorem shCs_map : ∀ l : List Sh, shCs l = l.map shE
  | [] => by rw [shCs]; rfl
  | s :: l => by rw [shCs, shCs_map l]; rfl
theorem vrCs_map : ∀ l : List (List Sh), vrCs l = l.map vrE
  | [] => by rw [vrCs]; rfl
  | s :: l => by rw [vrCs, vrCs_map l, shCs_map]; rfl
abbrev sumA (i : Int) (vs : List (List Sh)) (sz sp gr be : Int) : C := .pt [IC i, .sl (vs.map vrE), IC sz, IC sp, IC gr, IC be] 0
theorem shR_sum (i : Int) (vs : List (List Sh)) (sz sp gr be : Int) : shR (.sum i vs sz sp gr be) = sumA i vs sz sp gr be := by
  rw [shR, vrCs_map]
def Sh.words : Sh → Int
  | .sum _ _ sz _ _ _ => sz
  | _ => 1
def Sh.niches : Sh → Int
  | .num => 0
  | .hdl _ => 32768
  | .sum _ _ _ sp _ _ => sp
def total : List Sh → Int
  | [] => 0
  | s :: l => s.words + total l
mutual
def Sh.cnt : Sh → Nat
  | .num => 1
  | .hdl _ => 1
  | .sum _ vs _ _ _ _ => 1 + cntVs vs
def cntVs : List (List Sh) → Nat
  | [] => 0
  | l :: r => cntFs l + cntVs r
def cntFs : List Sh → Nat
  | [] => 0
  | s :: l => s.cnt + cntFs l
end
/-- size, great variant, number of variants with fields -/
def foldV : List (List Sh) → Int → Int × Int × Int → Int × Int × Int
  | [], _, a => a
  | l :: r, k, (sz, gr, wi) => foldV r (k + 1) (max sz (total l), if l = [] then gr else k, if l = [] then wi else wi + 1)
def freeOf (vs : List (List Sh)) (gr : Int) : Int := if 0 ≤ gr then (((vs[gr.toNat]?).getD []).head?.map Sh.niches).getD 0 else 0
def newSum (i : Int) (vs : List (List Sh)) : Sh :=
  let a := foldV vs 0 (0, -1, 0)
  let free := freeOf vs a.2.1
  let others : Int := vs.length - 1
  if others = 0 then .sum i vs a.1 free 0 0
  else if a.2.2 = 1 ∧ others ≤ free then .sum i vs a.1 (free - others) a.2.1 (65536 - free)
  else .sum i vs (a.1 + 1) (65536 - vs.length) (-1) 0

mutual
def Good : Sh → Prop
  | .num => True
  | .hdl _ => True
  | .sum i vs sz sp gr be => vs ≠ [] ∧ vs.length ≤ 16 ∧ newSum i vs = .sum i vs sz sp gr be ∧ GoodVs vs
/-- as newSum makes them -/
def GoodVs : List (List Sh) → Prop
  | [] => True
  | l :: r => GoodFs l ∧ GoodVs r
def GoodFs : List Sh → Prop
  | [] => True
  | s :: l => Good s ∧ GoodFs l
end
theorem goodFs_iff : ∀ {l : List Sh}, GoodFs l ↔ ∀ s ∈ l, Good s
  | [] => by simp [GoodFs]
  | s :: l => by simp [GoodFs, goodFs_iff (l := l)]
theorem goodVs_iff : ∀ {vs : List (List Sh)}, GoodVs vs ↔ ∀ l ∈ vs, ∀ s ∈ l, Good s
  | [] => by simp [GoodVs]
  | s :: l => by simp [GoodVs, goodVs_iff (vs := l), goodFs_iff]
theorem total_bd : ∀ {l : List Sh}, (∀ s ∈ l, 0 ≤ s.words ∧ s.words ≤ s.cnt) → 0 ≤ total l ∧ total l ≤ cntFs l
  | [], _ => by simp [total, cntFs]
  | s :: l, h => by
    have h1 := h s (by simp)
    have h2 := total_bd (l := l) fun x hx => h x (by simp [hx])
    simp only [total, cntFs]
    omega
theorem foldV_bd : ∀ {vs : List (List Sh)} {k sz gr wi : Int}, (∀ l ∈ vs, 0 ≤ total l ∧ total l ≤ cntFs l) → sz ≤ (foldV vs k (sz, gr, wi)).1 ∧ (foldV vs k (sz, gr, wi)).1 ≤ max sz (cntVs vs : Nat)
  | [], k, sz, gr, wi, _ => by simp only [foldV, cntVs]; omega
  | l :: r, k, sz, gr, wi, h => by
    have h1 := h l (by simp)
    have h2 := foldV_bd (vs := r) (k := k + 1) (sz := max sz (total l)) (gr := if l = [] then gr else k) (wi := if l = [] then wi else wi + 1) fun x hx => h x (by simp [hx])
    simp only [foldV, cntVs]
    omega
theorem newSum_size {i : Int} {vs : List (List Sh)} {j : Int} {us : List (List Sh)} {sz sp gr be : Int} (h : newSum i vs = .sum j us sz sp gr be) : j = i ∧ us = vs ∧ (foldV vs 0 (0, -1, 0)).1 ≤ sz ∧ sz ≤ (foldV vs 0 (0, -1, 0)).1 + 1 := by
  simp only [newSum] at h
  split at h
  · injection h with h1 h2 h3 h4 h5 h6
    exact ⟨h1.symm, h2.symm, by omega, by omega⟩
  · split at h
    · injection h with h1 h2 h3 h4 h5 h6
      exact ⟨h1.symm, h2.symm, by omega, by omega⟩
    · injection h with h1 h2 h3 h4 h5 h6
      exact ⟨h1.symm, h2.symm, by omega, by omega⟩
theorem words_bd : ∀ {s : Sh}, Good s → 0 ≤ s.words ∧ s.words ≤ s.cnt
  | .num, _ => by simp [Sh.words, Sh.cnt]
  | .hdl _, _ => by simp [Sh.words, Sh.cnt]
  | .sum i vs sz sp gr be, h => by
    rw [Good, goodVs_iff] at h
    have ih : ∀ l ∈ vs, 0 ≤ total l ∧ total l ≤ cntFs l := fun l hl => total_bd fun s hs => words_bd (h.2.2.2 l hl s hs)
    have h1 := foldV_bd (vs := vs) (k := 0) (sz := 0) (gr := -1) (wi := 0) ih
    have h2 := newSum_size h.2.2.1
    simp only [Sh.words, Sh.cnt]
    omega
termination_by s => SizeOf.sizeOf s
decreasing_by
  have h1 := List.sizeOf_lt_of_mem hs
  have h2 := List.sizeOf_lt_of_mem hl
  simp only [Sh.sum.sizeOf_spec]
  omega
theorem cntFs_mem : ∀ {l : List Sh} {s : Sh}, s ∈ l → s.cnt ≤ cntFs l
  | x :: l, s, h => by
    simp only [cntFs]
    rcases List.mem_cons.1 h with rfl | h
    · omega
    · have := cntFs_mem h; omega
theorem cntVs_mem : ∀ {vs : List (List Sh)} {l : List Sh}, l ∈ vs → cntFs l ≤ cntVs vs
  | x :: vs, l, h => by
    simp only [cntVs]
    rcases List.mem_cons.1 h with rfl | h
    · omega
    · have := cntVs_mem h; omega
theorem cnt_pos (s : Sh) : 1 ≤ s.cnt := by cases s <;> simp only [Sh.cnt] <;> omega
theorem cntFs_len : ∀ (l : List Sh), l.length ≤ cntFs l
  | [] => by simp [cntFs]
  | x :: l => by
    have := cntFs_len l
    have := cnt_pos x
    simp only [cntFs, List.length_cons]; omega

/- the word that marks a variant -/
def markM (gr be k : Int) : Option Int := if gr < 0 then some k else if k = gr then none else if k < gr then some (be + k) else some (be + k - 1)
def valZ : Val := .mk 0 0 0 0 []
mutual
def putM : Sh → Val → List Int × Bool
  | .num, v => ([v.n], decide (v.kind = 1 ∧ -1000000000 ≤ v.n ∧ v.n ≤ 1000000000))
  | .hdl k, v => ([v.n], decide (v.kind = k ∧ 0 ≤ v.n ∧ v.n ≤ 32767))
  | .sum i vs sz sp gr be, v =>
    if v.kind ≠ 2 ∨ v.id ≠ i ∨ v.var < 0 then ([], false) else
    match putVs vs v.var.toNat v.fields with
    | none => ([], false)
    | some w => ((markM gr be v.var).toList ++ w ++ List.replicate (sz - (((markM gr be v.var).toList ++ w).length : Int)).toNat 0, true)
def putVs : List (List Sh) → Nat → List Val → Option (List Int)
  | [], _, _ => none
  | l :: _, 0, fs => if fs.length = l.length then putFs l fs else none
  | _ :: r, k + 1, fs => putVs r k fs
def putFs : List Sh → List Val → Option (List Int)
  | [], _ => some []
  | _ :: _, [] => none
  | s :: l, v :: vs => if (putM s v).2 then (putFs l vs).map ((putM s v).1 ++ ·) else none
end
mutual
def getM : Sh → List Int → Val × Bool
  | .num, w => (.mk 1 0 0 (w.headD 0) [], decide (-1000000000 ≤ w.headD 0 ∧ w.headD 0 ≤ 1000000000))
  | .hdl k, w => (.mk k 0 0 (w.headD 0) [], decide (0 ≤ w.headD 0 ∧ w.headD 0 ≤ 32767))
  | .sum i vs _ _ gr be, w => getVs i gr be vs 0 w
def getVs (i gr be : Int) : List (List Sh) → Int → List Int → Val × Bool
  | [], _, _ => (valZ, false)
  | l :: r, k, w =>
    match (match markM gr be k with
      | some m => if w.headD 0 = m then getFs l w.tail else none
      | none => getFs l w) with
    | some (xs, rest) => if rest.all (fun n => decide (n = 0)) then (.mk 2 i k 0 xs, true) else getVs i gr be r (k + 1) w
    | none => getVs i gr be r (k + 1) w
def getFs : List Sh → List Int → Option (List Val × List Int)
  | [], w => some ([], w)
  | s :: l, w => if (getM s (w.take s.words.toNat)).2 then (getFs l (w.drop s.words.toNat)).map (fun p => ((getM s (w.take s.words.toNat)).1 :: p.1, p.2)) else none
end
/- layouts of types -/
def planFs (p : Ty → Int → Option Sh × Int) : List Ty → Int → Option (List Sh) × Int
  | [], n => (some [], n)
  | x :: l, n => match p x n with
    | (none, m) => (none, m)
    | (some s, m) => match planFs p l m with
      | (none, k) => (none, k)
      | (some ss, k) => (some (s :: ss), k)
def planVs (p : Ty → Int → Option Sh × Int) (t : Ty) : List Variant → Int → Option (List (List Sh)) × Int
  | [], n => (some [], n)
  | v :: l, n => match planFs p (fldsM t v) n with
    | (none, m) => (none, m)
    | (some s, m) => match planVs p t l m with
      | (none, k) => (none, k)
      | (some ss, k) => (some (s :: ss), k)
def plan (ds : List Api.Data) : Nat → Ty → Int → Option Sh × Int
  | 0, _, n => (none, n - 1)
  | f + 1, t, n =>
    if n - 1 < 0 then (none, n - 1)
    else if has1 t.kind = true then (some (.hdl (look1 t.kind)), n - 1)
    else if t.kind = 1 then (some .num, n - 1)
    else if badP ds t then (none, n - 1)
    else if oddP (dataAt ds t) t then (none, n - 1)
    else match planVs (plan ds f) t (dataAt ds t).variants (n - 1) with
      | (none, m) => (none, m)
      | (some vs, m) => (some (newSum t.id vs), m)
end Go.Fr.Tryd
