/- Part of the proofs of the statements of this seat. -/
import Derived.Test.YtjobilmjlmeohaaDoorLyW7G
import Derived.Test.YtjobilmjlmeohaaDoorFW3
import Derived.Test.YtjobilmjlmeohaaDoorRows
import Derived.WideKeyMaps
import Derived.MakeChecks
import Derived.ChangeArms
/- Layout: the statement on one word, walked. -/
set_option linter.unusedVariables false
set_option linter.unusedSimpArgs false
namespace Go.Fr.Tryd
open Go Go.RowKit Go.Proofs Go.Fr Go.Fr.T Go.Fr.Api

theorem rowOpt {a j : Nat} {ft : Ty} {s : List Variant} {c : C} (hs : s = (List.range j).map (optG a ft)) (hc : c = .sl ((optG a ft j).fields.map tyC)) : s.map variantC ++ [[C.str ⟨#[]⟩, c]] = (s ++ [optG a ft j]).map variantC := by
  rw [hc, List.map_append]; rfl
theorem range_snoc {a j : Nat} {ft : Ty} {s : List Variant} (hs : s = (List.range j).map (optG a ft)) : s ++ [optG a ft j] = (List.range (j + 1)).map (optG a ft) := by
  rw [hs, List.range_succ, List.map_append]; rfl
set_option maxRecDepth 10000 in
set_option maxHeartbeats 1000000 in
theorem t5 (ds : List Api.Data) (hds : DsB ds) (hdl : ds.length ≤ 2 ^ 30) (n at' kd : Int) (hn : 0 ≤ n ∧ n ≤ 255) (hat : 0 ≤ at' ∧ at' ≤ 255) (hkd : 0 ≤ kd ∧ kd ≤ 255) (inner : Ty) (hi : TyB inner) :
    CallsT P 5 [.sl (ds.map dataC), .int .u8 n, .int .u8 at', .int .u8 kd, tyA inner] [] (Ret [] (.bool true)) := by
  have hm := tmod_pos hn.1 (show (0 : Int) < 16 by decide)
  obtain ⟨oth, hoth⟩ := Int.eq_ofNat_of_zero_le hm.1
  have hm2 := tmod_pos hat.1 (show (0 : Int) < n.tmod 16 + 1 by omega)
  obtain ⟨a, ha⟩ := Int.eq_ofNat_of_zero_le hm2.1
  have hat' : at'.tmod (n.tmod 16 + 1) = (a : Int) := ha
  have hdm : (ds.map dataC).length = ds.length := List.length_map _
  have key : ∀ ft : Ty, has1 ft.kind = true → TyB ft → CallsT P 14 [.sl ((ds ++ [(⟨⟨#[]⟩, 0, 0, (List.range (oth + 1)).map (optG a ft), 0⟩ : Api.Data)]).map dataC), tyA (.mk 2 (ds.map dataC).length [])] [] (Ret [] (IC 1)) ∧
      CallsT P 13 [.sl ((ds ++ [(⟨⟨#[]⟩, 0, 0, (List.range (oth + 1)).map (optG a ft), 0⟩ : Api.Data)]).map dataC), tyA (.mk 2 (ds.map dataC).length [])] [] (Ret [] (IC (32768 - n.tmod 16))) := by
    intro ft hk hf
    obtain ⟨s, h1, h2, h3⟩ := planO_opt (ds := ds) (ft := ft) (a := a) (n := oth + 1) (by omega) (by omega) hk
    have hda : DsB (ds ++ [(⟨⟨#[]⟩, 0, 0, (List.range (oth + 1)).map (optG a ft), 0⟩ : Api.Data)]) := by
      intro d hd
      rcases List.mem_append.1 hd with h | h
      · exact hds d h
      · rw [List.mem_singleton.1 h]
        refine ⟨?_, fun v hv => ?_⟩
        · show ((List.range (oth + 1)).map (optG a ft)).length ≤ _
          rw [List.length_map, List.length_range]; omega
        · obtain ⟨i, _, rfl⟩ := List.mem_map.1 hv
          by_cases hia : i = a
          · simp only [optG, if_pos hia]
            exact ⟨by simp, fun x hx => by rw [List.mem_singleton.1 hx]; exact hf⟩
          · simp only [optG, if_neg hia]
            exact ⟨by decide, fun x hx => by cases hx⟩
    have ht : TyB (.mk 2 ds.length []) := by simp [TyB, TyBs]
    have h14 := wordsC hda ht h1
    have h13 := nichesC hda ht h1
    have e : (32768 : Int) - (((oth + 1 : Nat) : Int) - 1) = 32768 - n.tmod 16 := by omega
    rw [h2] at h14
    rw [h3, e] at h13
    rw [hdm]
    exact ⟨h14, h13⟩
  refine callsT_facts Tryd.func5 facts5 rfl fun hw _ => ?_
  refine callP t8 rfl fun _ => ?_
  refine Fit.in64 (by omega) (by omega) ?_
  refine NonZ.mk (by decide) ?_
  refine callB (t9 ds inner) rfl fun b _ => ?_
  refine brn_split (fun hb => ?_) (fun hb => ?_)
  · exact retP rfl rfl
  refine NonZ.mk (by decide) ?_
  refine brn_p (fun q0 => ?_) (fun q0 => ?_)
  · refine callP (t18 3 inner) rfl fun _ => ?_
    have hvl : ∀ j, ((List.range j).map (optG a (.mk 3 0 [inner]))).length = j := fun j => by rw [List.length_map, List.length_range]
    refine loopN (oth + 1) 15 [] ([] : List Variant) (fun _ => []) (fun s => [(9, .box 25 [IC inner.kind, IC inner.id, .sl (inner.args.map tyC)]), (13, .box 25 [IC (Ty.kind (.mk 3 0 [inner])), IC (Ty.id (.mk 3 0 [inner])), .sl ((Ty.args (.mk 3 0 [inner])).map tyC)]), (14, .box 48 [.str ⟨#[]⟩, IC 0, IC 0, .rw 59, IC 0]), (59, .row 50 2 (s.map variantC))])
      (fun j s => s = (List.range j).map (optG a (.mk 3 0 [inner]))) rfl (same_keys rfl) trivial
      ⟨.inl ⟨_, rfl, .inl ⟨rfl, rfl⟩⟩, .inl ⟨_, rfl, .inr ⟨25, _, _, rfl, rfl, _, _, rfl, same_keys rfl, _, _, rfl, same_keys rfl, _, _, rfl, same_keys rfl, rfl⟩⟩, .inl ⟨_, rfl, .inr ⟨48, _, _, rfl, rfl, _, _, rfl, same_keys rfl, _, _, rfl, same_keys rfl, _, _, rfl, same_keys rfl, _, _, rfl, nil_rw rfl rfl, _, _, rfl, same_keys rfl, rfl⟩⟩, .inr ⟨rfl, 50, 2, rfl⟩, trivial⟩ (fun _ => rfl) (fun _ => rfl) ?_
    rintro j s hj hinv _ _ _
    have hsl : (s.map variantC).length = j := by rw [List.length_map, hinv, hvl]
    refine brn_p (fun hlt => ?_) (fun hge => ?_)
    · have hlt : j < oth + 1 := by omega
      refine Fit.in64 (by omega) (by omega) ?_
      refine Fit.in64 (by omega) (by omega) ?_
      refine NonZ.mk (by omega) ?_
      refine brn_p (fun q => ?_) (fun q => ?_)
      · have hja : j = a := by rw [hat'] at q; omega
        have eA : C.sl [[IC (Ty.kind (.mk 3 0 [inner])), IC (Ty.id (.mk 3 0 [inner])), .sl ((Ty.args (.mk 3 0 [inner])).map tyC)]] = C.sl ((optG a (.mk 3 0 [inner]) j).fields.map tyC) := by
          simp only [optG, if_pos hja, List.map_cons, List.map_nil, tyC_eq]
        refine app1' j rfl hsl (by decide) (by omega) ?_
        refine Fit.in64 (by omega) (by omega) ?_
        exact ⟨(j + 1, s ++ [optG a (.mk 3 0 [inner]) j]), ⟨hlt, range_snoc hinv⟩, ⟨nextI, trivial⟩, ⟨.inl ⟨_, rfl, .inl ⟨rfl, rfl⟩⟩, .inl ⟨_, rfl, .inl ⟨rfl, rfl⟩⟩, .inl ⟨_, rfl, .inl ⟨rfl, rfl⟩⟩, .inl ⟨_, rfl, .inl ⟨rowG (rowOpt hinv eA), rfl⟩⟩, trivial⟩, nextM hlt⟩
      · have hja : ¬ j = a := by rw [hat'] at q; omega
        have eA : C.sl [] = C.sl ((optG a (.mk 3 0 [inner]) j).fields.map tyC) := by
          simp only [optG, if_neg hja, List.map_nil]
        refine app1' j rfl hsl (by decide) (by omega) ?_
        refine Fit.in64 (by omega) (by omega) ?_
        exact ⟨(j + 1, s ++ [optG a (.mk 3 0 [inner]) j]), ⟨hlt, range_snoc hinv⟩, ⟨nextI, trivial⟩, ⟨.inl ⟨_, rfl, .inl ⟨rfl, rfl⟩⟩, .inl ⟨_, rfl, .inl ⟨rfl, rfl⟩⟩, .inl ⟨_, rfl, .inl ⟨rfl, rfl⟩⟩, .inl ⟨_, rfl, .inl ⟨rowG (rowOpt hinv eA), rfl⟩⟩, trivial⟩, nextM hlt⟩
    · have hjn : j = oth + 1 := by omega
      have hall : ds.map dataC ++ [[C.str ⟨#[]⟩, IC 0, IC 0, .sl (s.map variantC), IC 0]] = (ds ++ [(⟨⟨#[]⟩, 0, 0, (List.range (oth + 1)).map (optG a (.mk 3 0 [inner])), 0⟩ : Api.Data)]).map dataC := by
        rw [List.map_append, hinv, hjn]; rfl
      have hk := key (.mk 3 0 [inner]) (show has1 3 = true by decide) (by rw [TyB, TyBs]; exact ⟨by simp, hi, trivial⟩)
      rw [← hall] at hk
      refine appDs hdl ?_
      refine appD1 rfl hdl ?_
      refine callP (t19 (ds.map dataC).length []) rfl fun _ => ?_
      refine callP hk.1 rfl fun _ => ?_
      refine callP (t19 (ds.map dataC).length []) rfl fun _ => ?_
      refine callP hk.2 rfl fun _ => ?_
      refine Fit.in64 (by omega) (by omega) ?_
      have e : C.bool (decide ((32768 : Int) - (n.tmod 16) = 32768 - (n.tmod 16))) = .bool true := by rw [decide_eq_true rfl]
      exact retP rfl e
  refine brn_p (fun q1 => ?_) (fun q1 => ?_)
  · refine callP (t18 4 inner) rfl fun _ => ?_
    have hvl : ∀ j, ((List.range j).map (optG a (.mk 4 0 [inner]))).length = j := fun j => by rw [List.length_map, List.length_range]
    refine loopN (oth + 1) 15 [] ([] : List Variant) (fun _ => []) (fun s => [(9, .box 25 [IC inner.kind, IC inner.id, .sl (inner.args.map tyC)]), (13, .box 25 [IC (Ty.kind (.mk 4 0 [inner])), IC (Ty.id (.mk 4 0 [inner])), .sl ((Ty.args (.mk 4 0 [inner])).map tyC)]), (14, .box 48 [.str ⟨#[]⟩, IC 0, IC 0, .rw 59, IC 0]), (59, .row 50 2 (s.map variantC))])
      (fun j s => s = (List.range j).map (optG a (.mk 4 0 [inner]))) rfl (same_keys rfl) trivial
      ⟨.inl ⟨_, rfl, .inl ⟨rfl, rfl⟩⟩, .inl ⟨_, rfl, .inr ⟨25, _, _, rfl, rfl, _, _, rfl, same_keys rfl, _, _, rfl, same_keys rfl, _, _, rfl, same_keys rfl, rfl⟩⟩, .inl ⟨_, rfl, .inr ⟨48, _, _, rfl, rfl, _, _, rfl, same_keys rfl, _, _, rfl, same_keys rfl, _, _, rfl, same_keys rfl, _, _, rfl, nil_rw rfl rfl, _, _, rfl, same_keys rfl, rfl⟩⟩, .inr ⟨rfl, 50, 2, rfl⟩, trivial⟩ (fun _ => rfl) (fun _ => rfl) ?_
    rintro j s hj hinv _ _ _
    have hsl : (s.map variantC).length = j := by rw [List.length_map, hinv, hvl]
    refine brn_p (fun hlt => ?_) (fun hge => ?_)
    · have hlt : j < oth + 1 := by omega
      refine Fit.in64 (by omega) (by omega) ?_
      refine Fit.in64 (by omega) (by omega) ?_
      refine NonZ.mk (by omega) ?_
      refine brn_p (fun q => ?_) (fun q => ?_)
      · have hja : j = a := by rw [hat'] at q; omega
        have eA : C.sl [[IC (Ty.kind (.mk 4 0 [inner])), IC (Ty.id (.mk 4 0 [inner])), .sl ((Ty.args (.mk 4 0 [inner])).map tyC)]] = C.sl ((optG a (.mk 4 0 [inner]) j).fields.map tyC) := by
          simp only [optG, if_pos hja, List.map_cons, List.map_nil, tyC_eq]
        refine app1' j rfl hsl (by decide) (by omega) ?_
        refine Fit.in64 (by omega) (by omega) ?_
        exact ⟨(j + 1, s ++ [optG a (.mk 4 0 [inner]) j]), ⟨hlt, range_snoc hinv⟩, ⟨nextI, trivial⟩, ⟨.inl ⟨_, rfl, .inl ⟨rfl, rfl⟩⟩, .inl ⟨_, rfl, .inl ⟨rfl, rfl⟩⟩, .inl ⟨_, rfl, .inl ⟨rfl, rfl⟩⟩, .inl ⟨_, rfl, .inl ⟨rowG (rowOpt hinv eA), rfl⟩⟩, trivial⟩, nextM hlt⟩
      · have hja : ¬ j = a := by rw [hat'] at q; omega
        have eA : C.sl [] = C.sl ((optG a (.mk 4 0 [inner]) j).fields.map tyC) := by
          simp only [optG, if_neg hja, List.map_nil]
        refine app1' j rfl hsl (by decide) (by omega) ?_
        refine Fit.in64 (by omega) (by omega) ?_
        exact ⟨(j + 1, s ++ [optG a (.mk 4 0 [inner]) j]), ⟨hlt, range_snoc hinv⟩, ⟨nextI, trivial⟩, ⟨.inl ⟨_, rfl, .inl ⟨rfl, rfl⟩⟩, .inl ⟨_, rfl, .inl ⟨rfl, rfl⟩⟩, .inl ⟨_, rfl, .inl ⟨rfl, rfl⟩⟩, .inl ⟨_, rfl, .inl ⟨rowG (rowOpt hinv eA), rfl⟩⟩, trivial⟩, nextM hlt⟩
    · have hjn : j = oth + 1 := by omega
      have hall : ds.map dataC ++ [[C.str ⟨#[]⟩, IC 0, IC 0, .sl (s.map variantC), IC 0]] = (ds ++ [(⟨⟨#[]⟩, 0, 0, (List.range (oth + 1)).map (optG a (.mk 4 0 [inner])), 0⟩ : Api.Data)]).map dataC := by
        rw [List.map_append, hinv, hjn]; rfl
      have hk := key (.mk 4 0 [inner]) (show has1 4 = true by decide) (by rw [TyB, TyBs]; exact ⟨by simp, hi, trivial⟩)
      rw [← hall] at hk
      refine appDs hdl ?_
      refine appD1 rfl hdl ?_
      refine callP (t19 (ds.map dataC).length []) rfl fun _ => ?_
      refine callP hk.1 rfl fun _ => ?_
      refine callP (t19 (ds.map dataC).length []) rfl fun _ => ?_
      refine callP hk.2 rfl fun _ => ?_
      refine Fit.in64 (by omega) (by omega) ?_
      have e : C.bool (decide ((32768 : Int) - (n.tmod 16) = 32768 - (n.tmod 16))) = .bool true := by rw [decide_eq_true rfl]
      exact retP rfl e
  have hvl : ∀ j, ((List.range j).map (optG a (.mk 6 0 []))).length = j := fun j => by rw [List.length_map, List.length_range]
  refine loopN (oth + 1) 15 [] ([] : List Variant) (fun _ => []) (fun s => [(9, .box 25 [IC inner.kind, IC inner.id, .sl (inner.args.map tyC)]), (13, .box 25 [IC (Ty.kind (.mk 6 0 [])), IC (Ty.id (.mk 6 0 [])), .sl ((Ty.args (.mk 6 0 [])).map tyC)]), (14, .box 48 [.str ⟨#[]⟩, IC 0, IC 0, .rw 59, IC 0]), (59, .row 50 2 (s.map variantC))])
    (fun j s => s = (List.range j).map (optG a (.mk 6 0 []))) rfl (same_keys rfl) trivial
    ⟨.inl ⟨_, rfl, .inl ⟨rfl, rfl⟩⟩, .inl ⟨_, rfl, .inr ⟨25, _, _, rfl, rfl, _, _, rfl, same_keys rfl, _, _, rfl, same_keys rfl, _, _, rfl, .inr (.inr (.inl ⟨rfl, rfl⟩)), rfl⟩⟩, .inl ⟨_, rfl, .inr ⟨48, _, _, rfl, rfl, _, _, rfl, same_keys rfl, _, _, rfl, same_keys rfl, _, _, rfl, same_keys rfl, _, _, rfl, nil_rw rfl rfl, _, _, rfl, same_keys rfl, rfl⟩⟩, .inr ⟨rfl, 50, 2, rfl⟩, trivial⟩ (fun _ => rfl) (fun _ => rfl) ?_
  rintro j s hj hinv _ _ _
  have hsl : (s.map variantC).length = j := by rw [List.length_map, hinv, hvl]
  refine brn_p (fun hlt => ?_) (fun hge => ?_)
  · have hlt : j < oth + 1 := by omega
    refine Fit.in64 (by omega) (by omega) ?_
    refine Fit.in64 (by omega) (by omega) ?_
    refine NonZ.mk (by omega) ?_
    refine brn_p (fun q => ?_) (fun q => ?_)
    · have hja : j = a := by rw [hat'] at q; omega
      have eA : C.sl [[IC (Ty.kind (.mk 6 0 [])), IC (Ty.id (.mk 6 0 [])), .sl ((Ty.args (.mk 6 0 [])).map tyC)]] = C.sl ((optG a (.mk 6 0 []) j).fields.map tyC) := by
        simp only [optG, if_pos hja, List.map_cons, List.map_nil, tyC_eq]
      refine app1' j rfl hsl (by decide) (by omega) ?_
      refine Fit.in64 (by omega) (by omega) ?_
      exact ⟨(j + 1, s ++ [optG a (.mk 6 0 []) j]), ⟨hlt, range_snoc hinv⟩, ⟨nextI, trivial⟩, ⟨.inl ⟨_, rfl, .inl ⟨rfl, rfl⟩⟩, .inl ⟨_, rfl, .inl ⟨rfl, rfl⟩⟩, .inl ⟨_, rfl, .inl ⟨rfl, rfl⟩⟩, .inl ⟨_, rfl, .inl ⟨rowG (rowOpt hinv eA), rfl⟩⟩, trivial⟩, nextM hlt⟩
    · have hja : ¬ j = a := by rw [hat'] at q; omega
      have eA : C.sl [] = C.sl ((optG a (.mk 6 0 []) j).fields.map tyC) := by
        simp only [optG, if_neg hja, List.map_nil]
      refine app1' j rfl hsl (by decide) (by omega) ?_
      refine Fit.in64 (by omega) (by omega) ?_
      exact ⟨(j + 1, s ++ [optG a (.mk 6 0 []) j]), ⟨hlt, range_snoc hinv⟩, ⟨nextI, trivial⟩, ⟨.inl ⟨_, rfl, .inl ⟨rfl, rfl⟩⟩, .inl ⟨_, rfl, .inl ⟨rfl, rfl⟩⟩, .inl ⟨_, rfl, .inl ⟨rfl, rfl⟩⟩, .inl ⟨_, rfl, .inl ⟨rowG (rowOpt hinv eA), rfl⟩⟩, trivial⟩, nextM hlt⟩
  · have hjn : j = oth + 1 := by omega
    have hall : ds.map dataC ++ [[C.str ⟨#[]⟩, IC 0, IC 0, .sl (s.map variantC), IC 0]] = (ds ++ [(⟨⟨#[]⟩, 0, 0, (List.range (oth + 1)).map (optG a (.mk 6 0 [])), 0⟩ : Api.Data)]).map dataC := by
      rw [List.map_append, hinv, hjn]; rfl
    have hk := key (.mk 6 0 []) (show has1 6 = true by decide) (by rw [TyB, TyBs]; exact ⟨by decide, trivial⟩)
    rw [← hall] at hk
    refine appDs hdl ?_
    refine appD1 rfl hdl ?_
    refine callP (t19 (ds.map dataC).length []) rfl fun _ => ?_
    refine callP hk.1 rfl fun _ => ?_
    refine callP (t19 (ds.map dataC).length []) rfl fun _ => ?_
    refine callP hk.2 rfl fun _ => ?_
    refine Fit.in64 (by omega) (by omega) ?_
    have e : C.bool (decide ((32768 : Int) - (n.tmod 16) = 32768 - (n.tmod 16))) = .bool true := by rw [decide_eq_true rfl]
    exact retP rfl e
end Go.Fr.Tryd

/- Layout: what the package's variable holds. -/
set_option linter.unusedVariables false
set_option linter.unusedSimpArgs false
namespace Go.Fr.Tryd
open Go Go.RowKit Go.Proofs Go.Fr Go.WideMaps
theorem mem_insert {H : Type} {x q : Lit × DataW H} : ∀ {l : List (Lit × DataW H)}, q ∈ DataW.insert x l ↔ q = x ∨ q ∈ l
  | [] => by simp [DataW.insert]
  | y :: r => by
    simp only [DataW.insert]
    split
    · simp
    · simp only [List.mem_cons, mem_insert (l := r)]
      constructor
      · rintro (h | h | h)
        · exact .inr (.inl h)
        · exact .inl h
        · exact .inr (.inr h)
      · rintro (h | h | h)
        · exact .inr (.inl h)
        · exact .inl h
        · exact .inr (.inr h)
theorem mem_sorted {H : Type} {q : Lit × DataW H} : ∀ {l : List (Lit × DataW H)}, q ∈ l.foldr DataW.insert [] ↔ q ∈ l
  | [] => by simp
  | y :: r => by rw [List.foldr_cons, mem_insert, mem_sorted (l := r)]; simp
abbrev d3 : List (Lit × DataW Unit) := [(.int .i64 3, .lit (.int .i64 3)), (.int .i64 4, .lit (.int .i64 4)), (.int .i64 6, .lit (.int .i64 5))]
theorem look_list {n : Int} : ∀ {l : List MapEntry} (i : Nat), (∀ e ∈ l, ∃ m, e.key = .int .i64 m ∧ e.val = .int .i64 (look1 m)) →
    (∃ o, Instr.findNow (.int .i64) (.int .i64 n) l i = some o ∧ ((∃ j, o = some (j, .int .i64 (look1 n))) ∨ (o = none ∧ ∀ e ∈ l, e.key ≠ .int .i64 n)))
  | [], i, _ => ⟨none, rfl, .inr ⟨rfl, fun e h => by cases h⟩⟩
  | e :: l, i, h => by
    obtain ⟨m, h1, h2⟩ := h e (by simp)
    rw [Instr.findNow, h1, Instr.sameNow, if_pos rfl]
    by_cases hm : n = m
    · subst hm
      refine ⟨some (i, e.val), by simp, .inl ⟨i, by rw [h2]⟩⟩
    · have : (n == m) = false := by simpa using hm
      rw [this]
      obtain ⟨o, h3, h4⟩ := look_list (n := n) (l := l) (i + 1) fun x hx => h x (by simp [hx])
      refine ⟨o, h3, h4.imp id fun ⟨a, b⟩ => ⟨a, fun x hx => ?_⟩⟩
      rcases List.mem_cons.1 hx with rfl | hx
      · rw [h1]
        intro q
        injection q with _ q
        exact hm q.symm
      · exact b x hx
theorem u3 : Tryd.prog.underlying 3 = some (.int .i64) := by kernel_rfl
theorem u89 : Tryd.prog.underlying 89 = some (.int .i64) := by kernel_rfl
theorem key3 {v : Value} {l : Lit} (h : keyOf Tryd.prog 3 v = some l) : ∃ m, v = .int .i64 m ∧ l = .int .i64 m := by
  have hk : keyOf Tryd.prog 3 v = mapKey Tryd.prog 3 v := by simp only [keyOf, u3]
  rw [hk] at h
  cases v with
  | int q n =>
    simp only [mapKey, u3] at h
    split at h
    · rename_i hc
      injection h with h
      exact ⟨n, by rw [hc.1], h.symm⟩
    · cases h
  | _ => simp [mapKey, u3] at h
theorem map_look {es : Array MapEntry} {clock : Nat} (F : WideMaps.Fit Unit Tryd.prog 3 .i64 es clock) (hx : (es.toList.map (rg Unit Tryd.prog 3 .i64)).foldr DataW.insert [] = d3) : LookP es := by
  have h1 : ∀ e ∈ es.toList, rg Unit Tryd.prog 3 .i64 e ∈ d3 := fun e he => by
    rw [← hx, mem_sorted]; exact List.mem_map_of_mem he
  have h2 : ∀ q ∈ d3, ∃ e ∈ es.toList, rg Unit Tryd.prog 3 .i64 e = q := fun q hq => by
    rw [← hx, mem_sorted] at hq
    obtain ⟨e, a, b⟩ := List.mem_map.1 hq
    exact ⟨e, a, b⟩
  have h3 : ∀ e ∈ es.toList, ∃ m v, e.key = .int .i64 m ∧ e.val = .int .i64 v ∧ rg Unit Tryd.prog 3 .i64 e = (.int .i64 m, .lit (.int .i64 v)) := by
    intro e he
    obtain ⟨y, hy⟩ := F.reads e he
    obtain ⟨m, k1, k2⟩ := key3 (rd_key hy)
    obtain ⟨v, v1, v2, _⟩ := rd_val hy
    refine ⟨m, v, k1, v1, ?_⟩
    rw [rg_of hy]
    exact Prod.ext k2 v2
  have h4 : ∀ e ∈ es.toList, ∃ m, e.key = .int .i64 m ∧ e.val = .int .i64 (look1 m) ∧ has1 m = true := by
    intro e he
    obtain ⟨m, v, a, b, c⟩ := h3 e he
    have := h1 e he
    rw [c] at this
    simp only [d3, List.mem_cons, Prod.mk.injEq, Lit.int.injEq, DataW.lit.injEq, true_and, List.not_mem_nil, or_false] at this
    rcases this with ⟨rfl, rfl⟩ | ⟨rfl, rfl⟩ | ⟨rfl, rfl⟩ <;> exact ⟨_, a, b, by decide⟩
  have h5 : ∀ n, has1 n = true → ∃ e ∈ es.toList, e.key = .int .i64 n := by
    intro n hn
    have hq : (Lit.int .i64 n, (DataW.lit (.int .i64 (look1 n)) : DataW Unit)) ∈ d3 := by
      rw [has1] at hn
      simp only [Bool.or_eq_true, decide_eq_true_eq] at hn
      rcases hn with (rfl | rfl) | rfl <;> simp [d3, look1]
    obtain ⟨e, he, hr⟩ := h2 _ hq
    obtain ⟨m, v, a, b, c⟩ := h3 e he
    rw [c] at hr
    injection hr with hr _
    injection hr with _ hr
    exact ⟨e, he, by rw [a, hr]⟩
  refine ⟨?_, fun n => ?_⟩
  · obtain ⟨e, he, _⟩ := h5 3 (by decide)
    cases hl : es.isEmpty with
    | false => rfl
    | true =>
      rw [Array.isEmpty_iff] at hl
      rw [hl] at he
      cases he
  · obtain ⟨o, a, b⟩ := look_list (n := n) (l := es.toList) 0 fun e he => by
      obtain ⟨m, x, y, _⟩ := h4 e he
      exact ⟨m, x, y⟩
    refine ⟨o, a, ?_⟩
    cases hn : has1 n with
    | true =>
      rcases b with ⟨j, hj⟩ | ⟨_, hno⟩
      · exact .inl ⟨rfl, j, hj⟩
      · obtain ⟨e, he, hk⟩ := h5 n hn
        exact absurd hk (hno e he)
    | false =>
      have hz : look1 n = 0 := by
        rw [has1] at hn
        simp only [Bool.or_eq_false_iff, decide_eq_false_iff_not] at hn
        rw [look1, if_neg hn.1.1, if_neg hn.1.2, if_neg hn.2]
      refine .inr ⟨rfl, hz, ?_⟩
      rcases b with ⟨j, hj⟩ | ⟨ho, _⟩
      · exfalso
        have hmem : ∀ {l : List MapEntry} {i : Nat}, (∀ e ∈ l, ∃ m, e.key = .int .i64 m ∧ has1 m = true) → Instr.findNow (.int .i64) (.int .i64 n) l i = some o → o = none := by
          intro l
          induction l with
          | nil => intro i _ h; exact (Option.some.inj h).symm
          | cons e l ih =>
            intro i hl h
            obtain ⟨m, k1, k2⟩ := hl e (by simp)
            rw [Instr.findNow, k1, Instr.sameNow, if_pos rfl] at h
            have hne : (n == m) = false := by
              rw [beq_eq_false_iff_ne]
              intro q; rw [q, k2] at hn; cases hn
            rw [hne] at h
            exact ih (fun e he => hl e (by simp [he])) h
        have := hmem (fun e he => by obtain ⟨m, x, _, z⟩ := h4 e he; exact ⟨m, x, z⟩) a
        rw [hj] at this; cases this
      · exact ho
theorem gVals : Tryd.prog.globalNamed "leasehold/layout.values" = some 0 := by kernel_rfl
theorem tVals : (Tryd.prog.globals[0]?).map (·.type) = some 91 := by kernel_rfl
theorem u91 : Tryd.prog.underlying 91 = some (.map 3 89) := by kernel_rfl
open Go.Proofs.YtjobilmjlmeohaaDoor in
theorem glob_of_laid {W : World} (h : laidMetH Tryd.prog [("leasehold/layout.values", Rows.laid_leasehold_layout_values)] W) : Glob (frzOf W) := by
  rw [MakeChecks.laidMetH_plain _ _ _ (by kernel_rfl)] at h
  obtain ⟨ps, ⟨g0, t0, cs0, f0, p0, q0, hg0, ht0, hv0, hd0, _, _⟩, _, _⟩ := h
  obtain rfl := Option.some.inj (gVals.symm.trans hg0)
  obtain rfl := Option.some.inj (tVals.symm.trans ht0)
  rcases open_map u91 u89 hd0 with ⟨_, hx⟩ | ⟨bm, es, clock, hcs, hb, _, F, hx⟩
  · injection hx with hx _
    cases hx
  injection hx with hx _
  simp only [Rows.laid_leasehold_layout_values, DataW.map.injEq] at hx
  simp only [World.var?, hg0, Option.bind_some] at hv0
  split at hv0
  · rename_i cs t fr he
    injection hv0 with hv0
    subst hv0
    refine ⟨.map (some bm), t, fr, ?_, .inr ⟨rfl, bm, es, clock, rfl, hb, map_look F hx.symm⟩⟩
    show W.heap[0]? = _
    rw [he]
    have : cs = #[.map (some bm)] := by
      apply Array.ext'
      rw [hcs]
    rw [this]
  · cases hv0
end Go.Fr.Tryd
