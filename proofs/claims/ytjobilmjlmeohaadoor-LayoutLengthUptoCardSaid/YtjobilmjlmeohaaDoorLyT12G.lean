/- Part of the proofs of the statements of this seat. -/
import Derived.Test.YtjobilmjlmeohaaDoorLyT9G
/- Layout: a value of a data type is written. -/
set_option linter.unusedVariables false
set_option linter.unusedSimpArgs false
namespace Go.Fr.Tryd
open Go Go.RowKit Go.Proofs Go.Fr Go.Fr.T Go.Fr.Api

section
variable {L : TL} {ρ : TEnv}
theorem meth1 {f : Nat} {s : Sh} {a a' x : C} {K : TL → TEnv → C → Prop} (h : CallsT P f [shR s, a'] [] (Ret [] x)) (ha : a.canA.ren (toIn [] 1000) = a') (k : Wf x → K L ρ (x.ren (fromIn [])).slt) : CallT P f [shR s, a] L ρ K :=
  callP h (by show [(shR s).canA.ren (toIn [] 1000), a.canA.ren (toIn [] 1000)] = _; rw [shR_arg, ha]) k
theorem meth1D {f : Nat} {s : Sh} {a a' x : C} {d : Option Nat} {K : TL → TEnv → C → Prop} (h : CallsT P f [shR s, a'] [] (Ret [] x)) (ha : a.canA.ren (toIn [] 1000) = a') (k : Wf x → K L ρ x.slt) : CallDT P f [shR s, a] L ρ d K :=
  callPD h (by show [(shR s).canA.ren (toIn [] 1000), a.canA.ren (toIn [] 1000)] = _; rw [shR_arg, ha]) k
theorem idxVrL {vs : List (List Sh)} {z : Int} {l : List Sh} {K : List C → Prop} (h0 : 0 ≤ z) (hx : vs[z.toNat]? = some l) (h : K [.sl (l.map shE)]) : IdxT (vs.map vrE) z 1 K := idxVrZ h0 hx h
end
theorem rowI {a b : List Int} : ics a ++ ics b = ics (a ++ b) := by simp [ics]
theorem rowZ {a : List Int} {m : Nat} : ics a ++ List.replicate m [C.int .i64 0] = ics (a ++ List.replicate m 0) := by simp [ics]
theorem icsLen (a : List Int) : (ics a).length = a.length := List.length_map _
theorem szI {a : List Int} : ∀ es ∈ ics a, es.length = 1 := by
  intro es h
  obtain ⟨x, _, rfl⟩ := List.mem_map.1 h
  rfl
theorem appI {a b : List Int} {K : Prop} (h1 : a.length + b.length ≤ 2 ^ 30) (k : K) : AppT (ics a) (ics b) 1 8 K :=
  ⟨szI, by rw [icsLen, icsLen]; simp only [maxLen]; omega, by rw [icsLen, icsLen]; omega, k⟩
theorem appZ {a : List Int} {m : Nat} {K : Prop} (h1 : a.length + m ≤ 2 ^ 30) (k : K) : AppT (ics a) (List.replicate m [C.int .i64 0]) 1 8 K :=
  ⟨fun es h => by rw [List.eq_of_mem_replicate h]; rfl, by rw [icsLen, List.length_replicate]; simp only [maxLen]; omega, by rw [icsLen, List.length_replicate]; omega, k⟩
abbrev putC (r : List Int × Bool) : C := .tup [.sl (ics r.1), .bool r.2]
abbrev preW (a : List Int) (r : Option (List Int)) : Option (List Int) := r.map (a ++ ·)
theorem putFs_step {a : List Int} {s : Sh} {l : List Sh} {v : Val} {fs : List Val} (h : (putM s v).2 = true) : preW a (putFs (s :: l) (v :: fs)) = preW (a ++ (putM s v).1) (putFs l fs) := by
  rw [putFs, if_pos h]
  cases putFs l fs <;> simp [preW]
theorem putFs_stop {a : List Int} {s : Sh} {l : List Sh} {v : Val} {fs : List Val} (h : ¬ (putM s v).2 = true) : preW a (putFs (s :: l) (v :: fs)) = none := by
  rw [putFs, if_neg h]; rfl
theorem total_drop_le {l : List Sh} (hw : ∀ s ∈ l, 0 ≤ s.words) {j : Nat} {s : Sh} (h : l[j]? = some s) : total (l.take j) + s.words ≤ total l := by
  have : ∀ a b : List Sh, total (a ++ b) = total a + total b := by
    intro a b
    induction a with
    | nil => simp [total]
    | cons x a ih => simp only [List.cons_append, total, ih]; omega
  have h1 := this (l.take (j + 1)) (l.drop (j + 1))
  rw [List.take_append_drop, total_take h] at h1
  have h2 : 0 ≤ total (l.drop (j + 1)) := total_nonneg fun x hx => hw x (List.mem_of_mem_drop hx)
  omega
set_option maxRecDepth 10000 in
set_option maxHeartbeats 1000000 in
theorem t69m (i : Int) (vs : List (List Sh)) (sz sp gr be : Int) (v : Val) (mk : Int) (hmk : markM gr be v.var = some mk) (hg : Good (.sum i vs sz sp gr be)) (hc : cntVs vs ≤ 2 ^ 28)
    (ih : ∀ l ∈ vs, ∀ s ∈ l, ∀ x, CallsT P (fPut s) [shR s, valA x] [] (Ret [] (putC (putM s x)))) :
    CallsT P 69 [sumA i vs sz sp gr be, valA v] [] (Ret [] (putC (putM (.sum i vs sz sp gr be) v))) := by
  have hf := good_form hg
  have hcz := words_bd hg
  simp only [Sh.words, Sh.cnt] at hcz
  have hg' := hg
  rw [Good, goodVs_iff] at hg'
  have hbe := form_be hf fun l hl s hs => niches_bd (hg'.2.2.2 l hl s hs)
  have hlen : ∀ l ∈ vs, l.length ≤ 2 ^ 28 := fun l hl => by
    have h2 := cntVs_mem hl
    have h3 := cntFs_len l
    omega
  have hvl := hg'.2.1
  have hroom : ∀ (k : Nat) l, vs[k]? = some l → ((markM gr be k).toList.length : Int) + total l ≤ sz := fun k l => form_room hf
  have hwd : ∀ l ∈ vs, ∀ s ∈ l, 0 ≤ s.words := fun l hl s hs => (words_bd (hg'.2.2.2 l hl s hs)).1
  have hpl : ∀ l ∈ vs, ∀ s ∈ l, ∀ x, (putM s x).2 = true → ((putM s x).1.length : Int) = s.words := fun l hl s hs x => put_len (hg'.2.2.2 l hl s hs)
  have h71 := fun h0 h1 => t71 i vs sz sp gr be v.var h0 h1 hbe.1 (by omega)
  have hput : putM (.sum i vs sz sp gr be) v = if v.kind ≠ 2 ∨ v.id ≠ i ∨ v.var < 0 then ([], false) else
      match (vs[v.var.toNat]?).bind fun l => if v.fields.length = l.length then putFs l v.fields else none with
      | none => ([], false)
      | some w => ((markM gr be v.var).toList ++ w ++ List.replicate (sz - (((markM gr be v.var).toList ++ w).length : Int)).toNat 0, true) := by
    first | (rw [putM, putVs_at]; done) | (rw [putM, putVs_at]; rfl)
  generalize putM (.sum i vs sz sp gr be) v = res at hput ⊢
  have hkr : ∀ k : Nat, (k : Int) = v.var → markM gr be k = markM gr be v.var := fun k h => by rw [h]
  rw [hmk] at h71 hput hkr
  have hbad : ([], false) = res → C.tup [.sl [], .bool false] = putC res := fun h => by rw [← h]; rfl
  refine callsT_facts Tryd.func69 facts69 rfl fun hw _ => ?_
  have hvm : (vs.map vrE).length = vs.length := List.length_map _
  have hfm : (v.fields.map valC).length = v.fields.length := List.length_map _
  refine brn_split (fun q1 => ?_) (fun q1 => ?_)
  · have q : ¬ v.kind = 2 := by simpa using q1
    exact retP rfl (hbad (by rw [hput, if_pos (.inl q)]))
  have q1 : v.kind = 2 := by simpa using q1
  refine brn_split (fun q2 => ?_) (fun q2 => ?_)
  · have q : ¬ v.id = i := by simpa using q2
    exact retP rfl (hbad (by rw [hput, if_pos (.inr (.inl q))]))
  have q2 : v.id = i := by simpa using q2
  refine brn_p (fun q3 => ?_) (fun q3 => ?_)
  · exact retP rfl (hbad (by rw [hput, if_pos (.inr (.inr q3))]))
  have hc1 : ¬ (v.kind ≠ 2 ∨ v.id ≠ i ∨ v.var < 0) := by
    rintro (h | h | h)
    · exact h q1
    · exact h q2
    · exact q3 h
  rw [if_neg hc1] at hput
  refine brn_p (fun q4 => ?_) (fun q4 => ?_)
  · have hn : vs[v.var.toNat]? = none := List.getElem?_eq_none (by omega)
    rw [hn] at hput
    exact retP rfl (hbad hput.symm)
  have hvt : v.var.toNat < vs.length := by omega
  have h0v : 0 ≤ v.var := by omega
  have hvn : ((v.var.toNat : Nat) : Int) = v.var := by omega
  refine withGet hvt fun l hl hlm => ?_
  rw [hl] at hput
  have hput : res = match (if v.fields.length = l.length then putFs l v.fields else none) with
      | none => ([], false)
      | some w => ([mk] ++ w ++ List.replicate (sz - (([mk] ++ w).length : Int)).toNat 0, true) := hput
  refine idxVrL h0v hl ?_
  have hlm2 : (l.map shE).length = l.length := List.length_map _
  refine brn_split (fun q5 => ?_) (fun q5 => ?_)
  · have q : ¬ ((v.fields.map valC).length : Int) = ((l.map shE).length : Int) := by simpa using q5
    rw [if_neg (by omega)] at hput
    exact retP rfl (hbad hput.symm)
  have q5 : ((v.fields.map valC).length : Int) = ((l.map shE).length : Int) := by simpa using q5
  have hfl : v.fields.length = l.length := by omega
  rw [if_pos hfl] at hput
  have h71 : CallsT P 71 [sumA i vs sz sp gr be, IC v.var] [] (Ret [] (.tup [IC mk, .bool true])) := h71 h0v (by omega)
  have hrm := hroom _ _ hl
  rw [hkr _ hvn] at hrm
  have hrm : (1 : Int) + total l ≤ sz := hrm
  refine callP h71 rfl fun _ => ?_
  refine app1' 0 rfl rfl (by decide) (by decide) ?_
  refine idxVrL h0v hl ?_
  have hpl := hpl l hlm
  have ih := ih l hlm
  have hwd := hwd l hlm
  have hll := hlen l hlm
  refine loopN l.length 76 [6] ([mk] : List Int) (fun _ => [.rw 66]) (fun s => [(3, .box 32 [IC v.kind, IC v.id, IC v.var, IC v.n, .sl (v.fields.map valC), .bool false, .sl [], .sl []]), (66, .row 3 1 (ics s))])
    (fun j s => preW s (putFs (l.drop j) (v.fields.drop j)) = preW [mk] (putFs l v.fields) ∧ (s.length : Int) = 1 + total (l.take j)) ⟨rfl, by simp [total]⟩ (same_keys rfl) ⟨same_keys rfl, trivial⟩
    ⟨.inl ⟨_, rfl, .inl ⟨rfl, rfl⟩⟩, .inl ⟨_, rfl, .inl ⟨rfl, rfl⟩⟩, trivial⟩ (fun _ => rfl) (fun _ => rfl) ?_
  rintro j s hj ⟨hinv, hsl⟩ _ _ _
  refine brn_p (fun hlt => ?_) (fun hge => ?_)
  · have hlt : j < l.length := by omega
    have hlt' : j < v.fields.length := by omega
    refine withDrop hlt fun x hx hxm hdr => ?_
    refine withDrop hlt' fun y hy hym hdr' => ?_
    rw [hdr, hdr'] at hinv
    have htd := total_drop_le hwd hx
    refine idxSh hx ?_
    refine idxVal hy ?_
    refine ⟨mokU x, ?_⟩
    refine invT (methU x) ?_
    refine meth1D (ih x hxm y) rfl fun _ => ?_
    refine brn_split (fun ok => ?_) (fun ok => ?_)
    · have hno : ¬ (putM x y).2 = true := by simpa using ok
      rw [putFs_stop hno] at hinv
      have hpn : putFs l v.fields = none := by
        cases h : putFs l v.fields with
        | none => rfl
        | some w => rw [h] at hinv; cases hinv
      rw [hpn] at hput
      exact retP rfl (hbad hput.symm)
    · have hyes : (putM x y).2 = true := by simpa using ok
      rw [putFs_step hyes] at hinv
      have hpx := hpl x hxm y hyes
      refine appI (by have := hwd x hxm; omega) ?_
      refine Fit.in64 (by omega) (by omega) ?_
      exact ⟨(j + 1, s ++ (putM x y).1), ⟨hlt, hinv, by rw [total_take hx, List.length_append]; omega⟩, ⟨nextI, same_keys rfl, trivial⟩, ⟨.inl ⟨_, rfl, .inl ⟨rfl, rfl⟩⟩, .inl ⟨_, rfl, .inl ⟨rowG rowI, rfl⟩⟩, trivial⟩, nextM hlt⟩
  · have hge : ¬ j < l.length := by omega
    rw [drop_end hge, drop_end (l := v.fields) (by omega), putFs] at hinv
    have htt : total (l.take j) = total l := by rw [List.take_of_length_le (by omega)]
    obtain ⟨w, hw1, hw2⟩ : ∃ w, putFs l v.fields = some w ∧ s = [mk] ++ w := by
      cases h : putFs l v.fields with
      | none => rw [h] at hinv; cases hinv
      | some w =>
        rw [h] at hinv
        exact ⟨w, rfl, by have := Option.some.inj hinv; simpa using this⟩
    rw [hw1] at hput
    have hput : res = (s ++ List.replicate (sz - (s.length : Int)).toNat 0, true) := by rw [hw2]; exact hput
    have hsm : (ics s).length = s.length := List.length_map _
    refine Fit.in64 (by omega) (by omega) ?_
    refine ⟨(sz - (s.length : Int)).toNat, by omega, ?_⟩
    refine appZ (by omega) ?_
    have e : C.tup [.sl (ics s ++ List.replicate (sz - (s.length : Int)).toNat [C.int .i64 0]), .bool true] = putC res := by
      rw [hput, rowZ]
    exact retF [66] [] ⟨_, [], rfl, rfl, rfl, rfl, e⟩
set_option maxRecDepth 10000 in
set_option maxHeartbeats 1000000 in
theorem t69n (i : Int) (vs : List (List Sh)) (sz sp gr be : Int) (v : Val) (hmk : markM gr be v.var = none) (hg : Good (.sum i vs sz sp gr be)) (hc : cntVs vs ≤ 2 ^ 28)
    (ih : ∀ l ∈ vs, ∀ s ∈ l, ∀ x, CallsT P (fPut s) [shR s, valA x] [] (Ret [] (putC (putM s x)))) :
    CallsT P 69 [sumA i vs sz sp gr be, valA v] [] (Ret [] (putC (putM (.sum i vs sz sp gr be) v))) := by
  have hf := good_form hg
  have hcz := words_bd hg
  simp only [Sh.words, Sh.cnt] at hcz
  have hg' := hg
  rw [Good, goodVs_iff] at hg'
  have hbe := form_be hf fun l hl s hs => niches_bd (hg'.2.2.2 l hl s hs)
  have hlen : ∀ l ∈ vs, l.length ≤ 2 ^ 28 := fun l hl => by
    have h2 := cntVs_mem hl
    have h3 := cntFs_len l
    omega
  have hvl := hg'.2.1
  have hroom : ∀ (k : Nat) l, vs[k]? = some l → ((markM gr be k).toList.length : Int) + total l ≤ sz := fun k l => form_room hf
  have hwd : ∀ l ∈ vs, ∀ s ∈ l, 0 ≤ s.words := fun l hl s hs => (words_bd (hg'.2.2.2 l hl s hs)).1
  have hpl : ∀ l ∈ vs, ∀ s ∈ l, ∀ x, (putM s x).2 = true → ((putM s x).1.length : Int) = s.words := fun l hl s hs x => put_len (hg'.2.2.2 l hl s hs)
  have h71 := fun h0 h1 => t71 i vs sz sp gr be v.var h0 h1 hbe.1 (by omega)
  have hput : putM (.sum i vs sz sp gr be) v = if v.kind ≠ 2 ∨ v.id ≠ i ∨ v.var < 0 then ([], false) else
      match (vs[v.var.toNat]?).bind fun l => if v.fields.length = l.length then putFs l v.fields else none with
      | none => ([], false)
      | some w => ((markM gr be v.var).toList ++ w ++ List.replicate (sz - (((markM gr be v.var).toList ++ w).length : Int)).toNat 0, true) := by
    first | (rw [putM, putVs_at]; done) | (rw [putM, putVs_at]; rfl)
  generalize putM (.sum i vs sz sp gr be) v = res at hput ⊢
  have hkr : ∀ k : Nat, (k : Int) = v.var → markM gr be k = markM gr be v.var := fun k h => by rw [h]
  rw [hmk] at h71 hput hkr
  have hbad : ([], false) = res → C.tup [.sl [], .bool false] = putC res := fun h => by rw [← h]; rfl
  refine callsT_facts Tryd.func69 facts69 rfl fun hw _ => ?_
  have hvm : (vs.map vrE).length = vs.length := List.length_map _
  have hfm : (v.fields.map valC).length = v.fields.length := List.length_map _
  refine brn_split (fun q1 => ?_) (fun q1 => ?_)
  · have q : ¬ v.kind = 2 := by simpa using q1
    exact retP rfl (hbad (by rw [hput, if_pos (.inl q)]))
  have q1 : v.kind = 2 := by simpa using q1
  refine brn_split (fun q2 => ?_) (fun q2 => ?_)
  · have q : ¬ v.id = i := by simpa using q2
    exact retP rfl (hbad (by rw [hput, if_pos (.inr (.inl q))]))
  have q2 : v.id = i := by simpa using q2
  refine brn_p (fun q3 => ?_) (fun q3 => ?_)
  · exact retP rfl (hbad (by rw [hput, if_pos (.inr (.inr q3))]))
  have hc1 : ¬ (v.kind ≠ 2 ∨ v.id ≠ i ∨ v.var < 0) := by
    rintro (h | h | h)
    · exact h q1
    · exact h q2
    · exact q3 h
  rw [if_neg hc1] at hput
  refine brn_p (fun q4 => ?_) (fun q4 => ?_)
  · have hn : vs[v.var.toNat]? = none := List.getElem?_eq_none (by omega)
    rw [hn] at hput
    exact retP rfl (hbad hput.symm)
  have hvt : v.var.toNat < vs.length := by omega
  have h0v : 0 ≤ v.var := by omega
  have hvn : ((v.var.toNat : Nat) : Int) = v.var := by omega
  refine withGet hvt fun l hl hlm => ?_
  rw [hl] at hput
  have hput : res = match (if v.fields.length = l.length then putFs l v.fields else none) with
      | none => ([], false)
      | some w => ([] ++ w ++ List.replicate (sz - (([] ++ w).length : Int)).toNat 0, true) := hput
  refine idxVrL h0v hl ?_
  have hlm2 : (l.map shE).length = l.length := List.length_map _
  refine brn_split (fun q5 => ?_) (fun q5 => ?_)
  · have q : ¬ ((v.fields.map valC).length : Int) = ((l.map shE).length : Int) := by simpa using q5
    rw [if_neg (by omega)] at hput
    exact retP rfl (hbad hput.symm)
  have q5 : ((v.fields.map valC).length : Int) = ((l.map shE).length : Int) := by simpa using q5
  have hfl : v.fields.length = l.length := by omega
  rw [if_pos hfl] at hput
  have h71 : CallsT P 71 [sumA i vs sz sp gr be, IC v.var] [] (Ret [] (.tup [IC 0, .bool false])) := h71 h0v (by omega)
  have hrm := hroom _ _ hl
  rw [hkr _ hvn] at hrm
  have hrm : (0 : Int) + total l ≤ sz := hrm
  refine callP h71 rfl fun _ => ?_

  refine idxVrL h0v hl ?_
  have hpl := hpl l hlm
  have ih := ih l hlm
  have hwd := hwd l hlm
  have hll := hlen l hlm
  refine loopN l.length 76 [6] ([] : List Int) (fun _ => [.rw 66]) (fun s => [(3, .box 32 [IC v.kind, IC v.id, IC v.var, IC v.n, .sl (v.fields.map valC), .bool false, .sl [], .sl []]), (66, .row 3 1 (ics s))])
    (fun j s => preW s (putFs (l.drop j) (v.fields.drop j)) = preW [] (putFs l v.fields) ∧ (s.length : Int) = 0 + total (l.take j)) ⟨rfl, by simp [total]⟩ (same_keys rfl) ⟨nil_rw rfl rfl, trivial⟩
    ⟨.inl ⟨_, rfl, .inl ⟨rfl, rfl⟩⟩, .inr ⟨rfl, 3, 1, rfl⟩, trivial⟩ (fun _ => rfl) (fun _ => rfl) ?_
  rintro j s hj ⟨hinv, hsl⟩ _ _ _
  refine brn_p (fun hlt => ?_) (fun hge => ?_)
  · have hlt : j < l.length := by omega
    have hlt' : j < v.fields.length := by omega
    refine withDrop hlt fun x hx hxm hdr => ?_
    refine withDrop hlt' fun y hy hym hdr' => ?_
    rw [hdr, hdr'] at hinv
    have htd := total_drop_le hwd hx
    refine idxSh hx ?_
    refine idxVal hy ?_
    refine ⟨mokU x, ?_⟩
    refine invT (methU x) ?_
    refine meth1D (ih x hxm y) rfl fun _ => ?_
    refine brn_split (fun ok => ?_) (fun ok => ?_)
    · have hno : ¬ (putM x y).2 = true := by simpa using ok
      rw [putFs_stop hno] at hinv
      have hpn : putFs l v.fields = none := by
        cases h : putFs l v.fields with
        | none => rfl
        | some w => rw [h] at hinv; cases hinv
      rw [hpn] at hput
      exact retP rfl (hbad hput.symm)
    · have hyes : (putM x y).2 = true := by simpa using ok
      rw [putFs_step hyes] at hinv
      have hpx := hpl x hxm y hyes
      refine appI (by have := hwd x hxm; omega) ?_
      refine Fit.in64 (by omega) (by omega) ?_
      exact ⟨(j + 1, s ++ (putM x y).1), ⟨hlt, hinv, by rw [total_take hx, List.length_append]; omega⟩, ⟨nextI, same_keys rfl, trivial⟩, ⟨.inl ⟨_, rfl, .inl ⟨rfl, rfl⟩⟩, .inl ⟨_, rfl, .inl ⟨rowG rowI, rfl⟩⟩, trivial⟩, nextM hlt⟩
  · have hge : ¬ j < l.length := by omega
    rw [drop_end hge, drop_end (l := v.fields) (by omega), putFs] at hinv
    have htt : total (l.take j) = total l := by rw [List.take_of_length_le (by omega)]
    obtain ⟨w, hw1, hw2⟩ : ∃ w, putFs l v.fields = some w ∧ s = [] ++ w := by
      cases h : putFs l v.fields with
      | none => rw [h] at hinv; cases hinv
      | some w =>
        rw [h] at hinv
        exact ⟨w, rfl, by have := Option.some.inj hinv; simpa using this⟩
    rw [hw1] at hput
    have hput : res = (s ++ List.replicate (sz - (s.length : Int)).toNat 0, true) := by rw [hw2]; exact hput
    have hsm : (ics s).length = s.length := List.length_map _
    refine Fit.in64 (by omega) (by omega) ?_
    refine ⟨(sz - (s.length : Int)).toNat, by omega, ?_⟩
    refine appZ (by omega) ?_
    have e : C.tup [.sl (ics s ++ List.replicate (sz - (s.length : Int)).toNat [C.int .i64 0]), .bool true] = putC res := by
      rw [hput, rowZ]
    exact retF [66] [] ⟨_, [], rfl, rfl, rfl, rfl, e⟩
theorem t69 (i : Int) (vs : List (List Sh)) (sz sp gr be : Int) (v : Val) (hg : Good (.sum i vs sz sp gr be)) (hc : cntVs vs ≤ 2 ^ 28)
    (ih : ∀ l ∈ vs, ∀ s ∈ l, ∀ x, CallsT P (fPut s) [shR s, valA x] [] (Ret [] (putC (putM s x)))) :
    CallsT P 69 [sumA i vs sz sp gr be, valA v] [] (Ret [] (putC (putM (.sum i vs sz sp gr be) v))) := by
  cases h : markM gr be v.var with
  | none => exact t69n i vs sz sp gr be v h hg hc ih
  | some mk => exact t69m i vs sz sp gr be v mk h hg hc ih
theorem tPut : ∀ (s : Sh), Good s → s.cnt ≤ 2 ^ 28 → ∀ v, CallsT P (fPut s) [shR s, valA v] [] (Ret [] (putC (putM s v)))
  | .num, _, _, v => by rw [shR, putM]; exact t65 v
  | .hdl k, _, _, v => by rw [shR, putM]; exact t61 k v
  | .sum i vs sz sp gr be, hg, hc, v => by
    have hg' := hg
    rw [Good, goodVs_iff] at hg'
    rw [Sh.cnt] at hc
    rw [shR_sum]
    exact t69 i vs sz sp gr be v hg (by omega) fun l hl s hs x => tPut s (hg'.2.2.2 l hl s hs) (by have := cntVs_mem hl; have := cntFs_mem hs; omega) x
termination_by s => SizeOf.sizeOf s
decreasing_by
  have h1 := List.sizeOf_lt_of_mem hs
  have h2 := List.sizeOf_lt_of_mem hl
  simp only [Sh.sum.sizeOf_spec]
  omega
end Go.Fr.Tryd

/- Layout: a value of a data type is read. -/
set_option linter.unusedVariables false
set_option linter.unusedSimpArgs false
namespace Go.Fr.Tryd
open Go Go.RowKit Go.Proofs Go.Fr Go.Fr.T Go.Fr.Api

theorem t73 (n : Int) : CallsT P 73 [IC n] [] (Ret [] (.bool (decide (n ≠ 0)))) := by
  refine callsT_facts Tryd.func73 facts73 rfl fun hw _ => ?_
  have e : C.bool (!decide (n = 0)) = .bool (decide (n ≠ 0)) := by by_cases h : n = 0 <;> simp [h]
  exact retP rfl e
def fidx : List Int → Int → Int
  | [], _ => -1
  | x :: r, k => if decide (x ≠ 0) then k else fidx r (k + 1)
theorem fidx_iff : ∀ {a : List Int} {k : Int}, 0 ≤ k → (decide (0 ≤ fidx a k) = !(a.all fun n => decide (n = 0)))
  | [], k, h => rfl
  | x :: r, k, h => by
    rw [fidx]
    by_cases hx : x = 0
    · subst hx
      simp only [ne_eq, not_true_eq_false, decide_false, Bool.false_eq_true, if_false, List.all_cons, decide_true, Bool.true_and]
      exact fidx_iff (by omega)
    · have : decide (x ≠ 0) = true := by simp [hx]
      rw [if_pos this]
      simp [hx, h]
theorem t74 (a : List Int) : CallsT P 74 [.sl (ics a), .fn 73 [] []] [] (Ret [] (IC (fidx a 0))) := by
  refine callsT_facts Tryd.func74 facts74 rfl fun hw _ => ?_
  have hm : (ics a).length = a.length := icsLen a
  have hn : a.length ≤ 9223372036854775807 := by have := wf_len hw.1; omega
  refine loopN a.length 8 [] () (fun _ => []) (fun _ => []) (fun k _ => fidx (a.drop k) k = fidx a 0) rfl (same_keys rfl) trivial trivial (fun _ => rfl) (fun _ => rfl) ?_
  rintro k _ hk hinv _ _ _
  refine brn_p (fun hlt => ?_) (fun hge => ?_)
  · have hlt : k < a.length := by omega
    refine withDrop hlt fun x hx hxm hdr => ?_
    rw [hdr, fidx] at hinv
    refine idxI hx ?_
    refine callP (t73 x) rfl fun _ => ?_
    refine brn_split (fun h => ?_) (fun h => ?_)
    · rw [if_pos h] at hinv
      exact retP rfl (congrArg IC hinv)
    · rw [if_neg (by rw [h]; exact Bool.false_ne_true)] at hinv
      refine Fit.in64 (by omega) (by omega) ?_
      exact ⟨(k + 1, ()), ⟨hlt, hinv⟩, ⟨nextI, trivial⟩, trivial, nextM hlt⟩
  · have hge : ¬ k < a.length := by omega
    have e : IC (-1) = IC (fidx a 0) := by rw [← hinv, drop_end hge, fidx]
    exact retP rfl e
theorem t72 (a : List Int) : CallsT P 72 [.sl (ics a), .fn 73 [] []] [] (Ret [] (.bool (!(a.all fun n => decide (n = 0))))) := by
  have h := fidx_iff (a := a) (k := 0) (by decide)
  have h74 := t74 a
  generalize fidx a 0 = r at h h74
  rw [← h]
  refine callsT_facts Tryd.func72 facts72 rfl fun hw _ => ?_
  refine callP h74 rfl fun _ => ?_
  have e : C.bool (decide (r ≥ 0)) = .bool (decide (0 ≤ r)) := by rfl
  exact retP rfl e
theorem optCase {α : Type} (o : Option α) {K : Prop} (h1 : ∀ m, o = some m → K) (h2 : o = none → K) : K := by
  cases o with
  | none => exact h2 rfl
  | some s => exact h1 s rfl
abbrev preG (a : List Val) (r : Option (List Val × List Int)) : Option (List Val × List Int) := r.map fun p => (a ++ p.1, p.2)
theorem getFs_step {a : List Val} {s : Sh} {l : List Sh} {w : List Int} (h : (getM s (w.take s.words.toNat)).2 = true) : preG a (getFs (s :: l) w) = preG (a ++ [(getM s (w.take s.words.toNat)).1]) (getFs l (w.drop s.words.toNat)) := by
  rw [getFs, if_pos h]
  cases getFs l (w.drop s.words.toNat) <;> simp [preG]
theorem getFs_stop {a : List Val} {s : Sh} {l : List Sh} {w : List Int} (h : ¬ (getM s (w.take s.words.toNat)).2 = true) : preG a (getFs (s :: l) w) = none := by
  rw [getFs, if_neg h]; rfl
abbrev getC (r : Val × Bool) : C := .tup [valA r.1, .bool r.2]
theorem ics_drop (w : List Int) (n : Nat) : (ics w).drop n = ics (w.drop n) := by simp [ics]
theorem ics_take (w : List Int) (n : Nat) : (ics w).take n = ics (w.take n) := by simp [ics]
theorem rowVal {a : List Val} {x : Val} : a.map valC ++ [[IC x.kind, IC x.id, IC x.var, IC x.n, C.sl (x.fields.map valC), C.bool false, C.sl [], C.sl []]] = (a ++ [x]).map valC := by
  rw [List.map_append, List.map_cons, valC_eq]; rfl
theorem slTail {w : List Int} {m : Nat} (hm : m = (ics w).length) : C.sl (((ics w).drop (1 : Int).toNat).take ((m : Int).toNat - (1 : Int).toNat)) = C.sl (ics w.tail) := by
  subst hm
  have h1 : ((1 : Int)).toNat = 1 := rfl
  rw [h1, Int.toNat_natCast, ics_drop, List.take_of_length_le (by rw [icsLen, List.length_drop, icsLen]; exact Nat.le_refl _), List.drop_one]
theorem slFrom {w : List Int} {n : Int} : C.sl (((ics w).drop n.toNat).take (((ics w).length : Int).toNat - n.toNat)) = C.sl (ics (w.drop n.toNat)) := by
  rw [Int.toNat_natCast, ics_drop, List.take_of_length_le (by rw [icsLen, List.length_drop, icsLen]; exact Nat.le_refl _)]
theorem slTo {w : List Int} {n : Int} : C.sl (((ics w).drop (0 : Int).toNat).take (n.toNat - (0 : Int).toNat)) = C.sl (ics (w.take n.toNat)) := by
  have h0 : ((0 : Int)).toNat = 0 := rfl
  rw [h0, List.drop_zero, Nat.sub_zero, ics_take]
def cand (gr be : Int) (l : List Sh) (k : Int) (w : List Int) : Option (List Val × List Int) :=
  match markM gr be k with
  | some m => if w.headD 0 = m then getFs l w.tail else none
  | none => getFs l w
theorem cand_some {gr be k m : Int} {l : List Sh} {w : List Int} (h : markM gr be k = some m) : cand gr be l k w = if w.headD 0 = m then getFs l w.tail else none := by rw [cand, h]
theorem cand_none {gr be k : Int} {l : List Sh} {w : List Int} (h : markM gr be k = none) : cand gr be l k w = getFs l w := by rw [cand, h]
theorem getVs_cand {i gr be : Int} {l : List Sh} {r : List (List Sh)} {k : Int} {w : List Int} : getVs i gr be (l :: r) k w = match cand gr be l k w with
      | some (xs, rest) => if rest.all (fun n => decide (n = 0)) then (.mk 2 i k 0 xs, true) else getVs i gr be r (k + 1) w
      | none => getVs i gr be r (k + 1) w := by rw [getVs]; rfl
theorem getVs_some {i gr be : Int} {l : List Sh} {r : List (List Sh)} {k : Int} {w : List Int} {xs : List Val} {rest : List Int} (h : cand gr be l k w = some (xs, rest)) :
    getVs i gr be (l :: r) k w = if rest.all (fun n => decide (n = 0)) then (.mk 2 i k 0 xs, true) else getVs i gr be r (k + 1) w := by rw [getVs_cand, h]
theorem getVs_none {i gr be : Int} {l : List Sh} {r : List (List Sh)} {k : Int} {w : List Int} (h : cand gr be l k w = none) : getVs i gr be (l :: r) k w = getVs i gr be r (k + 1) w := by rw [getVs_cand, h]
abbrev zeroV : List C := [IC 0, IC 0, IC 0, IC 0, .nils, .bool false, .nils, .nils]
set_option maxRecDepth 10000 in
set_option maxHeartbeats 1000000 in
theorem t67 (i : Int) (vs : List (List Sh)) (sz sp gr be : Int) (w : List Int) (hg : Good (.sum i vs sz sp gr be)) (hc : cntVs vs ≤ 2 ^ 28) (hwl : (w.length : Int) = sz)
    (ih : ∀ l ∈ vs, ∀ s ∈ l, ∀ u : List Int, (u.length : Int) = s.words → CallsT P (fGet s) [shR s, .sl (ics u)] [] (Ret [] (getC (getM s u)))) :
    CallsT P 67 [sumA i vs sz sp gr be, .sl (ics w)] [] (Ret [] (getC (getM (.sum i vs sz sp gr be) w))) := by
  have hf := good_form hg
  have hcz := words_bd hg
  simp only [Sh.words, Sh.cnt] at hcz
  have hg' := hg
  rw [Good, goodVs_iff] at hg'
  have hbe := form_be hf fun l hl s hs => niches_bd (hg'.2.2.2 l hl s hs)
  have hlen : ∀ l ∈ vs, l.length ≤ 2 ^ 28 := fun l hl => by
    have h2 := cntVs_mem hl
    have h3 := cntFs_len l
    omega
  have hvl := hg'.2.1
  have hroom : ∀ (k : Nat) l, vs[k]? = some l → ((markM gr be k).toList.length : Int) + total l ≤ sz := fun k l => form_room hf
  have hwd : ∀ l ∈ vs, ∀ s ∈ l, 0 ≤ s.words := fun l hl s hs => (words_bd (hg'.2.2.2 l hl s hs)).1
  have htot : ∀ l ∈ vs, 0 ≤ total l := fun l hl => total_nonneg (hwd l hl)
  have h71 := fun (k : Nat) h0 h1 => t71 i vs sz sp gr be k h0 h1 hbe.1 (by omega)
  have hget : getM (.sum i vs sz sp gr be) w = getVs i gr be vs 0 w := by rw [getM]
  rw [hget]
  have hstep0 : ∀ (k : Nat) l o, vs.drop k = l :: vs.drop (k + 1) → getVs i gr be (vs.drop k) k w = getVs i gr be vs 0 w → o = cand gr be l k w →
      (∀ xs rest, o = some (xs, rest) → (if rest.all (fun n => decide (n = 0)) then (Val.mk 2 i k 0 xs, true) else getVs i gr be (vs.drop (k + 1)) ((k + 1 : Nat) : Int) w) = getVs i gr be vs 0 w) ∧ (o = none → getVs i gr be (vs.drop (k + 1)) ((k + 1 : Nat) : Int) w = getVs i gr be vs 0 w) := by
    intro k l o hd h ho
    rw [← h, hd]
    exact ⟨fun xs rest e => (getVs_some (ho.symm.trans e)).symm, fun e => (getVs_none (ho.symm.trans e)).symm⟩
  have hend : getVs i gr be [] (vs.length : Int) w = (valZ, false) := by rw [getVs]
  generalize hres : getVs i gr be vs 0 w = res at hstep0 ⊢
  refine callsT_facts Tryd.func67 facts67 rfl fun hw _ => ?_
  have hvm : (vs.map vrE).length = vs.length := List.length_map _
  refine loopN vs.length 21 [] () (fun _ => []) (fun _ => [(4, .box 32 zeroV)]) (fun k _ => getVs i gr be (vs.drop k) k w = res) hres (same_keys rfl) trivial
    ⟨.inl ⟨_, rfl, .inl ⟨rfl, rfl⟩⟩, trivial⟩ (fun _ => rfl) (fun _ => rfl) ?_
  rintro k _ hk hinv _ _ _
  refine brn_p (fun hlt => ?_) (fun hge => ?_)
  · have hlt : k < vs.length := by omega
    refine withDrop hlt fun l hl hlm hdr => ?_
    have hrm := hroom k l hl
    have h71 := h71 k (by omega) (by omega)
    have hstep := fun o => hstep0 k l o hdr hinv
    refine idxVr hl ?_
    refine optCase (markM gr be k) (fun m hmk => ?_) (fun hmk => ?_)
    · rw [hmk] at h71 hrm
      have h71 : CallsT P 71 [sumA i vs sz sp gr be, IC k] [] (Ret [] (.tup [IC m, .bool true])) := h71
      have hrm : (1 : Int) + total l ≤ sz := hrm
      have htl0 := htot l hlm
      have hw0 : 0 < w.length := by omega
      refine callP h71 rfl fun _ => ?_
      refine withGet hw0 fun w0 hw0' _ => ?_
      have hhd : w.headD 0 = w0 := by
        cases w with
        | nil => simp at hw0
        | cons a b => simpa using hw0'
      have hwt : (w.tail.length : Int) = sz - 1 := by rw [List.length_tail]; omega
      have hwm : (ics w).length = w.length := icsLen w
      refine idxI (k := 0) hw0' ?_
      refine brn_split (fun hne => ?_) (fun heq => ?_)
      · have hne : ¬ w0 = m := by simpa using hne
        have hnext := (hstep none (by rw [cand_some hmk, hhd, if_neg hne])).2 rfl
        refine Fit.in64 (by omega) (by omega) ?_
        exact ⟨(k + 1, ()), ⟨hlt, hnext⟩, ⟨nextI, trivial⟩, ⟨.inl ⟨_, rfl, .inl ⟨rfl, rfl⟩⟩, trivial⟩, nextM hlt⟩
      · have heq : w0 = m := by simpa using heq
        have hstep := hstep (getFs l w.tail) (by rw [cand_some hmk, hhd, if_pos heq])
        refine SlcT.mk (by decide) (by omega) (Int.le_refl _) szI ?_
        have hll := hlen l hlm
        have htl := htot l hlm
        have ih := ih l hlm
        have hwd := hwd l hlm
        refine loopN l.length 49 [8] (([], w.tail) : List Val × List Int) (fun s => [.sl (ics s.2)]) (fun s => [(4, .box 32 zeroV), (11, .box 32 [IC 2, IC i, IC k, IC 0, .rw 71, .bool false, .nils, .nils]), (71, .row 32 8 (s.1.map valC))])
          (fun j s => preG s.1 (getFs (l.drop j) s.2) = getFs l w.tail ∧ (s.2.length : Int) + total (l.take j) = w.tail.length ∧ s.1.length = j) ⟨by rw [List.drop_zero]; cases getFs l w.tail <;> simp [preG], by simp [total], rfl⟩ (same_keys rfl) ⟨.inr (.inl ⟨slTail rfl, rfl⟩), trivial⟩
          ⟨.inl ⟨_, rfl, .inl ⟨rfl, rfl⟩⟩, .inl ⟨_, rfl, .inr ⟨32, _, _, rfl, rfl, _, _, rfl, same_keys rfl, _, _, rfl, same_keys rfl, _, _, rfl, same_keys rfl, _, _, rfl, same_keys rfl, _, _, rfl, nil_rw rfl rfl, _, _, rfl, same_keys rfl, _, _, rfl, same_keys rfl, _, _, rfl, same_keys rfl, rfl⟩⟩, .inr ⟨rfl, 32, 8, rfl⟩, trivial⟩ (fun _ => rfl) (fun _ => rfl) ?_
        rintro j ⟨xs, u⟩ hj ⟨hin2, hul, hxl⟩ _ _ _
        have hul : (u.length : Int) + total (l.take j) = w.tail.length := hul
        have hxl : xs.length = j := hxl
        have hxm : (xs.map valC).length = j := (List.length_map _).trans hxl
        refine brn_p (fun hlt2 => ?_) (fun hge2 => ?_)
        · have hlt2 : j < l.length := by simpa using hlt2
          refine withDrop hlt2 fun x hx hxm' hdr2 => ?_
          have htd := total_drop_le hwd hx
          have hwx := hwd x hxm'
          have hum : (ics u).length = u.length := icsLen u
          have ihx := ih x hxm' (u.take x.words.toNat) (by rw [List.length_take]; omega)
          rw [hdr2] at hin2
          refine idxSh hx ?_
          refine ⟨mokG x, ?_⟩
          refine invT (methW x) ?_
          refine meth0D (tW x) fun _ => ?_
          have hle : x.words ≤ ((ics u).length : Int) := by omega
          refine SlcT.mk (by decide) hwx hle szI ?_
          refine invT (methG x) ?_
          refine meth1D ihx slTo fun _ => ?_
          refine brn_split (fun ok => ?_) (fun ok => ?_)
          · have hno : ¬ (getM x (u.take x.words.toNat)).2 = true := by simpa using ok
            rw [getFs_stop hno] at hin2
            have hnext := hstep.2 hin2.symm
            refine Fit.in64 (by omega) (by omega) ?_
            exact ⟨(k + 1, ()), ⟨hlt, hnext⟩, ⟨nextI, trivial⟩, ⟨.inl ⟨_, rfl, .inl ⟨rfl, rfl⟩⟩, trivial⟩, nextM hlt⟩
          · have hyes : (getM x (u.take x.words.toNat)).2 = true := by simpa using ok
            rw [getFs_step hyes] at hin2
            refine app1' j rfl hxm (by decide) (by omega) ?_
            refine invT (methW x) ?_
            refine meth0 (tW x) fun _ => ?_
            refine SlcT.mk hwx hle (Int.le_refl _) szI ?_
            refine Fit.in64 (by omega) (by omega) ?_
            exact ⟨(j + 1, (xs ++ [(getM x (u.take x.words.toNat)).1], u.drop x.words.toNat)), ⟨hlt2, hin2, by rw [total_take hx]; show ((u.drop x.words.toNat).length : Int) + _ = _; rw [List.length_drop]; omega, by show (xs ++ [_]).length = j + 1; simp [hxl]⟩, ⟨nextI, .inr (.inl ⟨slFrom, rfl⟩), trivial⟩,
              ⟨.inl ⟨_, rfl, .inl ⟨rfl, rfl⟩⟩, .inl ⟨_, rfl, .inl ⟨rfl, rfl⟩⟩, .inl ⟨_, rfl, .inl ⟨rowG rowVal, rfl⟩⟩, trivial⟩, nextM hlt2⟩
        · have hge2 : ¬ j < l.length := by simpa using hge2
          rw [drop_end hge2, getFs] at hin2
          have hin3 : getFs l w.tail = some (xs, u) := by rw [← hin2]; simp [preG]
          have hst := hstep.1 _ _ hin3
          refine callP (t72 u) rfl fun _ => ?_
          refine brn_split (fun hz => ?_) (fun hz => ?_)
          · have hz : u.all (fun n => decide (n = 0)) = true := by simpa using hz
            rw [if_pos hz] at hst
            have e : C.tup [.agg [IC 2, IC i, IC k, IC 0, .sl (xs.map valC), .bool false, .sl [], .sl []], .bool true] = getC res := by rw [← hst]; rfl
            exact retF [71] [] ⟨_, [], rfl, rfl, rfl, rfl, e⟩
          · have hz : ¬ u.all (fun n => decide (n = 0)) = true := by
              intro h; rw [h] at hz; cases hz
            rw [if_neg hz] at hst
            refine Fit.in64 (by omega) (by omega) ?_
            exact ⟨(k + 1, ()), ⟨hlt, hst⟩, ⟨nextI, trivial⟩, ⟨.inl ⟨_, rfl, .inl ⟨rfl, rfl⟩⟩, trivial⟩, nextM hlt⟩
    · rw [hmk] at h71 hrm
      have h71 : CallsT P 71 [sumA i vs sz sp gr be, IC k] [] (Ret [] (.tup [IC 0, .bool false])) := h71
      have hrm : (0 : Int) + total l ≤ sz := hrm
      refine callP h71 rfl fun _ => ?_
      have hstep := hstep (getFs l w) (cand_none hmk).symm
      have hll := hlen l hlm
      have htl := htot l hlm
      have ih := ih l hlm
      have hwd := hwd l hlm
      refine loopN l.length 49 [8] (([], w) : List Val × List Int) (fun s => [.sl (ics s.2)]) (fun s => [(4, .box 32 zeroV), (11, .box 32 [IC 2, IC i, IC k, IC 0, .rw 71, .bool false, .nils, .nils]), (71, .row 32 8 (s.1.map valC))])
        (fun j s => preG s.1 (getFs (l.drop j) s.2) = getFs l w ∧ (s.2.length : Int) + total (l.take j) = w.length ∧ s.1.length = j) ⟨by rw [List.drop_zero]; cases getFs l w <;> simp [preG], by simp [total], rfl⟩ (same_keys rfl) ⟨same_keys rfl, trivial⟩
        ⟨.inl ⟨_, rfl, .inl ⟨rfl, rfl⟩⟩, .inl ⟨_, rfl, .inr ⟨32, _, _, rfl, rfl, _, _, rfl, same_keys rfl, _, _, rfl, same_keys rfl, _, _, rfl, same_keys rfl, _, _, rfl, same_keys rfl, _, _, rfl, nil_rw rfl rfl, _, _, rfl, same_keys rfl, _, _, rfl, same_keys rfl, _, _, rfl, same_keys rfl, rfl⟩⟩, .inr ⟨rfl, 32, 8, rfl⟩, trivial⟩ (fun _ => rfl) (fun _ => rfl) ?_
      rintro j ⟨xs, u⟩ hj ⟨hin2, hul, hxl⟩ _ _ _
      have hul : (u.length : Int) + total (l.take j) = w.length := hul
      have hxl : xs.length = j := hxl
      have hxm : (xs.map valC).length = j := (List.length_map _).trans hxl
      refine brn_p (fun hlt2 => ?_) (fun hge2 => ?_)
      · have hlt2 : j < l.length := by simpa using hlt2
        refine withDrop hlt2 fun x hx hxm' hdr2 => ?_
        have htd := total_drop_le hwd hx
        have hwx := hwd x hxm'
        have hum : (ics u).length = u.length := icsLen u
        have ihx := ih x hxm' (u.take x.words.toNat) (by rw [List.length_take]; omega)
        rw [hdr2] at hin2
        refine idxSh hx ?_
        refine ⟨mokG x, ?_⟩
        refine invT (methW x) ?_
        refine meth0D (tW x) fun _ => ?_
        have hle : x.words ≤ ((ics u).length : Int) := by omega
        refine SlcT.mk (by decide) hwx hle szI ?_
        refine invT (methG x) ?_
        refine meth1D ihx slTo fun _ => ?_
        refine brn_split (fun ok => ?_) (fun ok => ?_)
        · have hno : ¬ (getM x (u.take x.words.toNat)).2 = true := by simpa using ok
          rw [getFs_stop hno] at hin2
          have hnext := hstep.2 hin2.symm
          refine Fit.in64 (by omega) (by omega) ?_
          exact ⟨(k + 1, ()), ⟨hlt, hnext⟩, ⟨nextI, trivial⟩, ⟨.inl ⟨_, rfl, .inl ⟨rfl, rfl⟩⟩, trivial⟩, nextM hlt⟩
        · have hyes : (getM x (u.take x.words.toNat)).2 = true := by simpa using ok
          rw [getFs_step hyes] at hin2
          refine app1' j rfl hxm (by decide) (by omega) ?_
          refine invT (methW x) ?_
          refine meth0 (tW x) fun _ => ?_
          refine SlcT.mk hwx hle (Int.le_refl _) szI ?_
          refine Fit.in64 (by omega) (by omega) ?_
          exact ⟨(j + 1, (xs ++ [(getM x (u.take x.words.toNat)).1], u.drop x.words.toNat)), ⟨hlt2, hin2, by rw [total_take hx]; show ((u.drop x.words.toNat).length : Int) + _ = _; rw [List.length_drop]; omega, by show (xs ++ [_]).length = j + 1; simp [hxl]⟩, ⟨nextI, .inr (.inl ⟨slFrom, rfl⟩), trivial⟩,
            ⟨.inl ⟨_, rfl, .inl ⟨rfl, rfl⟩⟩, .inl ⟨_, rfl, .inl ⟨rfl, rfl⟩⟩, .inl ⟨_, rfl, .inl ⟨rowG rowVal, rfl⟩⟩, trivial⟩, nextM hlt2⟩
      · have hge2 : ¬ j < l.length := by simpa using hge2
        rw [drop_end hge2, getFs] at hin2
        have hin3 : getFs l w = some (xs, u) := by rw [← hin2]; simp [preG]
        have hst := hstep.1 _ _ hin3
        refine callP (t72 u) rfl fun _ => ?_
        refine brn_split (fun hz => ?_) (fun hz => ?_)
        · have hz : u.all (fun n => decide (n = 0)) = true := by simpa using hz
          rw [if_pos hz] at hst
          have e : C.tup [.agg [IC 2, IC i, IC k, IC 0, .sl (xs.map valC), .bool false, .sl [], .sl []], .bool true] = getC res := by rw [← hst]; rfl
          exact retF [71] [] ⟨_, [], rfl, rfl, rfl, rfl, e⟩
        · have hz : ¬ u.all (fun n => decide (n = 0)) = true := by
            intro h; rw [h] at hz; cases hz
          rw [if_neg hz] at hst
          refine Fit.in64 (by omega) (by omega) ?_
          exact ⟨(k + 1, ()), ⟨hlt, hst⟩, ⟨nextI, trivial⟩, ⟨.inl ⟨_, rfl, .inl ⟨rfl, rfl⟩⟩, trivial⟩, nextM hlt⟩
  · have hge : ¬ k < vs.length := by omega
    have hkl : k = vs.length := by omega
    have e : C.tup [.agg [IC 0, IC 0, IC 0, IC 0, .sl [], .bool false, .sl [], .sl []], .bool false] = getC res := by
      rw [← hinv, drop_end hge, hkl, hend]; rfl
    exact retP rfl e
theorem tGet : ∀ (s : Sh), Good s → s.cnt ≤ 2 ^ 28 → ∀ u : List Int, (u.length : Int) = s.words → CallsT P (fGet s) [shR s, .sl (ics u)] [] (Ret [] (getC (getM s u)))
  | .num, _, _, u, hu => by
    have hu : (u.length : Int) = 1 := hu
    obtain ⟨n, rfl⟩ := List.length_eq_one_iff.1 (show u.length = 1 by omega)
    rw [shR, getM]; exact t63 n
  | .hdl k, _, _, u, hu => by
    have hu : (u.length : Int) = 1 := hu
    obtain ⟨n, rfl⟩ := List.length_eq_one_iff.1 (show u.length = 1 by omega)
    rw [shR, getM]; exact t59 k n
  | .sum i vs sz sp gr be, hg, hc, u, hu => by
    have hg' := hg
    rw [Good, goodVs_iff] at hg'
    rw [Sh.cnt] at hc
    rw [shR_sum]
    exact t67 i vs sz sp gr be u hg (by omega) hu fun l hl s hs u hu => tGet s (hg'.2.2.2 l hl s hs) (by have := cntVs_mem hl; have := cntFs_mem hs; omega) u hu
termination_by s => SizeOf.sizeOf s
decreasing_by
  have h1 := List.sizeOf_lt_of_mem hs
  have h2 := List.sizeOf_lt_of_mem hl
  simp only [Sh.sum.sizeOf_spec]
  omega
end Go.Fr.Tryd

/- Layout: Encode and Decode. -/
set_option linter.unusedVariables false
set_option linter.unusedSimpArgs false
namespace Go.Fr.Tryd
open Go Go.RowKit Go.Proofs Go.Fr Go.Fr.T Go.Fr.Api

def encM (ds : List Api.Data) (t : Ty) (v : Val) : List Int × Int :=
  match planO ds t with
  | none => ([], 8)
  | some s => if (putM s v).2 then ((putM s v).1, 0) else ([], 1)
def decM (ds : List Api.Data) (t : Ty) (w : List Int) : Val × Int :=
  match planO ds t with
  | none => (valZ, 8)
  | some s => if (w.length : Int) = s.words then if (getM s w).2 then ((getM s w).1, 0) else (valZ, 16) else (valZ, 16)
theorem planO_ok {ds : List Api.Data} {t : Ty} {s : Sh} (h : planO ds t = some s) : Good s ∧ s.cnt ≤ 200 := by
  rw [planO] at h
  have h1 := plan_ok ds 200 t 200 (by decide) s (plan ds 200 t 200).2 (by rw [← h])
  refine ⟨h1.1, ?_⟩
  have := h1.2
  omega
theorem t12 (ds : List Api.Data) (hds : DsB ds) (t : Ty) (ht : TyB t) (v : Val) : CallsT P 12 [.sl (ds.map dataC), tyA t, valA v] [] (Ret [] (.tup [.sl (ics (encM ds t v).1), IC (encM ds t v).2])) := by
  have h27 := t27 ds hds t ht
  rw [encM]
  cases ho : planO ds t with
  | none =>
    rw [ho] at h27
    refine callsT_facts Tryd.func12 facts12 rfl fun hw _ => ?_
    refine callP h27 rfl fun _ => ?_
    exact retP rfl rfl
  | some s =>
    rw [ho] at h27
    obtain ⟨hg, hc⟩ := planO_ok ho
    have hp : CallsT P (fPut s) [shR s, valA v] [] (Ret [] (.tup [.sl (ics (putM s v).1), .bool (putM s v).2])) := tPut s hg (by omega) v
    show CallsT P 12 [.sl (ds.map dataC), tyA t, valA v] [] (Ret [] (.tup [.sl (ics (if (putM s v).2 then ((putM s v).1, (0 : Int)) else ([], 1)).1), IC (if (putM s v).2 then ((putM s v).1, (0 : Int)) else ([], 1)).2]))
    cases hb : (putM s v).2 with
    | true =>
      rw [hb] at hp
      refine callsT_facts Tryd.func12 facts12 rfl fun hw _ => ?_
      refine callP h27 rfl fun _ => ?_
      refine invT (methU s) ?_
      refine meth1 hp rfl fun _ => ?_
      exact retP rfl rfl
    | false =>
      rw [hb] at hp
      refine callsT_facts Tryd.func12 facts12 rfl fun hw _ => ?_
      refine callP h27 rfl fun _ => ?_
      refine invT (methU s) ?_
      refine meth1 hp rfl fun _ => ?_
      exact retP rfl rfl
theorem t15 (ds : List Api.Data) (hds : DsB ds) (t : Ty) (ht : TyB t) (w : List Int) : CallsT P 15 [.sl (ds.map dataC), tyA t, .sl (ics w)] [] (Ret [] (.tup [valA (decM ds t w).1, IC (decM ds t w).2])) := by
  have h27 := t27 ds hds t ht
  rw [decM]
  have hwl : (ics w).length = w.length := icsLen w
  cases ho : planO ds t with
  | none =>
    rw [ho] at h27
    refine callsT_facts Tryd.func15 facts15 rfl fun hw _ => ?_
    refine callP h27 rfl fun _ => ?_
    exact retP rfl rfl
  | some s =>
    rw [ho] at h27
    obtain ⟨hg, hc⟩ := planO_ok ho
    by_cases hl : (w.length : Int) = s.words
    · have hp : CallsT P (fGet s) [shR s, .sl (ics w)] [] (Ret [] (.tup [valA (getM s w).1, .bool (getM s w).2])) := tGet s hg (by omega) w hl
      simp only [if_pos hl]
      cases hb : (getM s w).2 with
      | true =>
        rw [hb] at hp
        refine callsT_facts Tryd.func15 facts15 rfl fun hw _ => ?_
        refine callP h27 rfl fun _ => ?_
        refine invT (methW s) ?_
        refine meth0 (tW s) fun _ => ?_
        refine brn_split (fun h => ?_) (fun _ => ?_)
        · exact absurd hl (by rw [hwl] at h; simpa using h)
        refine invT (methG s) ?_
        refine meth1 hp rfl fun _ => ?_
        exact retP rfl rfl
      | false =>
        rw [hb] at hp
        refine callsT_facts Tryd.func15 facts15 rfl fun hw _ => ?_
        refine callP h27 rfl fun _ => ?_
        refine invT (methW s) ?_
        refine meth0 (tW s) fun _ => ?_
        refine brn_split (fun h => ?_) (fun _ => ?_)
        · exact absurd hl (by rw [hwl] at h; simpa using h)
        refine invT (methG s) ?_
        refine meth1 hp rfl fun _ => ?_
        exact retP rfl rfl
    · simp only [if_neg hl]
      refine callsT_facts Tryd.func15 facts15 rfl fun hw _ => ?_
      refine callP h27 rfl fun _ => ?_
      refine invT (methW s) ?_
      refine meth0 (tW s) fun _ => ?_
      refine brn_split (fun _ => ?_) (fun h => ?_)
      · exact retP rfl rfl
      · exact absurd (by rw [hwl] at h; simpa using h) hl
end Go.Fr.Tryd
