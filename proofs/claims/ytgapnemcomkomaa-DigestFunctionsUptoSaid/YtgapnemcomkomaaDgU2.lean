/- Digest: lists of small types, equal types, and the statement on types. -/
import Derived.Test.YtgapnemcomkomaaDgU1
set_option linter.unusedVariables false
set_option linter.unusedSimpArgs false
namespace Go.Fr.Try
open Go Go.RowKit Go.Proofs Go.Fr Go.Fr.T Go.Fr.Api

def smallL (l : List Ty) : Bool := l.all (fun t => decide (few t 30 ≤ 30)) && decide ((l.length : Int) ≤ 8)
set_option maxRecDepth 10000 in
theorem t10 (l : List Ty) : CallsT P 10 [.sl (l.map tyC)] [] (Ret [] (.bool (smallL l))) := by
  have h31 : ∀ x : Ty, CallsT P 31 [.agg [IC x.kind, IC x.id, .sl (x.args.map tyC)], IC 30] [] (Ret [] (IC (few x 30))) := fun x => by
    have := t31 x 30 (by omega) (by omega)
    rw [tyC_eq] at this
    exact this
  have hsm : smallL l = (l.all (fun t => decide (few t 30 ≤ 30)) && decide ((l.length : Int) ≤ 8)) := rfl
  generalize few = fw at h31 hsm
  refine callsT_facts Try.func10 facts10 rfl fun hw _ => ?_
  have hlen : l.length ≤ 9223372036854775807 := wf_lenT hw.1
  refine loopN l.length 3 [] () (fun _ => []) (fun _ => []) (fun k _ => (l.drop k).all (fun t => decide (fw t 30 ≤ 30)) = l.all (fun t => decide (fw t 30 ≤ 30))) rfl (same_keys rfl) trivial trivial (fun _ => rfl) (fun _ => rfl) ?_
  rintro k _ hk hinv _ _ _
  refine brn_p (fun hlt => ?_) (fun hge => ?_)
  · have hlt : k < l.length := by simpa using hlt
    have hd := drop_cons hlt
    have hx := hd.choose_spec.1
    have hdr := hd.choose_spec.2
    generalize hd.choose = x at hx hdr
    refine idxTy hx ?_
    refine callP (h31 x) rfl fun _ => ?_
    rw [hdr, List.all_cons] at hinv
    refine brn_p (fun hgt => ?_) (fun hle => ?_)
    · have hdc : decide (fw x 30 ≤ 30) = false := decide_eq_false (by omega)
      rw [hdc, Bool.false_and] at hinv
      have e : false = smallL l := by rw [hsm, ← hinv, Bool.false_and]
      exact retP rfl (congrArg C.bool e)
    · refine Fit.in64 (by omega) (by omega) ?_
      have hdc : decide (fw x 30 ≤ 30) = true := decide_eq_true (by omega)
      rw [hdc, Bool.true_and] at hinv
      exact ⟨(k + 1, ()), ⟨hlt, hinv⟩, ⟨nextI, trivial⟩, trivial, nextM hlt⟩
  · have hge : ¬ k < l.length := by simpa using hge
    rw [drop_end hge, List.all_nil] at hinv
    have e : decide (((l.map tyC).length : Int) ≤ 8) = smallL l := by rw [hsm, ← hinv, Bool.true_and, List.length_map]
    exact retP rfl (congrArg C.bool e)

def beginsB (b first : List UInt8) : Bool := decide (first.length ≤ b.length) && decide (b.take first.length = first)
theorem bcells_take (b : List UInt8) (n : Nat) : (bcells b).take n = bcells (b.take n) := by simp [bcells, List.map_take]
set_option maxRecDepth 10000 in
theorem t24 (b f : List UInt8) : CallsT P 24 [.sl (bcells b), .sl (bcells f)] [] (Ret [] (.bool (beginsB b f))) := by
  have h19 := t19 (b.take f.length) f
  refine callsT_facts Try.func24 facts24 rfl fun hw _ => ?_
  refine brn_p (fun hle => ?_) (fun hgt => ?_)
  · have hle : f.length ≤ b.length := by simpa [bcells] using hle
    refine SlcT.mk (by omega) (by omega) ?_ bcells_sz ?_
    · simpa [bcells] using hle
    refine callP h19 ?_ fun _ => ?_
    · show [C.sl (((bcells b).drop 0).take (((bcells f).length : Int).toNat - 0)), C.sl (bcells f)] = _
      rw [List.drop_zero, Nat.sub_zero, Int.toNat_natCast, bcells_len, bcells_take]
    have e : decide (b.take f.length = f) = beginsB b f := by unfold beginsB; rw [decide_eq_true hle, Bool.true_and]
    exact retP rfl (congrArg C.bool e)
  · have hgt : ¬ f.length ≤ b.length := by simpa [bcells] using hgt
    have e : false = beginsB b f := by unfold beginsB; rw [decide_eq_false hgt]; rfl
    exact retP rfl (congrArg C.bool e)

mutual
def tyEq : Ty → Ty → Bool
  | .mk k i l, .mk k' i' l' => decide (k = k') && (decide (i = i') && tysEq l l')
def tysEq : List Ty → List Ty → Bool
  | [], [] => true
  | x :: l, y :: l' => tyEq x y && tysEq l l'
  | _, _ => false
end
mutual
theorem tyEq_iff : ∀ a b : Ty, tyEq a b = true ↔ a = b
  | .mk k i l, .mk k' i' l' => by
    simp only [tyEq, Bool.and_eq_true, decide_eq_true_eq, tysEq_iff l l', Ty.mk.injEq]
theorem tysEq_iff : ∀ a b : List Ty, tysEq a b = true ↔ a = b
  | [], [] => by simp [tysEq]
  | x :: l, y :: l' => by simp only [tysEq, Bool.and_eq_true, tyEq_iff x y, tysEq_iff l l', List.cons.injEq]
  | [], y :: l' => by simp [tysEq]
  | x :: l, [] => by simp [tysEq]
end
theorem tysEq_len {l m : List Ty} (h : l.length ≠ m.length) : tysEq l m = false := by
  cases e : tysEq l m with
  | false => rfl
  | true => exact absurd (congrArg List.length ((tysEq_iff l m).1 e)) h
set_option maxRecDepth 10000 in
theorem t70 (l m : List Ty) (ih : ∀ x ∈ l, ∀ y : Ty, CallsT P 25 [.agg [IC x.kind, IC x.id, .sl (x.args.map tyC)], .agg [IC y.kind, IC y.id, .sl (y.args.map tyC)]] [] (Ret [] (.bool (tyEq x y)))) : CallsT P 70 [.sl (l.map tyC), .sl (m.map tyC)] [] (Ret [] (.bool (tysEq l m))) := by
  have hne := tysEq_len (l := l) (m := m)
  have hcons : ∀ x r y s, tysEq (x :: r) (y :: s) = (tyEq x y && tysEq r s) := fun x r y s => by rw [tysEq]
  have hnil : tysEq [] [] = true := by rw [tysEq]
  generalize tyEq = te at ih hcons
  generalize tysEq = ts at hne hcons hnil ⊢
  refine callsT_facts Try.func70 facts70 rfl fun hw _ => ?_
  have hlen : l.length ≤ 9223372036854775807 := wf_lenT hw.1
  refine brn_split (fun hn => ?_) (fun hn => ?_)
  · have hn : (!decide (((l.map tyC).length : Int) = ((m.map tyC).length : Int))) = true := hn
    simp only [List.length_map, Bool.not_eq_true', decide_eq_false_iff_not] at hn
    exact retP rfl (congrArg C.bool (hne (by omega)).symm)
  have hn : (!decide (((l.map tyC).length : Int) = ((m.map tyC).length : Int))) = false := hn
  simp only [List.length_map, Bool.not_eq_false', decide_eq_true_eq] at hn
  refine loopN l.length 5 [] () (fun _ => []) (fun _ => []) (fun k _ => ts (l.drop k) (m.drop k) = ts l m) rfl (same_keys rfl) trivial trivial (fun _ => rfl) (fun _ => rfl) ?_
  rintro k _ hk hinv _ _ _
  refine brn_p (fun hlt => ?_) (fun hge => ?_)
  · have hlt : k < l.length := by simpa using hlt
    have hd := drop_cons hlt
    have hx := hd.choose_spec.1
    have hdr := hd.choose_spec.2
    generalize hd.choose = x at hx hdr
    have hd' := drop_cons (l := m) (k := k) (by omega)
    have hy := hd'.choose_spec.1
    have hdr' := hd'.choose_spec.2
    generalize hd'.choose = y at hy hdr'
    rw [hdr, hdr', hcons] at hinv
    refine idxTy hx ?_
    refine idxTy hy ?_
    refine callPD (ih x (List.mem_of_getElem? hx) y) rfl fun _ => ?_
    refine brn_split (fun hb => ?_) (fun hb => ?_)
    · have hb : (!te x y) = true := hb
      have q : false = ts l m := by rw [← hinv]; cases e : te x y <;> simp_all
      exact retP rfl (congrArg C.bool q)
    · have hb : (!te x y) = false := hb
      refine Fit.in64 (by omega) (by omega) ?_
      have q : ts (l.drop (k + 1)) (m.drop (k + 1)) = ts l m := by rw [← hinv]; cases e : te x y <;> simp_all
      exact ⟨(k + 1, ()), ⟨hlt, q⟩, ⟨nextI, trivial⟩, trivial, nextM hlt⟩
  · have hge : ¬ k < l.length := by simpa using hge
    rw [drop_end hge, drop_end (by omega), hnil] at hinv
    exact retP rfl (congrArg C.bool hinv)
set_option maxRecDepth 10000 in
theorem t25' : ∀ (a b : Ty), CallsT P 25 [.agg [IC a.kind, IC a.id, .sl (a.args.map tyC)], .agg [IC b.kind, IC b.id, .sl (b.args.map tyC)]] [] (Ret [] (.bool (tyEq a b)))
  | .mk k i l, .mk k' i' l' => by
    have h70 := t70 l l' (fun x hx y => t25' x y)
    rw [tyEq]
    simp only [Ty.kind, Ty.id, Ty.args]
    generalize tysEq l l' = e at h70 ⊢
    refine callsT_facts Try.func25 facts25 rfl fun hw _ => ?_
    refine brn_p (fun h1 => ?_) (fun h1 => ?_)
    · refine brn_p (fun h2 => ?_) (fun h2 => ?_)
      · refine callP h70 rfl fun _ => ?_
        have q : e = (decide (k = k') && (decide (i = i') && e)) := by rw [decide_eq_true h1, decide_eq_true h2]; rfl
        exact retP rfl (congrArg C.bool q)
      · have q : false = (decide (k = k') && (decide (i = i') && e)) := by rw [decide_eq_true h1, decide_eq_false h2]; rfl
        exact retP rfl (congrArg C.bool q)
    · have q : false = (decide (k = k') && (decide (i = i') && e)) := by rw [decide_eq_false h1]; rfl
      exact retP rfl (congrArg C.bool q)
termination_by a => SizeOf.sizeOf a
decreasing_by
  have := List.sizeOf_lt_of_mem hx
  simp only [Ty.mk.sizeOf_spec]
  omega
theorem t25 (a b : Ty) : CallsT P 25 [.agg (tyC a), .agg (tyC b)] [] (Ret [] (.bool (tyEq a b))) := by
  have := t25' a b
  rw [← tyC_eq, ← tyC_eq] at this
  exact this
end Go.Fr.Try
