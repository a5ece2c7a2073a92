/- From a contract to a statement: what a law that answers true must show. -/
import Derived.Test.YtgapnemcomkomaaTlApi
import Derived.Carry
import Derived.ChangeSame
import Derived.WalkKit
import Derived.ProofKit
import Derived.OpenShut
set_option linter.unusedVariables false
set_option linter.unusedSimpArgs false
namespace Go.Fr.T
open Go Go.RowKit Go.Fr Go.ChangeShapes Go.WideShapes Go.ChangeAt

def argC : G → C
  | .int k n => .int k n
  | .bool b => .bool b
  | .str s => .str s
  | .sl _ l => .sl (gcss l)
  | .st l => .agg (gflat l)
def OkA (P : Program) : List TypeId → List G → Prop
  | [], [] => True
  | t :: ts, g :: gs => (∃ n, Ok P n t g) ∧ OkA P ts gs
  | _, _ => False

section
variable {H : Type} {enc : TypeId × Value → H} {P : Program} {W : World}

theorem rels_one {F : Frz} {L : Loc} {c : C} {v : Value} (h : Rels F L [c] [v]) : Rel F L c v := by
  simp only [Rels] at h
  obtain ⟨x, y, e, h1, h2⟩ := h
  injection e with e1 e2
  subst e1
  exact h1

theorem arg_rel {S : List TypeId} (hS : flat P S = true) {t : TypeId} (ht : t ∈ S) {r : Reach} {b0 : Nat} {sp : Nat → Bool} {hd : Bool} {v : Value} {d : DataW H} {ps : List MemPlace} (hval : Value.okWide P W r b0 t v)
    (h : DataW.Trod enc P W 0 sp hd t v d ps) (hb : bulkD d ≤ maxLen) : ∃ n g, Ok P n t g ∧ Rel (frzOf W) [] (argC g) v ∧ g.bulk ≤ bulkD d := by
  obtain ⟨fuel, h⟩ := h
  obtain ⟨g, h1, h2, h3⟩ := trod_rd hS fuel t _ _ ht h
  refine ⟨fuel, g, h1, ?_, h3⟩
  have h4 := (rd_rels h2 (Nat.le_trans h3 hb)).1
  have hf := List.all_eq_true.1 hS t ht
  cases fuel with
  | zero => exact h1.elim
  | succ n =>
  simp only [flatT] at hf
  simp only [Ok] at h1
  split at hf
  · rename_i hu
    obtain ⟨b, rfl⟩ := okWide_bool hu hval
    simp only [hu] at h1
    obtain ⟨b', rfl⟩ := h1
    exact rels_one h4
  · rename_i k hu
    obtain ⟨m, rfl⟩ := okWide_int hu hval
    simp only [hu] at h1
    obtain ⟨b', rfl, _⟩ := h1
    exact rels_one h4
  · rename_i hu
    obtain ⟨m, rfl⟩ := okWide_string hu hval
    simp only [hu] at h1
    obtain ⟨b', rfl⟩ := h1
    exact rels_one h4
  · rename_i e hu
    obtain ⟨a, l, c, rfl⟩ := okWide_slice hu hval
    simp only [hu] at h1
    obtain ⟨b', rfl, _⟩ := h1
    exact rels_one h4
  · rename_i fs hu
    simp only [Value.okWide, hu] at hval
    obtain ⟨cs, rfl, _, _⟩ := hval
    simp only [hu] at h1
    obtain ⟨l, rfl, _⟩ := h1
    simp only [argC, Rel]
    exact ⟨cs.toList, by simp, h4⟩
  · cases hf

theorem args_rels {S : List TypeId} (hS : flat P S = true) {r : Reach} {b0 : Nat} {sp : Nat → Bool} {hd : Bool} : ∀ {ts : List TypeId} {vs : List Value} {ds : List (DataW H)} {ps : List MemPlace}, (∀ t ∈ ts, t ∈ S) →
    (∀ (j : Nat) t v, ts[j]? = some t → vs[j]? = some v → Value.okWide P W r b0 t v) → DataW.TrodAll enc P W 0 sp hd ts vs ds ps → bulkDAll ds ≤ maxLen →
    ∃ gs, OkA P ts gs ∧ Rels (frzOf W) [] (gs.map argC) vs ∧ G.bulkAll gs ≤ bulkDAll ds
  | [], [], [], _, _, _, _, _ => ⟨[], trivial, by simp only [List.map_nil, Rels], by simp [G.bulkAll]⟩
  | t :: ts, v :: vs, d :: ds, ps, hm, hv, ⟨p, q, h1, h2, _⟩, hb => by
    simp only [bulkDAll] at hb ⊢
    obtain ⟨n, g, g1, g2, g3⟩ := arg_rel hS (hm t (by simp)) (hv 0 t v rfl rfl) h1 (by omega)
    obtain ⟨gs, k1, k2, k3⟩ := args_rels hS (fun t ht => hm t (by simp [ht])) (fun j t v ht hv' => hv (j + 1) t v (by simpa using ht) (by simpa using hv')) h2 (by omega)
    refine ⟨g :: gs, ⟨⟨n, g1⟩, k1⟩, ?_, by simp only [G.bulkAll]; omega⟩
    simp only [List.map_cons, Rels]
    exact ⟨v, vs, rfl, g2, k2⟩
  | [], _ :: _, _, _, _, _, h, _ => h.elim
  | [], [], _ :: _, _, _, _, h, _ => h.elim
  | _ :: _, [], _, _, _, _, h, _ => h.elim
  | _ :: _, _ :: _, [], _, _, _, h, _ => h.elim

theorem trodAll_below {ts : List TypeId} (hl : laidOutB P = true) (hr : ts.all (fun t => P.readableRec t && decide (t < P.types.size)) = true) {W' : World} (hb : Below W.heap.size W W') {sp : Nat → Bool} :
    ∀ {vs : List Value} {ds : List (DataW H)} {ps : List MemPlace}, DataW.TrodAll enc P W 0 (fun _ => true) true ts vs ds ps → (∀ x ∈ ps, x.block < W.heap.size) → (∀ x ∈ ps, sp x.block = true) → DataW.TrodAll enc P W' 0 sp true ts vs ds ps := by
  induction ts with
  | nil =>
    intro vs ds ps h _ _
    match vs, ds, h with
    | [], [], h => exact h
  | cons t ts ih =>
    intro vs ds ps h h1 h2
    match vs, ds, h with
    | v :: vs, d :: ds, ⟨p, q, k1, k2, e⟩ =>
      subst e
      simp only [List.all_cons, Bool.and_eq_true, decide_eq_true_eq] at hr
      refine ⟨p, q, WideElems.Trod_stays hl hr.1.1 hr.1.2 k1 (fun x hx => hb.same (h1 x (by simp [hx]))) (fun x hx => h2 x (by simp [hx])), ih (by simpa using hr.2) k2 (fun x hx => h1 x (by simp [hx])) (fun x hx => h2 x (by simp [hx])), rfl⟩

/-- post_of_same, where of old blocks alone is known that they stand as they were -/
theorem post_of_below {f : Func} {s : ChangeSpec} {W W' : World} {args : Array Value} {v : Value} {ds gs : List (DataW H)} {before pa pv : List MemPlace}
    (hW : DataW.Whole enc P f.params.toList s.vars false W args.toList ds gs before)
    (hres : ∀ (b : Nat) (sp : Nat → Bool) (hd : Bool), DataW.TrodAll enc P W' b sp hd f.resultTypes.toList (v.resultList f.resultTypes.size) (s.fn H (ds ++ gs)).results [])
    (hargs : ∀ sp : Nat → Bool, (∀ p ∈ before, sp p.block = true) → DataW.TrodAll enc P W' 0 sp true f.params.toList args.toList (s.fn H (ds ++ gs)).args pa)
    (hvars : ∀ sp : Nat → Bool, (∀ p ∈ before, sp p.block = true) → DataW.TrodVars enc P W' sp s.vars (s.fn H (ds ++ gs)).vars pv)
    (hps : before = pa ++ pv) (hb : Below W.heap.size W W')
    (hok : ∀ (j : Nat) (t : TypeId) (r : Value), f.resultTypes[j]? = some t → (v.resultList f.resultTypes.size)[j]? = some r → Value.okWide P W' .any 0 t r) :
    s.post enc P f false true false false W args v W' := by
  have hold : ∀ p ∈ before, (fun b => decide (b < W.heap.size)) p.block = true := fun p hp => by simpa using hW.lt p hp
  have hlt : ∀ p ∈ before, p.block < W.heap.size := fun p hp => hW.lt p hp
  refine ⟨ds, gs, before, [], pa, pv, hW, hres _ _ _, hargs _ hold, hvars _ hold, World.keptBut_mono (fun p hp => ⟨hp, ?_⟩) (hb.frame (· ∈ before)), fun _ => ?_⟩
  · rw [hps, List.mem_append] at hp
    exact Or.inr hp
  · obtain ⟨_, _, _, _, _, hz, hn⟩ := hW
    refine ⟨hok, _, _, ([] ++ pa) ++ pv, ⟨[] ++ pa, pv, trodAll_append (hargs _ (fun _ _ => rfl)) (hres _ _ _), hvars _ (fun _ _ => rfl), rfl, ?_, ?_⟩, ?_⟩
    · intro b off hp
      have hp' : MemPlace.cell b off ∈ before := by rw [hps]; simpa using hp
      rw [hb.frozen (p := ⟨b, off, none⟩) (hlt _ hp')]
      exact hz b off hp'
    · intro ha
      cases ha
    · intro p hp _
      rw [hps]
      simpa using hp

theorem entry {f : FuncId} {ts : List TypeId} {S : List TypeId} (hS : flat P S = true) (hm : ∀ t ∈ ts, t ∈ S) {r : Reach} {b0 : Nat} {args : Array Value} {ds : List (DataW H)} {ps : List MemPlace}
    (hval : ∀ (j : Nat) t v, ts[j]? = some t → args.toList[j]? = some v → Value.okWide P W r b0 t v) (h : DataW.TrodAll enc P W 0 (fun _ => true) true ts args.toList ds ps) (hk : bulkDAll ds ≤ 1048576)
    (law : ∀ gs, OkA P ts gs → G.bulkAll gs ≤ 1048576 → CallsT P f (gs.map argC) [] (Ret [] (.bool true))) :
    Calls P f args W fun e W' => e = .returned (.bool true) ∧ Below W.heap.size W W' := by
  obtain ⟨gs, k1, k2, k3⟩ := args_rels hS hm hval h (Nat.le_trans hk (by decide))
  have hc := (law gs k1 (by omega)).out (frzOf W) [] args.toList rfl (fun k => by rw [show (inp []).get k = none from rfl, show (tinp []).get k = none from rfl]; trivial) k2
  have he : ∀ k, (inp []).get k = none := fun _ => rfl
  have hs0 : St (frzOf W) (inp []) W := ⟨fun b o h => h, fun k o h => (by rw [he] at h; cases h), fun k o g h => (by rw [he] at h; cases h), fun k k' o o' g h => (by rw [he] at h; cases h)⟩
  refine Calls.mono (hc.run W hs0) ?_
  rintro e W' ⟨v, F', Lo, rfl, hs, hst, Mo, c, q1, q2, q3, q4, rfl, rfl⟩
  simp only [Rel] at q3
  subst q3
  exact ⟨rfl, hst.os, hst.tape, hst.output, hst.size, fun k hk => hst.same k hk (by rintro ⟨_, _, h, _⟩; cases h)⟩

theorem contract_bool {f : FuncId} {fn : Func} {s : ChangeSpec} {S : List TypeId} {tb : TypeId} (hl : laidOutB P = true) (hS : flat P S = true) (hm : fn.params.toList.all (fun t => S.contains t && (P.readableRec t && decide (t < P.types.size))) = true)
    (hres : fn.resultTypes = #[tb]) (htb : P.underlying tb = some .bool) (hvars : s.vars = [])
    (law : ∀ gs, OkA P fn.params.toList gs → G.bulkAll gs ≤ 1048576 → CallsT P f (gs.map argC) [] (Ret [] (.bool true)))
    {r : Reach} {b0 : Nat} {args : Array Value} {ds gs : List (DataW H)} {before : List MemPlace} (hfn : s.fn H ds = { results := [.lit (.bool true)], args := ds })
    (hval : ∀ (j : Nat) t v, fn.params[j]? = some t → args[j]? = some v → Value.okWide P W r b0 t v)
    (hW : DataW.Whole enc P fn.params.toList s.vars false W args.toList ds gs before) (hk : bulkDAll ds ≤ 1048576) :
    Calls P f args W fun e W' => ∃ v, e = .returned v ∧ s.post enc P fn false true false false W args v W' := by
  have hW' := hW
  rw [hvars] at hW
  obtain ⟨p, q, hA, hV, rfl, hfz, hnd⟩ := hW
  obtain ⟨rfl, rfl⟩ := trodVars_none hV
  have hm' := List.all_eq_true.1 hm
  refine (entry hS (fun t ht => by have := hm' t ht; simp only [Bool.and_eq_true, List.contains_iff_mem] at this; exact this.1) (fun j t v h1 h2 => hval j t v (by simpa using h1) (by simpa using h2)) hA hk law).mono ?_
  rintro e W' ⟨rfl, hb⟩
  refine ⟨_, rfl, post_of_below (pa := p) (pv := []) hW' ?_ ?_ ?_ rfl hb (ok_one hres rfl (okWide_bool_mk htb _))⟩
  · intro b sp hd
    simp only [List.append_nil, hfn, hres]
    exact trodAll_cons_mk (shut_bool htb _) trodAll_mk0
  · intro sp hsp
    simp only [List.append_nil, hfn]
    exact trodAll_below hl (List.all_eq_true.2 fun t ht => by have := hm' t ht; simp only [Bool.and_eq_true] at this ⊢; exact this.2) hb hA (fun x hx => hW'.lt x (by simp [hx])) (fun x hx => hsp x (by simp [hx]))
  · intro sp hsp
    rw [hvars]
    simp only [List.append_nil, hfn]
    exact rfl
end
end Go.Fr.T
