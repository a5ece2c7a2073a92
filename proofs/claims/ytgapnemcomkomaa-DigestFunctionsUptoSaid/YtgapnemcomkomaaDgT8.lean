/- Digest: modules (printed by dg8.py). -/
import Derived.Test.YtgapnemcomkomaaDgT7
set_option linter.unusedVariables false
set_option linter.unusedSimpArgs false
namespace Go.Fr.Try
open Go Go.RowKit Go.Proofs Go.Fr Go.Fr.T Go.Fr.Api

def zeroF : Fun := ⟨⟨#[]⟩, 0, 0, [], 0, .mk 0 0 [], [], [], []⟩
theorem t65s (l : List Fun) (i : Int) (s : Fun) (h : elem l i = some s) : CallsT P 65 [.sl (l.map funC), IC i] [] (Ret [] (.tup [.agg (funC s), .bool true])) := by
  refine callsT_facts Try.func65 facts65 rfl fun hw _ => ?_
  obtain ⟨h1, h2, h3⟩ := elem_some h
  refine brn_p (fun h => absurd h h1) (fun _ => ?_)
  refine brn_p (fun h => absurd h (by simpa using h2)) (fun _ => ?_)
  refine idxE h1 h3 rfl rfl ?_
  exact retP rfl rfl
theorem t65n (l : List Fun) (i : Int) (h : elem l i = none) : CallsT P 65 [.sl (l.map funC), IC i] [] (Ret [] (.tup [.agg (funC zeroF), .bool false])) := by
  refine callsT_facts Try.func65 facts65 rfl fun hw _ => ?_
  rcases elem_none h with h1 | ⟨h1, h2⟩
  · refine brn_p (fun _ => ?_) (fun h => absurd h1 h)
    exact retP rfl rfl
  · refine brn_p (fun h => absurd h h1) (fun _ => ?_)
    refine brn_p (fun _ => ?_) (fun h => absurd (by simpa using h2) h)
    exact retP rfl rfl
theorem t65 (l : List Fun) (i : Int) : ∃ b, CallsT P 65 [.sl (l.map funC), IC i] [] (Ret [] (.tup [.agg (funC ((elem l i).getD zeroF)), .bool b])) := by
  cases h : elem l i with
  | some s => exact ⟨_, t65s l i s h⟩
  | none => exact ⟨_, t65n l i h⟩
def encVariant (po : Option Prog) (v : Variant) : List UInt8 := encSs [v.name] ++ encL (encTy po) v.fields
theorem t57 {po : Option Prog} {p : C} (hp : PC po p) (v : Variant) (bs : List UInt8) (hb : (bs ++ encVariant po v).length ≤ 2 ^ 46) : CallsT P 57 [.agg (variantC v), .own 1002 0] (WrC p bs) (Ret (WrC p (bs ++ encVariant po v)) (.tup [])) := by
  have e : bs ++ encVariant po v = bs ++ encSs [v.name] ++ encL (encTy po) v.fields := by simp [encVariant]
  rw [e] at hb ⊢
  have h45 : ∀ (x : Ty) (s : List UInt8), (s ++ encTy po x).length ≤ 2 ^ 46 → CallsT P 45 [.own 1000 0, .agg (tyC x)] (Wr p s) (Ret (Wr p (s ++ encTy po x)) (.tup [])) := fun x s hs => t45 hp x s hs
  generalize encTy po = E at h45 hb ⊢
  refine callsT_facts Try.func57 facts57 rfl fun hw _ => ?_
  have hp' := hp
  cases hp
  all_goals
    refine callO [1000, 1001] [1000, 1001] (t50 hp' bs [v.name] (by simp only [List.length_append] at hb ⊢; omega)) rfl rfl rfl rfl rfl fun _ _ => ?_
    refine callO [1000, 1001] [1000, 1001] (t58 hp' _ v.fields E (fun x _ s hs => h45 x s hs) hb) rfl rfl rfl rfl rfl fun _ _ => ?_
    exact retO [1000, 1001, 1002] rfl rfl rfl rfl
def encData (po : Option Prog) (d : Api.Data) : List UInt8 := encSs [d.name] ++ (encIs [d.params, d.drop] ++ encL (encVariant po) d.variants)
theorem t54 {po : Option Prog} {p : C} (hp : PC po p) (d : Api.Data) (bs : List UInt8) (hb : (bs ++ encData po d).length ≤ 2 ^ 46) : CallsT P 54 [.agg (dataC d), .own 1002 0] (WrC p bs) (Ret (WrC p (bs ++ encData po d)) (.tup [])) := by
  have e : bs ++ encData po d = bs ++ encSs [d.name] ++ encIs [d.params, d.drop] ++ encL (encVariant po) d.variants := by simp [encData]
  rw [e] at hb ⊢
  have h57 : ∀ (x : Variant) (s : List UInt8), (s ++ encVariant po x).length ≤ 2 ^ 46 → CallsT P 57 [.agg (variantC x), .own 1002 0] (WrC p s) (Ret (WrC p (s ++ encVariant po x)) (.tup [])) := fun x s hs => t57 hp x s hs
  generalize encVariant po = E at h57 hb ⊢
  refine callsT_facts Try.func54 facts54 rfl fun hw _ => ?_
  have hp' := hp
  cases hp
  all_goals
    refine callO [1000, 1001] [1000, 1001] (t50 hp' bs [d.name] (by simp only [List.length_append] at hb ⊢; omega)) rfl rfl rfl rfl rfl fun _ _ => ?_
    refine callO [1000, 1001] [1000, 1001] (t55 hp' _ [d.params, d.drop] (by simp only [List.length_append] at hb ⊢; omega)) rfl rfl rfl rfl rfl fun _ _ => ?_
    refine callO [1000, 1001, 1002] [1000, 1001, 1002] (t56 hp' _ d.variants E (fun x _ s hs => h57 x s hs) hb) rfl rfl rfl rfl rfl fun _ _ => ?_
    exact retO [1000, 1001, 1002] rfl rfl rfl rfl
set_option maxRecDepth 10000 in
theorem t59m {po : Option Prog} {p : C} (hp : PC po p) (q0 : Prog) (bs : List UInt8) (l : List Impl) (enc : Impl → List UInt8) (hc : ∀ x ∈ l, ∀ s : List UInt8, (s ++ enc x).length ≤ 2 ^ 46 → CallsT P 62 [.agg (implC x), .own 1002 0, .pt (progC q0) 0] (WrC p s) (Ret (WrC p (s ++ enc x)) (.tup [])))
    (hb : (bs ++ encL enc l).length ≤ 2 ^ 46) : CallsT P 59 [.own 1000 0, .sl (l.map implC), .fn 62 [] [.own 1002 0, .pt (progC q0) 0]] (WrC p bs) (Ret (WrC p (bs ++ encL enc l)) (.tup [])) := by
  refine callsT_facts Try.func59 facts59 rfl fun hw _ => ?_
  have hn : l.length ≤ 9223372036854775807 := by have := wf_len hw.2.1; simpa [ics] using this
  have hp' := hp
  cases hp
  all_goals
    refine callO [1000, 1001] [1000, 1001] (t55 hp' bs [((l.map implC).length : Int)] ?_) rfl rfl rfl rfl rfl fun _ _ => ?_
    · simp only [encL, List.length_append, List.length_map, List.length_map, encIs, List.flatMap_cons, List.flatMap_nil, List.append_nil] at hb ⊢; omega
    refine loopN l.length 15 [] (bs ++ encI l.length) (fun _ => []) (fun s => WrCL _ s) (fun k s => s ++ (l.drop k).flatMap enc = bs ++ encL enc l) (by simp [encL]) (same_keys rfl) trivial ⟨.inl ⟨_, rfl, .inl ⟨rfl, rfl⟩⟩, .inl ⟨_, rfl, .inl ⟨?_, rfl⟩⟩, .inl ⟨_, rfl, .inl ⟨rfl, rfl⟩⟩, trivial⟩ (fun _ => rfl) (fun _ => rfl) ?_
    · show TO.row 5 1 (bcells (bs ++ encIs [((l.map implC).length : Int)])) = _
      simp [encIs, ics]
    rintro k s hk hinv _ _ _
    refine brn_p (fun hlt => ?_) (fun hge => ?_)
    · have hlt : k < l.length := by simpa [ics] using hlt
      obtain ⟨x, hx, hd⟩ := drop_cons hlt
      rw [hd, List.flatMap_cons] at hinv
      have hsz : (s ++ enc x).length ≤ 2 ^ 46 := by
        rw [← hinv] at hb
        simp only [List.length_append] at hb ⊢
        omega
      refine idxT hx rfl rfl ?_
      refine callO [1000, 1001, 1002] [1000, 1001, 1002] (hc x (List.mem_of_getElem? hx) s hsz) rfl rfl rfl rfl rfl fun _ _ => ?_
      refine Fit.in64 (by omega) (by omega) ?_
      exact ⟨(k + 1, s ++ enc x), ⟨hlt, by rw [← hinv]; simp⟩, ⟨nextI, trivial⟩, ⟨.inl ⟨_, rfl, .inl ⟨rfl, rfl⟩⟩, .inl ⟨_, rfl, .inl ⟨rfl, rfl⟩⟩, .inl ⟨_, rfl, .inl ⟨rfl, rfl⟩⟩, trivial⟩, nextM hlt⟩
    · have hge : ¬ k < l.length := by simpa [ics] using hge
      rw [drop_end hge] at hinv
      refine retO [1000, 1001, 1002] rfl rfl ?_ rfl
      simp only [List.flatMap_nil, List.append_nil] at hinv
      subst hinv
      rfl

def fnameOf (q : Prog) (i : Int) : ByteArray := ((elem q.funcs i).getD zeroF).name
def encImpl (q : Prog) (x : Impl) : List UInt8 := encTrait (some q) x.trait ++ (encIs [x.params] ++ (encL (encBound (some q)) x.bounds ++ (encTy (some q) x.type ++ encSs [fnameOf q x.func])))
theorem t62 (q : Prog) (x : Impl) (bs : List UInt8) (hb : (bs ++ encImpl q x).length ≤ 2 ^ 46) : CallsT P 62 [.agg (implC x), .own 1002 0, .pt (progC q) 0] (WrC (.pt (progC q) 0) bs) (Ret (WrC (.pt (progC q) 0) (bs ++ encImpl q x)) (.tup [])) := by
  have e : bs ++ encImpl q x = bs ++ encTrait (some q) x.trait ++ encIs [x.params] ++ encL (encBound (some q)) x.bounds ++ encTy (some q) x.type ++ encSs [fnameOf q x.func] := by simp [encImpl]
  rw [e] at hb ⊢
  have h45 : ∀ (x : Ty) (s : List UInt8), (s ++ encTy (some q) x).length ≤ 2 ^ 46 → CallsT P 45 [.own 1000 0, .agg (tyC x)] (Wr (.pt (progC q) 0) s) (Ret (Wr (.pt (progC q) 0) (s ++ encTy (some q) x)) (.tup [])) := fun x s hs => t45 (.prog q) x s hs
  have h63 := t63 (.prog q) bs x.trait
  have h65 := t65 q.funcs x.func
  obtain ⟨b, h65⟩ := h65
  unfold fnameOf at hb ⊢
  generalize (elem q.funcs x.func).getD zeroF = f0 at h65 hb ⊢
  generalize encTy (some q) = E at h45 hb ⊢
  generalize encTrait (some q) x.trait = TR at h63 hb ⊢
  have hres : (C.agg [IC x.type.kind, IC x.type.id, .sl (x.type.args.map tyC)]) = .agg (tyC x.type) := by rw [tyC_eq]
  refine callsT_facts Try.func62 facts62 rfl fun hw _ => ?_
  refine callO [1000, 1001] [1000, 1001] (h63 (by simp only [List.length_append] at hb ⊢; omega)) rfl rfl rfl rfl rfl fun _ _ => ?_
  refine callO [1000, 1001] [1000, 1001] (t55 (.prog q) _ [x.params] (by simp only [List.length_append] at hb ⊢; omega)) rfl rfl rfl rfl rfl fun _ _ => ?_
  refine callO [1000, 1001] [1000, 1001] (t64 (.prog q) _ x.bounds (by simp only [List.length_append] at hb ⊢; omega)) rfl rfl rfl rfl rfl fun _ _ => ?_
  refine callO [1000, 1001] [1000, 1001] (h45 x.type _ (by simp only [List.length_append] at hb ⊢; omega)) rfl rfl (congrArg (fun z => [C.own 1000 0, z]) hres) rfl rfl fun _ _ => ?_
  refine callP h65 rfl fun _ => ?_
  refine callO [1000, 1001] [1000, 1001] (t50 (.prog q) _ [f0.name] hb) rfl rfl rfl rfl rfl fun _ _ => ?_
  exact retO [1000, 1001, 1002] rfl rfl rfl rfl
def encModule (q : Prog) (name : ByteArray) (m : Int) : List UInt8 := encSs [name] ++ (encL (encData (some q)) (q.datas.filter fun x => decide (x.module = m)) ++ (encL (encImpl q) (q.impls.filter fun x => decide (x.module = m)) ++ encL (encSig (some q)) (q.funcs.filter fun x => decide (x.module = m))))
def WrM (q : Prog) (bs : List UInt8) (name : ByteArray) : List TO := [.box 114 [.rw 1001, .pt (progC q) 0], .row 5 1 (bcells bs), .box 9 [.str name]]
set_option maxRecDepth 10000 in
theorem t49 (q : Prog) (name : ByteArray) (m : Int) (bs : List UInt8) (hb : (bs ++ encModule q name m).length ≤ 2 ^ 46) (h1 : q.datas.length ≤ 2 ^ 30) (h2 : q.impls.length ≤ 2 ^ 30) (h3 : q.funcs.length ≤ 2 ^ 30) :
    CallsT P 49 [.own 1000 0, .own 1002 0, .pt (progC q) 0, .pt [IC m] 0] (WrM q bs name) (Ret (WrM q (bs ++ encModule q name m) name) (.tup [])) := by
  have e : bs ++ encModule q name m = bs ++ encSs [name] ++ encL (encData (some q)) (q.datas.filter fun x => decide (x.module = m)) ++ encL (encImpl q) (q.impls.filter fun x => decide (x.module = m)) ++ encL (encSig (some q)) (q.funcs.filter fun x => decide (x.module = m)) := by simp [encModule]
  rw [e] at hb ⊢
  have h54 : ∀ (x : Api.Data) (s : List UInt8), (s ++ encData (some q) x).length ≤ 2 ^ 46 → CallsT P 54 [.agg (dataC x), .own 1002 0] (WrC (.pt (progC q) 0) s) (Ret (WrC (.pt (progC q) 0) (s ++ encData (some q) x)) (.tup [])) := fun x s hs => t54 (.prog q) x s hs
  have h62 : ∀ (x : Impl) (s : List UInt8), (s ++ encImpl q x).length ≤ 2 ^ 46 → CallsT P 62 [.agg (implC x), .own 1002 0, .pt (progC q) 0] (WrC (.pt (progC q) 0) s) (Ret (WrC (.pt (progC q) 0) (s ++ encImpl q x)) (.tup [])) := fun x s hs => t62 q x s hs
  have h34 : ∀ (x : Fun) (s : List UInt8), (s ++ encSig (some q) x).length ≤ 2 ^ 46 → CallsT P 34 [.own 1000 0, .agg (funC x)] (Wr (.pt (progC q) 0) s) (Ret (Wr (.pt (progC q) 0) (s ++ encSig (some q) x)) (.tup [])) := fun x s hs => t34 (.prog q) x s hs
  generalize encData (some q) = E1 at h54 hb ⊢
  generalize encImpl q = E2 at h62 hb ⊢
  generalize encSig (some q) = E3 at h34 hb ⊢
  have g1 := t52 q.datas m h1
  have g2 := t60 q.impls m h2
  have g3 := t67 q.funcs m h3
  generalize (q.datas.filter fun x => decide (x.module = m)) = l1 at g1 hb ⊢
  generalize (q.impls.filter fun x => decide (x.module = m)) = l2 at g2 hb ⊢
  generalize (q.funcs.filter fun x => decide (x.module = m)) = l3 at g3 hb ⊢
  refine callsT_facts Try.func49 facts49 rfl fun hw _ => ?_
  refine callO [1000, 1001] [1000, 1001] (t50 (.prog q) bs [name] (by simp only [List.length_append] at hb ⊢; omega)) rfl rfl rfl rfl rfl fun _ _ => ?_
  refine callPD g1 rfl fun _ => ?_
  refine callOD [1000, 1001, 4] [1000, 1001, 4] (t51 (.prog q) _ l1 E1 (fun x _ s hs => h54 x s hs) (by simp only [List.length_append] at hb ⊢; omega)) rfl rfl rfl rfl rfl fun _ _ => ?_
  refine callPD g2 rfl fun _ => ?_
  refine callOD [1000, 1001, 4] [1000, 1001, 4] (t59m (.prog q) q _ l2 E2 (fun x _ s hs => h62 x s hs) (by simp only [List.length_append] at hb ⊢; omega)) rfl rfl rfl rfl rfl fun _ _ => ?_
  refine callPD g3 rfl fun _ => ?_
  refine callOD [1000, 1001] [1000, 1001] (t66 (.prog q) _ l3 E3 (fun x _ s hs => h34 x s hs) hb) rfl rfl rfl rfl rfl fun _ _ => ?_
  exact retO [1000, 1001, 1002] rfl rfl rfl rfl
theorem t32_49 (q : Prog) (name : ByteArray) (m : Int) (hb : (encModule q name m).length ≤ 2 ^ 46) (h1 : q.datas.length ≤ 2 ^ 30) (h2 : q.impls.length ≤ 2 ^ 30) (h3 : q.funcs.length ≤ 2 ^ 30) :
    CallsT P 32 [.pt (progC q) 0, .fn 49 [] [.own 1000 0, .pt (progC q) 0, .pt [IC m] 0]] [.box 9 [.str name]] (Ret [.box 9 [.str name], .row 5 1 (bcells (encModule q name m))] (.rw 1001)) := by
  have h := t49 q name m [] hb h1 h2 h3
  generalize encModule q name m = code at h ⊢
  refine callsT_facts Try.func32 facts32 rfl fun hw _ => ?_
  refine callG [(8, .box 114 [.rw 2000, .pt (progC q) 0]), (1000, .box 9 [.str name]), (2000, .row 5 1 [])] [8, 2000, 1000] [8, 2000, 1000] h
    ⟨.inl ⟨_, rfl, .inr ⟨114, _, _, rfl, rfl, _, _, rfl, .inr (.inr (.inr (.inl ⟨rfl, 2000, 5, 1, rfl, rfl, rfl⟩))), _, _, rfl, .inr (.inl ⟨rfl, rfl⟩), rfl⟩⟩, .inl ⟨_, rfl, .inl ⟨rfl, rfl⟩⟩, .inr ⟨rfl, 5, 1, rfl⟩, trivial⟩
    rfl rfl rfl rfl rfl fun _ _ => ?_
  exact retO [1000, 2000] rfl rfl rfl rfl
def digM (q : Prog) (m : Int) : Int := match elem q.modules m with | none => 0 | some name => foldN (bytesN (encModule q name m))
theorem t22 (q : Prog) (m : Int) (hb : ∀ name, elem q.modules m = some name → (encModule q name m).length ≤ 2 ^ 46) (h1 : q.datas.length ≤ 2 ^ 30) (h2 : q.impls.length ≤ 2 ^ 30) (h3 : q.funcs.length ≤ 2 ^ 30) :
    CallsT P 22 [.agg (progC q), IC m] [] (Ret [] (.int .i64 (digM q m))) := by
  unfold digM
  cases hn : elem q.modules m with
  | none =>
    have h := t48n q.modules m hn
    refine callsT_facts Try.func22 facts22 rfl fun hw _ => ?_
    refine callP h rfl fun _ => ?_
    exact retP rfl rfl
  | some name =>
    have h := t48s q.modules m name hn
    have h32 := t32_49 q name m (hb name hn) h1 h2 h3
    simp only []
    generalize encModule q name m = code at h32 ⊢
    refine callsT_facts Try.func22 facts22 rfl fun hw _ => ?_
    refine callP h rfl fun _ => ?_
    refine callO [5] [5, 17] h32 rfl rfl rfl rfl rfl fun _ _ => ?_
    refine callF [17] [] [] (t15 code) ⟨[], rfl, rfl, rfl, rfl, rfl, fun _ _ => ?_⟩
    exact retP rfl rfl
end Go.Fr.Try
