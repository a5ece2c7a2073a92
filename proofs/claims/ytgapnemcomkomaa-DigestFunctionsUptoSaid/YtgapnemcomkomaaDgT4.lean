/- Digest: texts, elements, types. -/
import Derived.Test.YtgapnemcomkomaaDgT3
set_option linter.unusedVariables false
set_option linter.unusedSimpArgs false
namespace Go.Fr.Try
open Go Go.RowKit Go.Proofs Go.Fr Go.Fr.T Go.Fr.Api

theorem appS1 {bs : List UInt8} {s : ByteArray} {K : Prop} (h : bs.length + s.size ≤ 2 ^ 46) (k : K) : AppT (bcells bs) (bcells s.data.toList) 1 1 K := by
  have hl : (bcells s.data.toList).length = s.size := by simp [bcells]
  exact ⟨bcells_sz, by rw [bcells_len, hl]; simp [maxLen]; omega, by rw [bcells_len, hl]; simp; omega, k⟩
theorem size_toList (s : ByteArray) : s.data.toList.length = s.size := by simp

set_option maxRecDepth 10000 in
theorem t50 {po : Option Prog} {p : C} (hp : PC po p) (bs : List UInt8) (l : List ByteArray) (hb : (bs ++ encSs l).length ≤ 2 ^ 46) : CallsT P 50 [.own 1000 0, .sl (scs l)] (Wr p bs) (Ret (Wr p (bs ++ encSs l)) (.tup [])) := by
  refine callsT_facts Try.func50 facts50 rfl fun hw _ => ?_
  have hn : l.length ≤ 9223372036854775807 := by have := wf_len hw.2.1; simpa [scs] using this
  have hp' := hp
  cases hp
  all_goals
    refine loopN l.length 8 [] bs (fun _ => []) (fun s => WrL _ s) (fun k s => s ++ encSs (l.drop k) = bs ++ encSs l) rfl (same_keys rfl) trivial ⟨.inl ⟨_, rfl, .inl ⟨rfl, rfl⟩⟩, .inl ⟨_, rfl, .inl ⟨rfl, rfl⟩⟩, trivial⟩ (fun _ => rfl) (fun _ => rfl) ?_
    rintro k s hk hinv _ _ _
    refine brn_p (fun hlt => ?_) (fun hge => ?_)
    · have hlt : k < l.length := by simpa [scs] using hlt
      obtain ⟨x, hx, hd⟩ := drop_cons hlt
      rw [hd] at hinv
      have hsz : s.length + (encI x.size).length + x.size ≤ 2 ^ 46 := by
        rw [← hinv] at hb
        simp only [encSs, List.flatMap_cons, encS, List.length_append, size_toList] at hb
        omega
      refine idxS hx ?_
      refine callO [1000, 1001] [1000, 1001] (t55 hp' s [(x.size : Int)] ?_) rfl rfl rfl rfl rfl fun _ _ => ?_
      · simp only [encIs, List.flatMap_cons, List.flatMap_nil, List.append_nil, List.length_append]; omega
      refine appS1 ?_ ?_
      · simp only [encIs, List.flatMap_cons, List.flatMap_nil, List.append_nil, List.length_append]; omega
      refine Fit.in64 (by omega) (by omega) ?_
      refine ⟨(k + 1, s ++ encS x), ⟨hlt, by rw [← hinv]; simp [encSs]⟩, ⟨nextI, trivial⟩, ⟨.inl ⟨_, rfl, .inl ⟨rfl, rfl⟩⟩, .inl ⟨_, rfl, .inl ⟨?_, rfl⟩⟩, trivial⟩, nextM hlt⟩
      refine congrArg (TO.row 5 1) ?_
      simp [encS, encIs, bcells]
    · have hge : ¬ k < l.length := by simpa [scs] using hge
      rw [drop_end hge] at hinv
      refine retO [1000, 1001] rfl rfl ?_ rfl
      simp only [encSs, List.flatMap_nil, List.append_nil] at hinv
      subst hinv
      rfl

def elem {α : Type} (l : List α) (i : Int) : Option α := if i < 0 then none else l[i.toNat]?
theorem elem_some {α : Type} {l : List α} {i : Int} {x : α} (h : elem l i = some x) : ¬ i < 0 ∧ ¬ (l.length : Int) ≤ i ∧ l[i.toNat]? = some x := by
  unfold elem at h
  split at h
  · cases h
  · have := (List.getElem?_eq_some_iff.1 h).1
    exact ⟨by assumption, by omega, h⟩
theorem elem_none {α : Type} {l : List α} {i : Int} (h : elem l i = none) : i < 0 ∨ (¬ i < 0 ∧ (l.length : Int) ≤ i) := by
  unfold elem at h
  split at h
  · exact .inl (by assumption)
  · have := List.getElem?_eq_none_iff.1 h
    exact .inr ⟨by assumption, by omega⟩
theorem idxE {α : Type} {f : α → List C} {l : List α} {i : Int} {sz : Nat} {x : α} {es : List C} {K : List C → Prop} (h0 : ¬ i < 0) (hx : l[i.toNat]? = some x) (he : f x = es) (hl : lenC? es sz = true) (h : K es) : IdxT (l.map f) i sz K :=
  ⟨es, by omega, by simp [hx, he], hl, h⟩
theorem t48s (l : List ByteArray) (i : Int) (s : ByteArray) (h : elem l i = some s) : CallsT P 48 [.sl (scs l), IC i] [] (Ret [] (.tup [.str s, .bool true])) := by
  refine callsT_facts Try.func48 facts48 rfl fun hw _ => ?_
  obtain ⟨h1, h2, h3⟩ := elem_some h
  refine brn_p (fun h => absurd h h1) (fun _ => ?_)
  refine brn_p (fun h => absurd h (by simpa [scs] using h2)) (fun _ => ?_)
  refine idxE h1 h3 rfl rfl ?_
  exact retP rfl rfl
theorem t48n (l : List ByteArray) (i : Int) (h : elem l i = none) : CallsT P 48 [.sl (scs l), IC i] [] (Ret [] (.tup [.str ⟨#[]⟩, .bool false])) := by
  refine callsT_facts Try.func48 facts48 rfl fun hw _ => ?_
  rcases elem_none h with h1 | ⟨h1, h2⟩
  · refine brn_p (fun _ => ?_) (fun h => absurd h1 h)
    exact retP rfl rfl
  · refine brn_p (fun h => absurd h h1) (fun _ => ?_)
    refine brn_p (fun _ => ?_) (fun h => absurd (by simpa [scs] using h2) h)
    exact retP rfl rfl
def zeroD : Api.Data := ⟨⟨#[]⟩, 0, 0, [], 0⟩
theorem t89s (l : List Api.Data) (i : Int) (s : Api.Data) (h : elem l i = some s) : CallsT P 89 [.sl (l.map dataC), IC i] [] (Ret [] (.tup [.agg (dataC s), .bool true])) := by
  refine callsT_facts Try.func89 facts89 rfl fun hw _ => ?_
  obtain ⟨h1, h2, h3⟩ := elem_some h
  refine brn_p (fun h => absurd h h1) (fun _ => ?_)
  refine brn_p (fun h => absurd h (by simpa using h2)) (fun _ => ?_)
  refine idxE h1 h3 rfl rfl ?_
  exact retP rfl rfl
theorem t89n (l : List Api.Data) (i : Int) (h : elem l i = none) : CallsT P 89 [.sl (l.map dataC), IC i] [] (Ret [] (.tup [.agg (dataC zeroD), .bool false])) := by
  refine callsT_facts Try.func89 facts89 rfl fun hw _ => ?_
  rcases elem_none h with h1 | ⟨h1, h2⟩
  · refine brn_p (fun _ => ?_) (fun h => absurd h1 h)
    exact retP rfl rfl
  · refine brn_p (fun h => absurd h h1) (fun _ => ?_)
    refine brn_p (fun _ => ?_) (fun h => absurd (by simpa using h2) h)
    exact retP rfl rfl

def nm (l : List ByteArray) (i : Int) : ByteArray := (elem l i).getD ⟨#[]⟩
def encName (po : Option Prog) (k i : Int) : Option (List UInt8) :=
  match po with
  | none => none
  | some q => if k = 2 then (elem q.datas i).map fun d => encSs [nm q.modules d.module, d.name] else none
mutual
def encTy (po : Option Prog) : Ty → List UInt8
  | .mk k i l => encI k ++ ((encName po k i).getD (encI i) ++ (encI l.length ++ encTys po l))
def encTys (po : Option Prog) : List Ty → List UInt8
  | [] => []
  | t :: l => encTy po t ++ encTys po l
end
theorem encTys_flat (po : Option Prog) : ∀ l : List Ty, encTys po l = l.flatMap (encTy po)
  | [] => rfl
  | t :: l => by simp only [encTys, List.flatMap_cons, encTys_flat po l]
theorem encTy_eq (po : Option Prog) (t : Ty) : encTy po t = encI t.kind ++ ((encName po t.kind t.id).getD (encI t.id) ++ encL (encTy po) t.args) := by
  cases t
  simp only [encTy, encL, encTys_flat, Ty.kind, Ty.id, Ty.args]

theorem t48 (l : List ByteArray) (i : Int) : ∃ b, CallsT P 48 [.sl (scs l), IC i] [] (Ret [] (.tup [.str (nm l i), .bool b])) := by
  unfold nm
  cases h : elem l i with
  | some s => exact ⟨_, t48s l i s h⟩
  | none => exact ⟨_, t48n l i h⟩
end Go.Fr.Try
