/- Part of the proofs of the statements of this seat. -/
import Derived.Test.YtgapnemcomkomaaDgT3G
/- Digest: texts, elements, types. -/
set_option linter.unusedVariables false
set_option linter.unusedSimpArgs false
namespace Go.Fr.Try
open Go Go.RowKit Go.Proofs Go.Fr Go.Fr.T Go.Fr.Api

theorem appS1 {bs : List UInt8} {s : ByteArray} {K : Prop} (h : bs.length + s.size ≤ 2 ^ 46) (k : K) : AppT (bcells bs) (bcells s.data.toList) 1 1 K := by
  have hl : (bcells s.data.toList).length = s.size := by simp [bcells]
  exact ⟨bcells_sz, by rw [bcells_len, hl]; simp [maxLen]; omega, by rw [bcells_len, hl]; simp; omega, k⟩
theorem size_toList (s : ByteArray) : s.data.toList.length = s.size := by simp

set_option maxRecDepth 10000 in
theorem t50 {po : Option Prog} {p : C} (hp : PC po p) (bs : List UInt8) (l : List ByteArray) (hb : (bs ++ encSs l).length ≤ 2 ^ 46) : CallsT P 50 [.own 1000 0, .sl (scs l)] (Wr p bs) (Ret (Wr p (bs ++ encSs l)) (.tup [])) := by
  refine callsT_facts Try.func50 facts50 rfl fun hw _ => ?_
  have hn : l.length ≤ 9223372036854775807 := by have := wf_len hw.2.1; simpa [scs] using this
  have hp' := hp
  cases hp
  all_goals
    refine loopN l.length 8 [] bs (fun _ => []) (fun s => WrL _ s) (fun k s => s ++ encSs (l.drop k) = bs ++ encSs l) rfl (same_keys rfl) trivial ⟨.inl ⟨_, rfl, .inl ⟨rfl, rfl⟩⟩, .inl ⟨_, rfl, .inl ⟨rfl, rfl⟩⟩, trivial⟩ (fun _ => rfl) (fun _ => rfl) ?_
    rintro k s hk hinv _ _ _
    refine brn_p (fun hlt => ?_) (fun hge => ?_)
    · have hlt : k < l.length := by simpa [scs] using hlt
      obtain ⟨x, hx, hd⟩ := drop_cons hlt
      rw [hd] at hinv
      have hsz : s.length + (encI x.size).length + x.size ≤ 2 ^ 46 := by
        rw [← hinv] at hb
        simp only [encSs, List.flatMap_cons, encS, List.length_append, size_toList] at hb
        omega
      refine idxS hx ?_
      refine callO [1000, 1001] [1000, 1001] (t55 hp' s [(x.size : Int)] ?_) rfl rfl rfl rfl rfl fun _ _ => ?_
      · simp only [encIs, List.flatMap_cons, List.flatMap_nil, List.append_nil, List.length_append]; omega
      refine appS1 ?_ ?_
      · simp only [encIs, List.flatMap_cons, List.flatMap_nil, List.append_nil, List.length_append]; omega
      refine Fit.in64 (by omega) (by omega) ?_
      refine ⟨(k + 1, s ++ encS x), ⟨hlt, by rw [← hinv]; simp [encSs]⟩, ⟨nextI, trivial⟩, ⟨.inl ⟨_, rfl, .inl ⟨rfl, rfl⟩⟩, .inl ⟨_, rfl, .inl ⟨?_, rfl⟩⟩, trivial⟩, nextM hlt⟩
      refine congrArg (TO.row 5 1) ?_
      simp [encS, encIs, bcells]
    · have hge : ¬ k < l.length := by simpa [scs] using hge
      rw [drop_end hge] at hinv
      refine retO [1000, 1001] rfl rfl ?_ rfl
      simp only [encSs, List.flatMap_nil, List.append_nil] at hinv
      subst hinv
      rfl

def elem {α : Type} (l : List α) (i : Int) : Option α := if i < 0 then none else l[i.toNat]?
theorem elem_some {α : Type} {l : List α} {i : Int} {x : α} (h : elem l i = some x) : ¬ i < 0 ∧ ¬ (l.length : Int) ≤ i ∧ l[i.toNat]? = some x := by
  unfold elem at h
  split at h
  · cases h
  · have := (List.getElem?_eq_some_iff.1 h).1
    exact ⟨by assumption, by omega, h⟩
theorem elem_none {α : Type} {l : List α} {i : Int} (h : elem l i = none) : i < 0 ∨ (¬ i < 0 ∧ (l.length : Int) ≤ i) := by
  unfold elem at h
  split at h
  · exact .inl (by assumption)
  · have := List.getElem?_eq_none_iff.1 h
    exact .inr ⟨by assumption, by omega⟩
theorem idxE {α : Type} {f : α → List C} {l : List α} {i : Int} {sz : Nat} {x : α} {es : List C} {K : List C → Prop} (h0 : ¬ i < 0) (hx : l[i.toNat]? = some x) (he : f x = es) (hl : lenC? es sz = true) (h : K es) : IdxT (l.map f) i sz K :=
  ⟨es, by omega, by simp [hx, he], hl, h⟩
theorem t48s (l : List ByteArray) (i : Int) (s : ByteArray) (h : elem l i = some s) : CallsT P 48 [.sl (scs l), IC i] [] (Ret [] (.tup [.str s, .bool true])) := by
  refine callsT_facts Try.func48 facts48 rfl fun hw _ => ?_
  obtain ⟨h1, h2, h3⟩ := elem_some h
  refine brn_p (fun h => absurd h h1) (fun _ => ?_)
  refine brn_p (fun h => absurd h (by simpa [scs] using h2)) (fun _ => ?_)
  refine idxE h1 h3 rfl rfl ?_
  exact retP rfl rfl
theorem t48n (l : List ByteArray) (i : Int) (h : elem l i = none) : CallsT P 48 [.sl (scs l), IC i] [] (Ret [] (.tup [.str ⟨#[]⟩, .bool false])) := by
  refine callsT_facts Try.func48 facts48 rfl fun hw _ => ?_
  rcases elem_none h with h1 | ⟨h1, h2⟩
  · refine brn_p (fun _ => ?_) (fun h => absurd h1 h)
    exact retP rfl rfl
  · refine brn_p (fun h => absurd h h1) (fun _ => ?_)
    refine brn_p (fun _ => ?_) (fun h => absurd (by simpa [scs] using h2) h)
    exact retP rfl rfl
def zeroD : Api.Data := ⟨⟨#[]⟩, 0, 0, [], 0⟩
theorem t89s (l : List Api.Data) (i : Int) (s : Api.Data) (h : elem l i = some s) : CallsT P 89 [.sl (l.map dataC), IC i] [] (Ret [] (.tup [.agg (dataC s), .bool true])) := by
  refine callsT_facts Try.func89 facts89 rfl fun hw _ => ?_
  obtain ⟨h1, h2, h3⟩ := elem_some h
  refine brn_p (fun h => absurd h h1) (fun _ => ?_)
  refine brn_p (fun h => absurd h (by simpa using h2)) (fun _ => ?_)
  refine idxE h1 h3 rfl rfl ?_
  exact retP rfl rfl
theorem t89n (l : List Api.Data) (i : Int) (h : elem l i = none) : CallsT P 89 [.sl (l.map dataC), IC i] [] (Ret [] (.tup [.agg (dataC zeroD), .bool false])) := by
  refine callsT_facts Try.func89 facts89 rfl fun hw _ => ?_
  rcases elem_none h with h1 | ⟨h1, h2⟩
  · refine brn_p (fun _ => ?_) (fun h => absurd h1 h)
    exact retP rfl rfl
  · refine brn_p (fun h => absurd h h1) (fun _ => ?_)
    refine brn_p (fun _ => ?_) (fun h => absurd (by simpa using h2) h)
    exact retP rfl rfl

def nm (l : List ByteArray) (i : Int) : ByteArray := (elem l i).getD ⟨#[]⟩
def encName (po : Option Prog) (k i : Int) : Option (List UInt8) :=
  match po with
  | none => none
  | some q => if k = 2 then (elem q.datas i).map fun d => encSs [nm q.modules d.module, d.name] else none
mutual
def encTy (po : Option Prog) : Ty → List UInt8
  | .mk k i l => encI k ++ ((encName po k i).getD (encI i) ++ (encI l.length ++ encTys po l))
def encTys (po : Option Prog) : List Ty → List UInt8
  | [] => []
  | t :: l => encTy po t ++ encTys po l
end
theorem encTys_flat (po : Option Prog) : ∀ l : List Ty, encTys po l = l.flatMap (encTy po)
  | [] => rfl
  | t :: l => by simp only [encTys, List.flatMap_cons, encTys_flat po l]
theorem encTy_eq (po : Option Prog) (t : Ty) : encTy po t = encI t.kind ++ ((encName po t.kind t.id).getD (encI t.id) ++ encL (encTy po) t.args) := by
  cases t
  simp only [encTy, encL, encTys_flat, Ty.kind, Ty.id, Ty.args]

theorem t48 (l : List ByteArray) (i : Int) : ∃ b, CallsT P 48 [.sl (scs l), IC i] [] (Ret [] (.tup [.str (nm l i), .bool b])) := by
  unfold nm
  cases h : elem l i with
  | some s => exact ⟨_, t48s l i s h⟩
  | none => exact ⟨_, t48n l i h⟩
end Go.Fr.Try

/- Digest: named types. -/
set_option linter.unusedVariables false
set_option linter.unusedSimpArgs false
namespace Go.Fr.Try
open Go Go.RowKit Go.Proofs Go.Fr Go.Fr.T Go.Fr.Api

set_option maxRecDepth 10000 in
theorem t80 {po : Option Prog} {p : C} (hp : PC po p) (bs : List UInt8) (t : Ty) (hb : (bs ++ (encName po t.kind t.id).getD []).length ≤ 2 ^ 46) :
    CallsT P 80 [.own 1000 0, .agg (tyC t)] (Wr p bs) (Ret (Wr p (bs ++ (encName po t.kind t.id).getD [])) (.bool (encName po t.kind t.id).isSome)) := by
  rw [tyC_eq]
  have hp' := hp
  have none_case : ∀ (e : encName po t.kind t.id = none), p = .nilp ∨ (∃ q, po = some q ∧ p = .pt (progC q) 0 ∧ (¬ t.kind = 2 ∨ (t.kind = 2 ∧ elem q.datas t.id = none))) →
      CallsT P 80 [.own 1000 0, .agg [IC t.kind, IC t.id, .sl (t.args.map tyC)]] (Wr p bs) (Ret (Wr p bs) (.bool false)) := by
    rintro e (rfl | ⟨q, rfl, rfl, hk⟩)
    · refine callsT_facts Try.func80 facts80 rfl fun hw _ => ?_
      exact retO [1000, 1001] rfl rfl rfl rfl
    · refine callsT_facts Try.func80 facts80 rfl fun hw _ => ?_
      rcases hk with hk | ⟨hk, hd⟩
      · refine brn_split (fun h => ?_) (fun h => absurd (by simpa using h) hk)
        exact retO [1000, 1001] rfl rfl rfl rfl
      · refine brn_split (fun h => absurd hk (by simpa using h)) (fun h => ?_)
        refine callPD (t89n _ _ hd) rfl fun _ => ?_
        exact retO [1000, 1001] rfl rfl rfl rfl
  cases hp with
  | nil =>
    have := none_case rfl (.inl rfl)
    simpa [encName] using this
  | prog q =>
    by_cases hk : t.kind = 2
    · cases hd : elem q.datas t.id with
      | none =>
        have e : encName (some q) t.kind t.id = none := by simp [encName, hk, hd]
        have := none_case e (.inr ⟨q, rfl, rfl, .inr ⟨hk, hd⟩⟩)
        rw [e]
        simpa using this
      | some d =>
        have e : encName (some q) t.kind t.id = some (encSs [nm q.modules d.module, d.name]) := by simp [encName, hk, hd]
        rw [e] at hb ⊢
        have hx := t48 q.modules d.module
        obtain ⟨b, hm⟩ := hx
        refine callsT_facts Try.func80 facts80 rfl fun hw _ => ?_
        refine brn_split (fun h => absurd hk (by simpa using h)) (fun h => ?_)
        refine callPD (t89s _ _ d hd) rfl fun _ => ?_
        refine callPD hm rfl fun _ => ?_
        refine callO [1000, 1001] [1000, 1001] (t50 hp' bs [nm q.modules d.module, d.name] hb) rfl rfl rfl rfl rfl fun _ _ => ?_
        exact retO [1000, 1001] rfl rfl rfl rfl
    · have e : encName (some q) t.kind t.id = none := by simp [encName, hk]
      have := none_case e (.inr ⟨q, rfl, rfl, .inl hk⟩)
      rw [e]
      simpa using this
end Go.Fr.Try

/- Digest: types, signatures, functions (printed by dg6.py). -/
set_option linter.unusedVariables false
set_option linter.unusedSimpArgs false
namespace Go.Fr.Try
open Go Go.RowKit Go.Proofs Go.Fr Go.Fr.T Go.Fr.Api

def encTrait (po : Option Prog) (n : Int) : List UInt8 := match po with | none => encIs [n] | some q => encSs [nm q.traits n]
theorem t63 {po : Option Prog} {p : C} (hp : PC po p) (bs : List UInt8) (n : Int) (hb : (bs ++ encTrait po n).length ≤ 2 ^ 46) : CallsT P 63 [.own 1000 0, IC n] (Wr p bs) (Ret (Wr p (bs ++ encTrait po n)) (.tup [])) := by
  have hp' := hp
  cases hp with
  | nil =>
    refine callsT_facts Try.func63 facts63 rfl fun hw _ => ?_
    refine callO [1000, 1001] [1000, 1001] (t55 hp' bs [n] hb) rfl rfl rfl rfl rfl fun _ _ => ?_
    exact retO [1000, 1001] rfl rfl rfl rfl
  | prog q =>
    have hx := t48 q.traits n
    obtain ⟨b, hm⟩ := hx
    refine callsT_facts Try.func63 facts63 rfl fun hw _ => ?_
    refine callP hm rfl fun _ => ?_
    refine callO [1000, 1001] [1000, 1001] (t50 hp' bs [nm q.traits n] hb) rfl rfl rfl rfl rfl fun _ _ => ?_
    exact retO [1000, 1001] rfl rfl rfl rfl
def encBound (po : Option Prog) (b : Bound) : List UInt8 := encIs [b.param] ++ encTrait po b.trait
theorem t82 {po : Option Prog} {p : C} (hp : PC po p) (b : Bound) (bs : List UInt8) (hb : (bs ++ encBound po b).length ≤ 2 ^ 46) : CallsT P 82 [.agg (boundC b), .own 1002 0] (WrC p bs) (Ret (WrC p (bs ++ encBound po b)) (.tup [])) := by
  have e : bs ++ encBound po b = bs ++ encIs [b.param] ++ encTrait po b.trait := by simp [encBound]
  rw [e] at hb ⊢
  refine callsT_facts Try.func82 facts82 rfl fun hw _ => ?_
  have hp' := hp
  cases hp
  all_goals
    refine callO [1000, 1001] [1000, 1001] (t55 hp' bs [b.param] (by simp only [List.length_append] at hb ⊢; omega)) rfl rfl rfl rfl rfl fun _ _ => ?_
    refine callO [1000, 1001] [1000, 1001] (t63 hp' _ b.trait hb) rfl rfl rfl rfl rfl fun _ _ => ?_
    exact retO [1000, 1001, 1002] rfl rfl rfl rfl
theorem t64 {po : Option Prog} {p : C} (hp : PC po p) (bs : List UInt8) (l : List Bound) (hb : (bs ++ encL (encBound po) l).length ≤ 2 ^ 46) : CallsT P 64 [.own 1000 0, .sl (l.map boundC)] (Wr p bs) (Ret (Wr p (bs ++ encL (encBound po) l)) (.tup [])) := by
  refine callsT_facts Try.func64 facts64 rfl fun hw _ => ?_
  have hp' := hp
  cases hp
  all_goals
    refine callO [1000, 1001, 2] [1000, 1001, 2] (t81 hp' bs l (encBound _) (fun x _ s hs => t82 hp' x s hs) hb) rfl rfl rfl rfl rfl fun _ _ => ?_
    exact retO [1000, 1001] rfl rfl rfl rfl
theorem t88 {po : Option Prog} {p : C} (hp : PC po p) (n : Int) (bs : List UInt8) (hb : (bs ++ encI n).length ≤ 2 ^ 46) : CallsT P 88 [IC n, .own 1002 0] (WrC p bs) (Ret (WrC p (bs ++ encI n)) (.tup [])) := by
  have e : bs ++ encI n = bs ++ encIs [n] := by simp [encIs]
  rw [e] at hb ⊢
  refine callsT_facts Try.func88 facts88 rfl fun hw _ => ?_
  have hp' := hp
  cases hp
  all_goals
    refine callO [1000, 1001] [1000, 1001] (t55 hp' bs [n] hb) rfl rfl rfl rfl rfl fun _ _ => ?_
    exact retO [1000, 1001, 1002] rfl rfl rfl rfl
theorem t71 {po : Option Prog} {p : C} (hp : PC po p) (bs : List UInt8) (l : List Int) (hb : (bs ++ encL encI l).length ≤ 2 ^ 46) : CallsT P 71 [.own 1000 0, .sl (ics l)] (Wr p bs) (Ret (Wr p (bs ++ encL encI l)) (.tup [])) := by
  refine callsT_facts Try.func71 facts71 rfl fun hw _ => ?_
  have hp' := hp
  cases hp
  all_goals
    refine callO [1000, 1001, 2] [1000, 1001, 2] (t87 hp' bs l encI (fun x _ s hs => t88 hp' x s hs) hb) rfl rfl rfl rfl rfl fun _ _ => ?_
    exact retO [1000, 1001] rfl rfl rfl rfl
set_option maxRecDepth 10000 in
theorem t45 {po : Option Prog} {p : C} (hp : PC po p) : ∀ (t : Ty) (bs : List UInt8) (hb : (bs ++ encTy po t).length ≤ 2 ^ 46), CallsT P 45 [.own 1000 0, .agg (tyC t)] (Wr p bs) (Ret (Wr p (bs ++ encTy po t)) (.tup []))
  | .mk k i l, bs, hb => by
    have ih : ∀ x ∈ l, ∀ s : List UInt8, (s ++ encTy po x).length ≤ 2 ^ 46 → CallsT P 45 [.own 1000 0, .agg (tyC x)] (Wr p s) (Ret (Wr p (s ++ encTy po x)) (.tup [])) := fun x hx s hs => t45 hp x s hs
    have h80 := t80 hp (bs ++ encIs [k]) (.mk k i l)
    rw [tyC_eq] at h80 ⊢
    simp only [Ty.kind, Ty.id, Ty.args] at h80 ⊢
    cases hn : encName po k i with
    | none =>
      have e : bs ++ encTy po (.mk k i l) = bs ++ encIs [k] ++ encIs [i] ++ encL (encTy po) l := by rw [encTy_eq]; simp [encIs, Ty.kind, Ty.id, Ty.args, hn]
      rw [e] at hb ⊢
      rw [hn] at h80
      simp only [Option.getD_none, Option.isSome_none, List.append_nil] at h80
      generalize encTy po = E at ih hb ⊢
      refine callsT_facts Try.func45 facts45 rfl fun hw _ => ?_
      have hp' := hp
      cases hp
      all_goals
        refine callO [1000, 1001] [1000, 1001] (t55 hp' bs [k] (by simp only [List.length_append] at hb ⊢; omega)) rfl rfl rfl rfl rfl fun _ _ => ?_
        refine callO [1000, 1001] [1000, 1001] (h80 (by simp only [List.length_append] at hb ⊢; omega)) rfl rfl rfl rfl rfl fun _ _ => ?_
        refine callO [1000, 1001] [1000, 1001] (t55 hp' (bs ++ encIs [k]) [i] (by simp only [List.length_append] at hb ⊢; omega)) rfl rfl rfl rfl rfl fun _ _ => ?_
        refine callO [1000, 1001] [1000, 1001] (t58 hp' (bs ++ encIs [k] ++ encIs [i]) l E ih hb) rfl rfl rfl rfl rfl fun _ _ => ?_
        exact retO [1000, 1001] rfl rfl rfl rfl
    | some b =>
      have e : bs ++ encTy po (.mk k i l) = bs ++ encIs [k] ++ b ++ encL (encTy po) l := by rw [encTy_eq]; simp [encIs, Ty.kind, Ty.id, Ty.args, hn]
      rw [e] at hb ⊢
      rw [hn] at h80
      simp only [Option.getD_some, Option.isSome_some] at h80
      generalize encTy po = E at ih hb ⊢
      refine callsT_facts Try.func45 facts45 rfl fun hw _ => ?_
      have hp' := hp
      cases hp
      all_goals
        refine callO [1000, 1001] [1000, 1001] (t55 hp' bs [k] (by simp only [List.length_append] at hb ⊢; omega)) rfl rfl rfl rfl rfl fun _ _ => ?_
        refine callO [1000, 1001] [1000, 1001] (h80 (by simp only [List.length_append] at hb ⊢; omega)) rfl rfl rfl rfl rfl fun _ _ => ?_
        refine callO [1000, 1001] [1000, 1001] (t58 hp' (bs ++ encIs [k] ++ b) l E ih hb) rfl rfl rfl rfl rfl fun _ _ => ?_
        exact retO [1000, 1001] rfl rfl rfl rfl
termination_by t => SizeOf.sizeOf t
decreasing_by
  have := List.sizeOf_lt_of_mem hx
  simp only [Ty.mk.sizeOf_spec]
  omega
def mn (n : Nat) (a : Int) : Int := if (n : Int) < a then (n : Int) else a
def mx0 (m : Int) : Int := if m > 0 then m else 0
theorem mn_wf {n : Nat} {a : Int} (h1 : (Lit.int .i64 a).wf = true) (h2 : n ≤ 9223372036854775807) : (Lit.int .i64 (mn n a)).wf = true := by
  unfold mn
  split
  · exact (wf_iff _ _).2 ⟨by show (-9223372036854775808 : Int) ≤ _; omega, by show _ ≤ (9223372036854775807 : Int); omega⟩
  · exact h1
theorem mx0_wf {m : Int} (h1 : (Lit.int .i64 m).wf = true) : (Lit.int .i64 (mx0 m)).wf = true := by
  unfold mx0
  split
  · exact h1
  · rfl
theorem mx0_bd {n : Nat} {a : Int} : 0 ≤ mx0 (mn n a) ∧ mx0 (mn n a) ≤ n := by
  unfold mx0 mn
  constructor
  · split <;> omega
  · split <;> (try split) <;> omega
theorem mx0_eq (n : Nat) (a : Int) : (mx0 (mn n a)).toNat = (max 0 (min a n)).toNat := by
  unfold mx0 mn
  congr 1
  rw [Int.max_def, Int.min_def]
  split <;> split <;> split <;> (try split) <;> omega
def argsOf (f : Fun) : List Ty := f.locals.take (max 0 (min f.arity f.locals.length)).toNat
def encSig (po : Option Prog) (f : Fun) : List UInt8 := encSs [f.name] ++ (encIs [f.params] ++ (encL (encBound po) f.bounds ++ (encIs [f.arity] ++ (encL (encTy po) (argsOf f) ++ (encTy po f.result ++ encL encI f.ties)))))
theorem tyC_len (t : Ty) : (tyC t).length = 3 := by rw [tyC_eq]; rfl
set_option maxRecDepth 10000 in
theorem t34 {po : Option Prog} {p : C} (hp : PC po p) (f : Fun) (bs : List UInt8) (hb : (bs ++ encSig po f).length ≤ 2 ^ 46) : CallsT P 34 [.own 1000 0, .agg (funC f)] (Wr p bs) (Ret (Wr p (bs ++ encSig po f)) (.tup [])) := by
  have e : bs ++ encSig po f = bs ++ encSs [f.name] ++ encIs [f.params] ++ encL (encBound po) f.bounds ++ encIs [f.arity] ++ encL (encTy po) (argsOf f) ++ encTy po f.result ++ encL encI f.ties := by simp [encSig]
  rw [e] at hb ⊢
  have h45 : ∀ (x : Ty) (s : List UInt8), (s ++ encTy po x).length ≤ 2 ^ 46 → CallsT P 45 [.own 1000 0, .agg (tyC x)] (Wr p s) (Ret (Wr p (s ++ encTy po x)) (.tup [])) := fun x s hs => t45 hp x s hs
  generalize encTy po = E at h45 hb ⊢
  refine callsT_facts Try.func34 facts34 rfl fun hw _ => ?_
  have hwa : (Lit.int .i64 f.arity).wf = true := hw.2.1.2.2.2.2.1
  have hwl : Wf (.sl (f.locals.map tyC)) := hw.2.1.2.2.2.2.2.2.2.2.1
  have hn := wf_lenM hwl
  have hn' : (f.locals.map tyC).length ≤ 9223372036854775807 := by rw [List.length_map]; exact hn
  have hm1 := mn_wf hwa hn'
  have hm2 := mx0_wf hm1
  have hbd := mx0_bd (n := (f.locals.map tyC).length) (a := f.arity)
  have hsl : ((f.locals.map tyC).drop (Int.toNat 0)).take ((mx0 (mn (f.locals.map tyC).length f.arity)).toNat - Int.toNat 0) = (argsOf f).map tyC := by
    show ((f.locals.map tyC).drop 0).take ((mx0 (mn (f.locals.map tyC).length f.arity)).toNat - 0) = _
    rw [mx0_eq, argsOf, List.map_take, List.length_map]
    rfl
  have hsz : ∀ es ∈ f.locals.map tyC, es.length = 3 := by
    intro es he
    obtain ⟨t, _, rfl⟩ := List.mem_map.1 he
    exact tyC_len t
  have hres : (C.agg [IC f.result.kind, IC f.result.id, .sl (f.result.args.map tyC)]) = .agg (tyC f.result) := by rw [tyC_eq]
  have hp' := hp
  cases hp
  all_goals
    refine callO [1000, 1001] [1000, 1001] (t50 hp' bs [f.name] (by simp only [List.length_append] at hb ⊢; omega)) rfl rfl rfl rfl rfl fun _ _ => ?_
    refine callO [1000, 1001] [1000, 1001] (t55 hp' _ [f.params] (by simp only [List.length_append] at hb ⊢; omega)) rfl rfl rfl rfl rfl fun _ _ => ?_
    refine callO [1000, 1001] [1000, 1001] (t64 hp' _ f.bounds (by simp only [List.length_append] at hb ⊢; omega)) rfl rfl rfl rfl rfl fun _ _ => ?_
    refine callO [1000, 1001] [1000, 1001] (t55 hp' _ [f.arity] (by simp only [List.length_append] at hb ⊢; omega)) rfl rfl rfl rfl rfl fun _ _ => ?_
    refine ⟨hm1, ?_⟩
    refine ⟨hm2, ?_⟩
    refine SlcT.mk (Int.le_refl 0) hbd.1 hbd.2 hsz ?_
    refine callO [1000, 1001] [1000, 1001] (t58 hp' _ (argsOf f) E (fun x _ s hs => h45 x s hs) (by simp only [List.length_append] at hb ⊢; omega)) rfl rfl (congrArg (fun z => [C.own 1000 0, .sl z, .fn 45 [.own 1000 0] []]) hsl) rfl rfl fun _ _ => ?_
    refine callO [1000, 1001] [1000, 1001] (h45 f.result _ (by simp only [List.length_append] at hb ⊢; omega)) rfl rfl (congrArg (fun z => [C.own 1000 0, z]) hres) rfl rfl fun _ _ => ?_
    refine callO [1000, 1001] [1000, 1001] (t71 hp' _ f.ties hb) rfl rfl rfl rfl rfl fun _ _ => ?_
    exact retO [1000, 1001] rfl rfl rfl rfl
def encIns (po : Option Prog) (x : Ins) : List UInt8 := encIs [x.op, x.dst, x.a, x.b, x.n] ++ (encL encI x.args ++ encL (encTy po) x.types)
theorem t75 {po : Option Prog} {p : C} (hp : PC po p) (x : Ins) (bs : List UInt8) (hb : (bs ++ encIns po x).length ≤ 2 ^ 46) : CallsT P 75 [.agg (insC x), .own 1002 0] (WrC p bs) (Ret (WrC p (bs ++ encIns po x)) (.tup [])) := by
  have e : bs ++ encIns po x = bs ++ encIs [x.op, x.dst, x.a, x.b, x.n] ++ encL encI x.args ++ encL (encTy po) x.types := by simp [encIns]
  rw [e] at hb ⊢
  have h45 : ∀ (x : Ty) (s : List UInt8), (s ++ encTy po x).length ≤ 2 ^ 46 → CallsT P 45 [.own 1000 0, .agg (tyC x)] (Wr p s) (Ret (Wr p (s ++ encTy po x)) (.tup [])) := fun x s hs => t45 hp x s hs
  generalize encTy po = E at h45 hb ⊢
  refine callsT_facts Try.func75 facts75 rfl fun hw _ => ?_
  have hp' := hp
  cases hp
  all_goals
    refine callO [1000, 1001] [1000, 1001] (t55 hp' bs [x.op, x.dst, x.a, x.b, x.n] (by simp only [List.length_append] at hb ⊢; omega)) rfl rfl rfl rfl rfl fun _ _ => ?_
    refine callO [1000, 1001] [1000, 1001] (t71 hp' _ x.args (by simp only [List.length_append] at hb ⊢; omega)) rfl rfl rfl rfl rfl fun _ _ => ?_
    refine callO [1000, 1001] [1000, 1001] (t58 hp' _ x.types E (fun x _ s hs => h45 x s hs) hb) rfl rfl rfl rfl rfl fun _ _ => ?_
    exact retO [1000, 1001, 1002] rfl rfl rfl rfl
def encBlock (po : Option Prog) (b : Block) : List UInt8 := encL (encIns po) b.code ++ (encIs [b.fin.kind, b.fin.a] ++ encL encI b.fin.targets)
theorem t73 {po : Option Prog} {p : C} (hp : PC po p) (x : Block) (bs : List UInt8) (hb : (bs ++ encBlock po x).length ≤ 2 ^ 46) : CallsT P 73 [.agg (blockC x), .own 1002 0] (WrC p bs) (Ret (WrC p (bs ++ encBlock po x)) (.tup [])) := by
  have e : bs ++ encBlock po x = bs ++ encL (encIns po) x.code ++ encIs [x.fin.kind, x.fin.a] ++ encL encI x.fin.targets := by simp [encBlock]
  rw [e] at hb ⊢
  have h75 : ∀ (x : Ins) (s : List UInt8), (s ++ encIns po x).length ≤ 2 ^ 46 → CallsT P 75 [.agg (insC x), .own 1002 0] (WrC p s) (Ret (WrC p (s ++ encIns po x)) (.tup [])) := fun x s hs => t75 hp x s hs
  generalize encIns po = E at h75 hb ⊢
  refine callsT_facts Try.func73 facts73 rfl fun hw _ => ?_
  have hp' := hp
  cases hp
  all_goals
    refine callO [1000, 1001, 1002] [1000, 1001, 1002] (t74 hp' bs x.code E (fun x _ s hs => h75 x s hs) (by simp only [List.length_append] at hb ⊢; omega)) rfl rfl rfl rfl rfl fun _ _ => ?_
    refine callO [1000, 1001] [1000, 1001] (t55 hp' _ [x.fin.kind, x.fin.a] (by simp only [List.length_append] at hb ⊢; omega)) rfl rfl rfl rfl rfl fun _ _ => ?_
    refine callO [1000, 1001] [1000, 1001] (t71 hp' _ x.fin.targets hb) rfl rfl rfl rfl rfl fun _ _ => ?_
    exact retO [1000, 1001, 1002] rfl rfl rfl rfl
def encFun (po : Option Prog) (f : Fun) : List UInt8 := encSig po f ++ (encL (encTy po) f.locals ++ encL (encBlock po) f.blocks)
theorem t36 {po : Option Prog} {p : C} (hp : PC po p) (f : Fun) (bs : List UInt8) (hb : (bs ++ encFun po f).length ≤ 2 ^ 46) : CallsT P 36 [.own 1000 0, .agg (funC f)] (Wr p bs) (Ret (Wr p (bs ++ encFun po f)) (.tup [])) := by
  have e : bs ++ encFun po f = bs ++ encSig po f ++ encL (encTy po) f.locals ++ encL (encBlock po) f.blocks := by simp [encFun]
  rw [e] at hb ⊢
  have h45 : ∀ (x : Ty) (s : List UInt8), (s ++ encTy po x).length ≤ 2 ^ 46 → CallsT P 45 [.own 1000 0, .agg (tyC x)] (Wr p s) (Ret (Wr p (s ++ encTy po x)) (.tup [])) := fun x s hs => t45 hp x s hs
  have h73 : ∀ (x : Block) (s : List UInt8), (s ++ encBlock po x).length ≤ 2 ^ 46 → CallsT P 73 [.agg (blockC x), .own 1002 0] (WrC p s) (Ret (WrC p (s ++ encBlock po x)) (.tup [])) := fun x s hs => t73 hp x s hs
  generalize encTy po = E at h45 hb ⊢
  generalize encBlock po = B at h73 hb ⊢
  refine callsT_facts Try.func36 facts36 rfl fun hw _ => ?_
  have hp' := hp
  cases hp
  all_goals
    refine callO [1000, 1001] [1000, 1001] (t34 hp' f bs (by simp only [List.length_append] at hb ⊢; omega)) rfl rfl rfl rfl rfl fun _ _ => ?_
    refine callO [1000, 1001] [1000, 1001] (t58 hp' _ f.locals E (fun x _ s hs => h45 x s hs) (by simp only [List.length_append] at hb ⊢; omega)) rfl rfl rfl rfl rfl fun _ _ => ?_
    refine callO [1000, 1001, 2] [1000, 1001, 2] (t72 hp' _ f.blocks B (fun x _ s hs => h73 x s hs) hb) rfl rfl rfl rfl rfl fun _ _ => ?_
    exact retO [1000, 1001] rfl rfl rfl rfl
end Go.Fr.Try

/- Digest: whole functions, types, joins (printed by dg7.py). -/
set_option linter.unusedVariables false
set_option linter.unusedSimpArgs false
namespace Go.Fr.Try
open Go Go.RowKit Go.Proofs Go.Fr Go.Fr.T Go.Fr.Api

/-- the writer, and what a closure holds -/
def Wx33 (p : C) (bs : List UInt8) (x : Fun) : List TO := [.box 114 [.rw 1001, p], .row 5 1 (bcells bs), .box 30 (funC x)]
theorem t33 {po : Option Prog} {p : C} (hp : PC po p) (x : Fun) (bs : List UInt8) (hb : (bs ++ encSig po x).length ≤ 2 ^ 46) : CallsT P 33 [.own 1000 0, .own 1002 0] (Wx33 p bs x) (Ret (Wx33 p (bs ++ encSig po x) x) (.tup [])) := by
  have h := t34 hp x bs hb
  generalize encSig po x = code at h hb ⊢
  refine callsT_facts Try.func33 facts33 rfl fun hw _ => ?_
  have hp' := hp
  cases hp
  all_goals
    refine callO [1000, 1001] [1000, 1001] h rfl rfl rfl rfl rfl fun _ _ => ?_
    exact retO [1000, 1001, 1002] rfl rfl rfl rfl
theorem t32_33 (x : Fun) (hb : (encSig none x).length ≤ 2 ^ 46) : CallsT P 32 [.nilp, .fn 33 [] [.own 1000 0]] [.box 30 (funC x)] (Ret [.box 30 (funC x), .row 5 1 (bcells (encSig none x))] (.rw 1001)) := by
  have h := t33 .nil x [] hb
  generalize encSig none x = code at h ⊢
  refine callsT_facts Try.func32 facts32 rfl fun hw _ => ?_
  refine callG [(8, .box 114 [.rw 2000, .nilp]), (1000, .box 30 (funC x)), (2000, .row 5 1 [])] [8, 2000, 1000] [8, 2000, 1000] h
    ⟨.inl ⟨_, rfl, .inr ⟨114, _, _, rfl, rfl, _, _, rfl, .inr (.inr (.inr (.inl ⟨rfl, 2000, 5, 1, rfl, rfl, rfl⟩))), _, _, rfl, .inr (.inl ⟨rfl, rfl⟩), rfl⟩⟩, .inl ⟨_, rfl, .inl ⟨rfl, rfl⟩⟩, .inr ⟨rfl, 5, 1, rfl⟩, trivial⟩
    rfl rfl rfl rfl rfl fun _ _ => ?_
  exact retO [1000, 2000] rfl rfl rfl rfl
/-- the writer, and what a closure holds -/
def Wx35 (p : C) (bs : List UInt8) (x : Fun) : List TO := [.box 114 [.rw 1001, p], .row 5 1 (bcells bs), .box 30 (funC x)]
theorem t35 {po : Option Prog} {p : C} (hp : PC po p) (x : Fun) (bs : List UInt8) (hb : (bs ++ encFun po x).length ≤ 2 ^ 46) : CallsT P 35 [.own 1000 0, .own 1002 0] (Wx35 p bs x) (Ret (Wx35 p (bs ++ encFun po x) x) (.tup [])) := by
  have h := t36 hp x bs hb
  generalize encFun po x = code at h hb ⊢
  refine callsT_facts Try.func35 facts35 rfl fun hw _ => ?_
  have hp' := hp
  cases hp
  all_goals
    refine callO [1000, 1001] [1000, 1001] h rfl rfl rfl rfl rfl fun _ _ => ?_
    exact retO [1000, 1001, 1002] rfl rfl rfl rfl
theorem t32_35 (x : Fun) (hb : (encFun none x).length ≤ 2 ^ 46) : CallsT P 32 [.nilp, .fn 35 [] [.own 1000 0]] [.box 30 (funC x)] (Ret [.box 30 (funC x), .row 5 1 (bcells (encFun none x))] (.rw 1001)) := by
  have h := t35 .nil x [] hb
  generalize encFun none x = code at h ⊢
  refine callsT_facts Try.func32 facts32 rfl fun hw _ => ?_
  refine callG [(8, .box 114 [.rw 2000, .nilp]), (1000, .box 30 (funC x)), (2000, .row 5 1 [])] [8, 2000, 1000] [8, 2000, 1000] h
    ⟨.inl ⟨_, rfl, .inr ⟨114, _, _, rfl, rfl, _, _, rfl, .inr (.inr (.inr (.inl ⟨rfl, 2000, 5, 1, rfl, rfl, rfl⟩))), _, _, rfl, .inr (.inl ⟨rfl, rfl⟩), rfl⟩⟩, .inl ⟨_, rfl, .inl ⟨rfl, rfl⟩⟩, .inr ⟨rfl, 5, 1, rfl⟩, trivial⟩
    rfl rfl rfl rfl rfl fun _ _ => ?_
  exact retO [1000, 2000] rfl rfl rfl rfl
/-- the writer, and what a closure holds -/
def Wx44 (p : C) (bs : List UInt8) (x : Ty) : List TO := [.box 114 [.rw 1001, p], .row 5 1 (bcells bs), .box 26 (tyC x)]
theorem t44 {po : Option Prog} {p : C} (hp : PC po p) (x : Ty) (bs : List UInt8) (hb : (bs ++ encTy po x).length ≤ 2 ^ 46) : CallsT P 44 [.own 1000 0, .own 1002 0] (Wx44 p bs x) (Ret (Wx44 p (bs ++ encTy po x) x) (.tup [])) := by
  have h := t45 hp x bs hb
  generalize encTy po x = code at h hb ⊢
  rw [tyC_eq] at h
  unfold Wx44
  rw [tyC_eq]
  refine callsT_facts Try.func44 facts44 rfl fun hw _ => ?_
  have hp' := hp
  cases hp
  all_goals
    refine callO [1000, 1001] [1000, 1001] h rfl rfl rfl rfl rfl fun _ _ => ?_
    exact retO [1000, 1001, 1002] rfl rfl rfl rfl
theorem t32_44 (x : Ty) (hb : (encTy none x).length ≤ 2 ^ 46) : CallsT P 32 [.nilp, .fn 44 [] [.own 1000 0]] [.box 26 (tyC x)] (Ret [.box 26 (tyC x), .row 5 1 (bcells (encTy none x))] (.rw 1001)) := by
  have h := t44 .nil x [] hb
  generalize encTy none x = code at h ⊢
  unfold Wx44 at h
  rw [tyC_eq] at h ⊢
  refine callsT_facts Try.func32 facts32 rfl fun hw _ => ?_
  refine callG [(8, .box 114 [.rw 2000, .nilp]), (1000, .box 26 [IC x.kind, IC x.id, .sl (x.args.map tyC)]), (2000, .row 5 1 [])] [8, 2000, 1000] [8, 2000, 1000] h
    ⟨.inl ⟨_, rfl, .inr ⟨114, _, _, rfl, rfl, _, _, rfl, .inr (.inr (.inr (.inl ⟨rfl, 2000, 5, 1, rfl, rfl, rfl⟩))), _, _, rfl, .inr (.inl ⟨rfl, rfl⟩), rfl⟩⟩, .inl ⟨_, rfl, .inl ⟨rfl, rfl⟩⟩, .inr ⟨rfl, 5, 1, rfl⟩, trivial⟩
    rfl rfl rfl rfl rfl fun _ _ => ?_
  exact retO [1000, 2000] rfl rfl rfl rfl
theorem t13 (f : Fun) (hb : (encFun none f).length ≤ 2 ^ 46) : CallsT P 13 [.agg (funC f)] [] (Ret [] (.tup [.int .i64 (foldN (bytesN (encSig none f))), .int .i64 (foldN (bytesN (encFun none f)))])) := by
  have hs : (encSig none f).length ≤ 2 ^ 46 := by simp only [encFun, List.length_append] at hb; omega
  have h1 := t32_33 f hs
  have h2 := t32_35 f hb
  generalize encSig none f = c1 at h1 ⊢
  generalize encFun none f = c2 at h2 ⊢
  refine callsT_facts Try.func13 facts13 rfl fun hw _ => ?_
  refine callO [1] [1, 5] h1 rfl rfl rfl rfl rfl fun _ _ => ?_
  refine callF [5] [] [] (t15 c1) ⟨[], rfl, rfl, rfl, rfl, rfl, fun _ _ => ?_⟩
  refine callO [1] [1, 8] h2 rfl rfl rfl rfl rfl fun _ _ => ?_
  refine callF [8] [] [] (t15 c2) ⟨[], rfl, rfl, rfl, rfl, rfl, fun _ _ => ?_⟩
  exact retP rfl rfl
/-- the bytes of a type, given up -/
theorem t20 (t : Ty) (hb : (encTy none t).length ≤ 2 ^ 46) : CallsT P 20 [.agg (tyC t)] [] (Ret [] (.sl (bcells (encTy none t)))) := by
  have h := t32_44 t hb
  generalize encTy none t = code at h ⊢
  rw [tyC_eq] at h ⊢
  refine callsT_facts Try.func20 facts20 rfl fun hw _ => ?_
  refine callO [1] [1, 4] h rfl rfl rfl rfl rfl fun _ _ => ?_
  exact retF [4] [] ⟨_, [], rfl, rfl, rfl, rfl, rfl⟩
def modN (n : Int) : Int := (n.tmod 2147483647 + 2147483647).tmod 2147483647
theorem tmod_bd (n : Int) : -2147483647 < n.tmod 2147483647 ∧ n.tmod 2147483647 < 2147483647 := by
  have h1 := Int.lt_tmod_of_pos n (b := 2147483647) (by omega)
  have h2 := Int.tmod_lt_of_pos n (b := 2147483647) (by omega)
  omega
theorem modN_bd (n : Int) : 0 ≤ modN n ∧ modN n < 2147483647 := by
  have h := tmod_bd n
  unfold modN
  rw [Int.tmod_eq_emod_of_nonneg (by omega)]
  exact ⟨Int.emod_nonneg _ (by omega), Int.emod_lt_of_pos _ (by omega)⟩
theorem t42 (n : Int) : CallsT P 42 [IC n] [] (Ret [] (IC (modN n))) := by
  refine callsT_facts Try.func42 facts42 rfl fun hw _ => ?_
  have h := tmod_bd n
  refine NonZ.mk (by omega) ?_
  refine Fit.in64 (by omega) (by omega) ?_
  refine NonZ.mk (by omega) ?_
  exact retP rfl rfl
theorem t41 (l : List Int) : CallsT P 41 [.sl (ics l), .fn 42 [] []] [] (Ret [] (.int .i64 (foldN (l.map modN)))) := by
  refine callsT_facts Try.func41 facts41 rfl fun hw _ => ?_
  have hn : l.length ≤ 9223372036854775807 := by have := wf_len hw.1; simpa [ics] using this
  refine loopN l.length 10 [5] 7 (fun h => [.int .i64 h]) (fun _ => []) (fun k h => 0 ≤ h ∧ h < 2147483647 ∧ ((l.drop k).map modN).foldl stepN h = foldN (l.map modN)) ⟨by omega, by omega, rfl⟩
    (same_keys rfl) ⟨same_keys rfl, trivial⟩ trivial (fun _ => rfl) (fun _ => rfl) ?_
  rintro k h hk ⟨h0, h1, hf⟩ hw1 _ hk64
  refine brn_p (fun hlt => ?_) (fun hge => ?_)
  · have hlt : k < l.length := by simpa [ics] using hlt
    obtain ⟨x, hx, hd⟩ := drop_cons hlt
    rw [hd] at hf
    obtain ⟨m1, m2⟩ := modN_bd x
    obtain ⟨g1, g2⟩ := stepN_bd (x := modN x) h0 m1
    refine idxI hx ?_
    refine Fit.in64 (by omega) (by omega) ?_
    refine callP (t42 x) rfl fun _ => ?_
    refine Fit.in64 (by omega) (by omega) ?_
    refine Fit.in64 (by omega) (by omega) ?_
    refine NonZ.mk (by omega) ?_
    refine Fit.in64 (by omega) (by omega) ?_
    exact ⟨(k + 1, stepN h (modN x)), ⟨hlt, g1, g2, hf⟩, ⟨nextI, same_keys rfl, trivial⟩, trivial, nextM hlt⟩
  · have hge : ¬ k < l.length := by simpa [ics] using hge
    rw [drop_end hge] at hf
    exact retP rfl (congrArg (C.int .i64) hf)
theorem t17 (l : List Int) : CallsT P 17 [.sl (ics l)] [] (Ret [] (.int .i64 (foldN (l.map modN)))) := by
  refine callsT_facts Try.func17 facts17 rfl fun hw _ => ?_
  exact callP (t41 l) rfl fun _ => retP rfl rfl
theorem t53 (x : Api.Data) : CallsT P 53 [.agg (dataC x)] [] (Ret [] (IC x.module)) := by
  refine callsT_facts Try.func53 facts53 rfl fun hw _ => ?_
  exact retP rfl rfl
set_option maxRecDepth 10000 in
theorem t52 (l : List Api.Data) (m : Int) (hl : l.length ≤ 2 ^ 30) : CallsT P 52 [.sl (l.map dataC), IC m, .fn 53 [] []] [] (Ret [] (.sl ((l.filter fun x => decide (x.module = m)).map dataC))) := by
  refine callsT_facts Try.func52 facts52 rfl fun hw _ => ?_
  refine loopN l.length 12 [7] [] (fun _ => [.rw 7]) (fun s => [(7, .row 58 5 (s.map dataC))]) (fun k s => s.length ≤ k ∧ s ++ (l.drop k).filter (fun x => decide (x.module = m)) = l.filter fun x => decide (x.module = m)) ⟨Nat.le_refl _, by simp⟩
    (same_keys rfl) ⟨.inr (.inr (.inr (.inl ⟨rfl, 7, 58, 5, rfl, rfl, rfl⟩))), trivial⟩ ⟨.inr ⟨rfl, 58, 5, rfl⟩, trivial⟩ (fun _ => rfl) (fun _ => rfl) ?_
  rintro k s hk ⟨hsk, hinv⟩ _ _ _
  refine brn_p (fun hlt => ?_) (fun hge => ?_)
  · have hlt : k < l.length := by simpa using hlt
    obtain ⟨x, hx, hd⟩ := drop_cons hlt
    rw [hd] at hinv
    refine idxT hx rfl rfl ?_
    refine callP (t53 x) rfl fun _ => ?_
    refine brn_p (fun he => ?_) (fun he => ?_)
    · refine AppT.mk ?_ ?_ ?_ ?_
      · intro es h
        rcases List.mem_cons.1 h with rfl | h
        · rfl
        · cases h
      · show (s.map dataC).length + 1 ≤ maxLen
        rw [List.length_map]; simp only [maxLen]; omega
      · show ((s.map dataC).length + 1) * 64 ≤ _
        rw [List.length_map]; omega
      refine Fit.in64 (by omega) (by omega) ?_
      refine ⟨(k + 1, s ++ [x]), ⟨hlt, by simpa using hsk, ?_⟩, ⟨nextI, same_keys rfl, trivial⟩, ⟨.inl ⟨_, rfl, .inl ⟨?_, rfl⟩⟩, trivial⟩, nextM hlt⟩
      · rw [← hinv, List.filter_cons, if_pos (by simpa using he)]; simp
      · refine congrArg (TO.row 58 5) ?_
        rw [List.map_append]; rfl
    · refine Fit.in64 (by omega) (by omega) ?_
      refine ⟨(k + 1, s), ⟨hlt, by show s.length ≤ k + 1; omega, ?_⟩, ⟨nextI, same_keys rfl, trivial⟩, ⟨.inl ⟨_, rfl, .inl ⟨rfl, rfl⟩⟩, trivial⟩, nextM hlt⟩
      rw [← hinv, List.filter_cons, if_neg (by simpa using he)]
  · have hge : ¬ k < l.length := by simpa using hge
    rw [drop_end hge] at hinv
    refine retF [7] [] ⟨_, [], rfl, rfl, rfl, rfl, ?_⟩
    simp only [List.filter_nil, List.append_nil] at hinv
    subst hinv
    rfl
theorem t61 (x : Impl) : CallsT P 61 [.agg (implC x)] [] (Ret [] (IC x.module)) := by
  refine callsT_facts Try.func61 facts61 rfl fun hw _ => ?_
  exact retP rfl rfl
set_option maxRecDepth 10000 in
theorem t60 (l : List Impl) (m : Int) (hl : l.length ≤ 2 ^ 30) : CallsT P 60 [.sl (l.map implC), IC m, .fn 61 [] []] [] (Ret [] (.sl ((l.filter fun x => decide (x.module = m)).map implC))) := by
  refine callsT_facts Try.func60 facts60 rfl fun hw _ => ?_
  refine loopN l.length 12 [7] [] (fun _ => [.rw 7]) (fun s => [(7, .row 43 8 (s.map implC))]) (fun k s => s.length ≤ k ∧ s ++ (l.drop k).filter (fun x => decide (x.module = m)) = l.filter fun x => decide (x.module = m)) ⟨Nat.le_refl _, by simp⟩
    (same_keys rfl) ⟨.inr (.inr (.inr (.inl ⟨rfl, 7, 43, 8, rfl, rfl, rfl⟩))), trivial⟩ ⟨.inr ⟨rfl, 43, 8, rfl⟩, trivial⟩ (fun _ => rfl) (fun _ => rfl) ?_
  rintro k s hk ⟨hsk, hinv⟩ _ _ _
  refine brn_p (fun hlt => ?_) (fun hge => ?_)
  · have hlt : k < l.length := by simpa using hlt
    obtain ⟨x, hx, hd⟩ := drop_cons hlt
    rw [hd] at hinv
    refine idxT hx rfl rfl ?_
    refine callP (t61 x) rfl fun _ => ?_
    refine brn_p (fun he => ?_) (fun he => ?_)
    · refine AppT.mk ?_ ?_ ?_ ?_
      · intro es h
        rcases List.mem_cons.1 h with rfl | h
        · rfl
        · cases h
      · show (s.map implC).length + 1 ≤ maxLen
        rw [List.length_map]; simp only [maxLen]; omega
      · show ((s.map implC).length + 1) * 96 ≤ _
        rw [List.length_map]; omega
      refine Fit.in64 (by omega) (by omega) ?_
      refine ⟨(k + 1, s ++ [x]), ⟨hlt, by simpa using hsk, ?_⟩, ⟨nextI, same_keys rfl, trivial⟩, ⟨.inl ⟨_, rfl, .inl ⟨?_, rfl⟩⟩, trivial⟩, nextM hlt⟩
      · rw [← hinv, List.filter_cons, if_pos (by simpa using he)]; simp
      · refine congrArg (TO.row 43 8) ?_
        rw [List.map_append]; rfl
    · refine Fit.in64 (by omega) (by omega) ?_
      refine ⟨(k + 1, s), ⟨hlt, by show s.length ≤ k + 1; omega, ?_⟩, ⟨nextI, same_keys rfl, trivial⟩, ⟨.inl ⟨_, rfl, .inl ⟨rfl, rfl⟩⟩, trivial⟩, nextM hlt⟩
      rw [← hinv, List.filter_cons, if_neg (by simpa using he)]
  · have hge : ¬ k < l.length := by simpa using hge
    rw [drop_end hge] at hinv
    refine retF [7] [] ⟨_, [], rfl, rfl, rfl, rfl, ?_⟩
    simp only [List.filter_nil, List.append_nil] at hinv
    subst hinv
    rfl
theorem t68 (x : Fun) : CallsT P 68 [.agg (funC x)] [] (Ret [] (IC x.module)) := by
  refine callsT_facts Try.func68 facts68 rfl fun hw _ => ?_
  exact retP rfl rfl
set_option maxHeartbeats 1000000 in
set_option maxRecDepth 10000 in
theorem t67 (l : List Fun) (m : Int) (hl : l.length ≤ 2 ^ 30) : CallsT P 67 [.sl (l.map funC), IC m, .fn 68 [] []] [] (Ret [] (.sl ((l.filter fun x => decide (x.module = m)).map funC))) := by
  refine callsT_facts Try.func67 facts67 rfl fun hw _ => ?_
  refine loopN l.length 12 [7] [] (fun _ => [.rw 7]) (fun s => [(7, .row 30 11 (s.map funC))]) (fun k s => s.length ≤ k ∧ s ++ (l.drop k).filter (fun x => decide (x.module = m)) = l.filter fun x => decide (x.module = m)) ⟨Nat.le_refl _, by simp⟩
    (same_keys rfl) ⟨.inr (.inr (.inr (.inl ⟨rfl, 7, 30, 11, rfl, rfl, rfl⟩))), trivial⟩ ⟨.inr ⟨rfl, 30, 11, rfl⟩, trivial⟩ (fun _ => rfl) (fun _ => rfl) ?_
  rintro k s hk ⟨hsk, hinv⟩ _ _ _
  refine brn_p (fun hlt => ?_) (fun hge => ?_)
  · have hlt : k < l.length := by simpa using hlt
    obtain ⟨x, hx, hd⟩ := drop_cons hlt
    rw [hd] at hinv
    refine idxT hx rfl rfl ?_
    refine callP (t68 x) rfl fun _ => ?_
    refine brn_p (fun he => ?_) (fun he => ?_)
    · refine AppT.mk ?_ ?_ ?_ ?_
      · intro es h
        rcases List.mem_cons.1 h with rfl | h
        · rfl
        · cases h
      · show (s.map funC).length + 1 ≤ maxLen
        rw [List.length_map]; simp only [maxLen]; omega
      · show ((s.map funC).length + 1) * 176 ≤ _
        rw [List.length_map]; omega
      refine Fit.in64 (by omega) (by omega) ?_
      refine ⟨(k + 1, s ++ [x]), ⟨hlt, by simpa using hsk, ?_⟩, ⟨nextI, same_keys rfl, trivial⟩, ⟨.inl ⟨_, rfl, .inl ⟨?_, rfl⟩⟩, trivial⟩, nextM hlt⟩
      · rw [← hinv, List.filter_cons, if_pos (by simpa using he)]; simp
      · refine congrArg (TO.row 30 11) ?_
        rw [List.map_append]; rfl
    · refine Fit.in64 (by omega) (by omega) ?_
      refine ⟨(k + 1, s), ⟨hlt, by show s.length ≤ k + 1; omega, ?_⟩, ⟨nextI, same_keys rfl, trivial⟩, ⟨.inl ⟨_, rfl, .inl ⟨rfl, rfl⟩⟩, trivial⟩, nextM hlt⟩
      rw [← hinv, List.filter_cons, if_neg (by simpa using he)]
  · have hge : ¬ k < l.length := by simpa using hge
    rw [drop_end hge] at hinv
    refine retF [7] [] ⟨_, [], rfl, rfl, rfl, rfl, ?_⟩
    simp only [List.filter_nil, List.append_nil] at hinv
    subst hinv
    rfl
theorem t19 (a b : List UInt8) : CallsT P 19 [.sl (bcells a), .sl (bcells b)] [] (Ret [] (.bool (decide (a = b)))) := by
  refine callsT_facts Try.func19 facts19 rfl fun hw _ => ?_
  refine BytesT.mk ⟨a, rfl, ?_⟩
  refine BytesT.mk ⟨b, rfl, ?_⟩
  refine retP rfl ?_
  show C.bool (streq ⟨a.toArray⟩ ⟨b.toArray⟩) = _
  simp [streq]
def tyInt : Ty := .mk 1 0 []
theorem t30 : CallsT P 30 [] [] (Ret [] (.agg (tyC tyInt))) := by
  refine callsT_facts Try.func30 facts30 rfl fun hw _ => ?_
  exact retP rfl rfl
end Go.Fr.Try

/- Digest: modules (printed by dg8.py). -/
set_option linter.unusedVariables false
set_option linter.unusedSimpArgs false
namespace Go.Fr.Try
open Go Go.RowKit Go.Proofs Go.Fr Go.Fr.T Go.Fr.Api

def zeroF : Fun := ⟨⟨#[]⟩, 0, 0, [], 0, .mk 0 0 [], [], [], []⟩
theorem t65s (l : List Fun) (i : Int) (s : Fun) (h : elem l i = some s) : CallsT P 65 [.sl (l.map funC), IC i] [] (Ret [] (.tup [.agg (funC s), .bool true])) := by
  refine callsT_facts Try.func65 facts65 rfl fun hw _ => ?_
  obtain ⟨h1, h2, h3⟩ := elem_some h
  refine brn_p (fun h => absurd h h1) (fun _ => ?_)
  refine brn_p (fun h => absurd h (by simpa using h2)) (fun _ => ?_)
  refine idxE h1 h3 rfl rfl ?_
  exact retP rfl rfl
theorem t65n (l : List Fun) (i : Int) (h : elem l i = none) : CallsT P 65 [.sl (l.map funC), IC i] [] (Ret [] (.tup [.agg (funC zeroF), .bool false])) := by
  refine callsT_facts Try.func65 facts65 rfl fun hw _ => ?_
  rcases elem_none h with h1 | ⟨h1, h2⟩
  · refine brn_p (fun _ => ?_) (fun h => absurd h1 h)
    exact retP rfl rfl
  · refine brn_p (fun h => absurd h h1) (fun _ => ?_)
    refine brn_p (fun _ => ?_) (fun h => absurd (by simpa using h2) h)
    exact retP rfl rfl
theorem t65 (l : List Fun) (i : Int) : ∃ b, CallsT P 65 [.sl (l.map funC), IC i] [] (Ret [] (.tup [.agg (funC ((elem l i).getD zeroF)), .bool b])) := by
  cases h : elem l i with
  | some s => exact ⟨_, t65s l i s h⟩
  | none => exact ⟨_, t65n l i h⟩
def encVariant (po : Option Prog) (v : Variant) : List UInt8 := encSs [v.name] ++ encL (encTy po) v.fields
theorem t57 {po : Option Prog} {p : C} (hp : PC po p) (v : Variant) (bs : List UInt8) (hb : (bs ++ encVariant po v).length ≤ 2 ^ 46) : CallsT P 57 [.agg (variantC v), .own 1002 0] (WrC p bs) (Ret (WrC p (bs ++ encVariant po v)) (.tup [])) := by
  have e : bs ++ encVariant po v = bs ++ encSs [v.name] ++ encL (encTy po) v.fields := by simp [encVariant]
  rw [e] at hb ⊢
  have h45 : ∀ (x : Ty) (s : List UInt8), (s ++ encTy po x).length ≤ 2 ^ 46 → CallsT P 45 [.own 1000 0, .agg (tyC x)] (Wr p s) (Ret (Wr p (s ++ encTy po x)) (.tup [])) := fun x s hs => t45 hp x s hs
  generalize encTy po = E at h45 hb ⊢
  refine callsT_facts Try.func57 facts57 rfl fun hw _ => ?_
  have hp' := hp
  cases hp
  all_goals
    refine callO [1000, 1001] [1000, 1001] (t50 hp' bs [v.name] (by simp only [List.length_append] at hb ⊢; omega)) rfl rfl rfl rfl rfl fun _ _ => ?_
    refine callO [1000, 1001] [1000, 1001] (t58 hp' _ v.fields E (fun x _ s hs => h45 x s hs) hb) rfl rfl rfl rfl rfl fun _ _ => ?_
    exact retO [1000, 1001, 1002] rfl rfl rfl rfl
def encData (po : Option Prog) (d : Api.Data) : List UInt8 := encSs [d.name] ++ (encIs [d.params, d.drop] ++ encL (encVariant po) d.variants)
theorem t54 {po : Option Prog} {p : C} (hp : PC po p) (d : Api.Data) (bs : List UInt8) (hb : (bs ++ encData po d).length ≤ 2 ^ 46) : CallsT P 54 [.agg (dataC d), .own 1002 0] (WrC p bs) (Ret (WrC p (bs ++ encData po d)) (.tup [])) := by
  have e : bs ++ encData po d = bs ++ encSs [d.name] ++ encIs [d.params, d.drop] ++ encL (encVariant po) d.variants := by simp [encData]
  rw [e] at hb ⊢
  have h57 : ∀ (x : Variant) (s : List UInt8), (s ++ encVariant po x).length ≤ 2 ^ 46 → CallsT P 57 [.agg (variantC x), .own 1002 0] (WrC p s) (Ret (WrC p (s ++ encVariant po x)) (.tup [])) := fun x s hs => t57 hp x s hs
  generalize encVariant po = E at h57 hb ⊢
  refine callsT_facts Try.func54 facts54 rfl fun hw _ => ?_
  have hp' := hp
  cases hp
  all_goals
    refine callO [1000, 1001] [1000, 1001] (t50 hp' bs [d.name] (by simp only [List.length_append] at hb ⊢; omega)) rfl rfl rfl rfl rfl fun _ _ => ?_
    refine callO [1000, 1001] [1000, 1001] (t55 hp' _ [d.params, d.drop] (by simp only [List.length_append] at hb ⊢; omega)) rfl rfl rfl rfl rfl fun _ _ => ?_
    refine callO [1000, 1001, 1002] [1000, 1001, 1002] (t56 hp' _ d.variants E (fun x _ s hs => h57 x s hs) hb) rfl rfl rfl rfl rfl fun _ _ => ?_
    exact retO [1000, 1001, 1002] rfl rfl rfl rfl
set_option maxRecDepth 10000 in
theorem t59m {po : Option Prog} {p : C} (hp : PC po p) (q0 : Prog) (bs : List UInt8) (l : List Impl) (enc : Impl → List UInt8) (hc : ∀ x ∈ l, ∀ s : List UInt8, (s ++ enc x).length ≤ 2 ^ 46 → CallsT P 62 [.agg (implC x), .own 1002 0, .pt (progC q0) 0] (WrC p s) (Ret (WrC p (s ++ enc x)) (.tup [])))
    (hb : (bs ++ encL enc l).length ≤ 2 ^ 46) : CallsT P 59 [.own 1000 0, .sl (l.map implC), .fn 62 [] [.own 1002 0, .pt (progC q0) 0]] (WrC p bs) (Ret (WrC p (bs ++ encL enc l)) (.tup [])) := by
  refine callsT_facts Try.func59 facts59 rfl fun hw _ => ?_
  have hn : l.length ≤ 9223372036854775807 := by have := wf_len hw.2.1; simpa [ics] using this
  have hp' := hp
  cases hp
  all_goals
    refine callO [1000, 1001] [1000, 1001] (t55 hp' bs [((l.map implC).length : Int)] ?_) rfl rfl rfl rfl rfl fun _ _ => ?_
    · simp only [encL, List.length_append, List.length_map, List.length_map, encIs, List.flatMap_cons, List.flatMap_nil, List.append_nil] at hb ⊢; omega
    refine loopN l.length 15 [] (bs ++ encI l.length) (fun _ => []) (fun s => WrCL _ s) (fun k s => s ++ (l.drop k).flatMap enc = bs ++ encL enc l) (by simp [encL]) (same_keys rfl) trivial ⟨.inl ⟨_, rfl, .inl ⟨rfl, rfl⟩⟩, .inl ⟨_, rfl, .inl ⟨?_, rfl⟩⟩, .inl ⟨_, rfl, .inl ⟨rfl, rfl⟩⟩, trivial⟩ (fun _ => rfl) (fun _ => rfl) ?_
    · show TO.row 5 1 (bcells (bs ++ encIs [((l.map implC).length : Int)])) = _
      simp [encIs, ics]
    rintro k s hk hinv _ _ _
    refine brn_p (fun hlt => ?_) (fun hge => ?_)
    · have hlt : k < l.length := by simpa [ics] using hlt
      obtain ⟨x, hx, hd⟩ := drop_cons hlt
      rw [hd, List.flatMap_cons] at hinv
      have hsz : (s ++ enc x).length ≤ 2 ^ 46 := by
        rw [← hinv] at hb
        simp only [List.length_append] at hb ⊢
        omega
      refine idxT hx rfl rfl ?_
      refine callO [1000, 1001, 1002] [1000, 1001, 1002] (hc x (List.mem_of_getElem? hx) s hsz) rfl rfl rfl rfl rfl fun _ _ => ?_
      refine Fit.in64 (by omega) (by omega) ?_
      exact ⟨(k + 1, s ++ enc x), ⟨hlt, by rw [← hinv]; simp⟩, ⟨nextI, trivial⟩, ⟨.inl ⟨_, rfl, .inl ⟨rfl, rfl⟩⟩, .inl ⟨_, rfl, .inl ⟨rfl, rfl⟩⟩, .inl ⟨_, rfl, .inl ⟨rfl, rfl⟩⟩, trivial⟩, nextM hlt⟩
    · have hge : ¬ k < l.length := by simpa [ics] using hge
      rw [drop_end hge] at hinv
      refine retO [1000, 1001, 1002] rfl rfl ?_ rfl
      simp only [List.flatMap_nil, List.append_nil] at hinv
      subst hinv
      rfl

def fnameOf (q : Prog) (i : Int) : ByteArray := ((elem q.funcs i).getD zeroF).name
def encImpl (q : Prog) (x : Impl) : List UInt8 := encTrait (some q) x.trait ++ (encIs [x.params] ++ (encL (encBound (some q)) x.bounds ++ (encTy (some q) x.type ++ encSs [fnameOf q x.func])))
theorem t62 (q : Prog) (x : Impl) (bs : List UInt8) (hb : (bs ++ encImpl q x).length ≤ 2 ^ 46) : CallsT P 62 [.agg (implC x), .own 1002 0, .pt (progC q) 0] (WrC (.pt (progC q) 0) bs) (Ret (WrC (.pt (progC q) 0) (bs ++ encImpl q x)) (.tup [])) := by
  have e : bs ++ encImpl q x = bs ++ encTrait (some q) x.trait ++ encIs [x.params] ++ encL (encBound (some q)) x.bounds ++ encTy (some q) x.type ++ encSs [fnameOf q x.func] := by simp [encImpl]
  rw [e] at hb ⊢
  have h45 : ∀ (x : Ty) (s : List UInt8), (s ++ encTy (some q) x).length ≤ 2 ^ 46 → CallsT P 45 [.own 1000 0, .agg (tyC x)] (Wr (.pt (progC q) 0) s) (Ret (Wr (.pt (progC q) 0) (s ++ encTy (some q) x)) (.tup [])) := fun x s hs => t45 (.prog q) x s hs
  have h63 := t63 (.prog q) bs x.trait
  have h65 := t65 q.funcs x.func
  obtain ⟨b, h65⟩ := h65
  unfold fnameOf at hb ⊢
  generalize (elem q.funcs x.func).getD zeroF = f0 at h65 hb ⊢
  generalize encTy (some q) = E at h45 hb ⊢
  generalize encTrait (some q) x.trait = TR at h63 hb ⊢
  have hres : (C.agg [IC x.type.kind, IC x.type.id, .sl (x.type.args.map tyC)]) = .agg (tyC x.type) := by rw [tyC_eq]
  refine callsT_facts Try.func62 facts62 rfl fun hw _ => ?_
  refine callO [1000, 1001] [1000, 1001] (h63 (by simp only [List.length_append] at hb ⊢; omega)) rfl rfl rfl rfl rfl fun _ _ => ?_
  refine callO [1000, 1001] [1000, 1001] (t55 (.prog q) _ [x.params] (by simp only [List.length_append] at hb ⊢; omega)) rfl rfl rfl rfl rfl fun _ _ => ?_
  refine callO [1000, 1001] [1000, 1001] (t64 (.prog q) _ x.bounds (by simp only [List.length_append] at hb ⊢; omega)) rfl rfl rfl rfl rfl fun _ _ => ?_
  refine callO [1000, 1001] [1000, 1001] (h45 x.type _ (by simp only [List.length_append] at hb ⊢; omega)) rfl rfl (congrArg (fun z => [C.own 1000 0, z]) hres) rfl rfl fun _ _ => ?_
  refine callP h65 rfl fun _ => ?_
  refine callO [1000, 1001] [1000, 1001] (t50 (.prog q) _ [f0.name] hb) rfl rfl rfl rfl rfl fun _ _ => ?_
  exact retO [1000, 1001, 1002] rfl rfl rfl rfl
def encModule (q : Prog) (name : ByteArray) (m : Int) : List UInt8 := encSs [name] ++ (encL (encData (some q)) (q.datas.filter fun x => decide (x.module = m)) ++ (encL (encImpl q) (q.impls.filter fun x => decide (x.module = m)) ++ encL (encSig (some q)) (q.funcs.filter fun x => decide (x.module = m))))
def WrM (q : Prog) (bs : List UInt8) (name : ByteArray) : List TO := [.box 114 [.rw 1001, .pt (progC q) 0], .row 5 1 (bcells bs), .box 9 [.str name]]
set_option maxRecDepth 10000 in
theorem t49 (q : Prog) (name : ByteArray) (m : Int) (bs : List UInt8) (hb : (bs ++ encModule q name m).length ≤ 2 ^ 46) (h1 : q.datas.length ≤ 2 ^ 30) (h2 : q.impls.length ≤ 2 ^ 30) (h3 : q.funcs.length ≤ 2 ^ 30) :
    CallsT P 49 [.own 1000 0, .own 1002 0, .pt (progC q) 0, .pt [IC m] 0] (WrM q bs name) (Ret (WrM q (bs ++ encModule q name m) name) (.tup [])) := by
  have e : bs ++ encModule q name m = bs ++ encSs [name] ++ encL (encData (some q)) (q.datas.filter fun x => decide (x.module = m)) ++ encL (encImpl q) (q.impls.filter fun x => decide (x.module = m)) ++ encL (encSig (some q)) (q.funcs.filter fun x => decide (x.module = m)) := by simp [encModule]
  rw [e] at hb ⊢
  have h54 : ∀ (x : Api.Data) (s : List UInt8), (s ++ encData (some q) x).length ≤ 2 ^ 46 → CallsT P 54 [.agg (dataC x), .own 1002 0] (WrC (.pt (progC q) 0) s) (Ret (WrC (.pt (progC q) 0) (s ++ encData (some q) x)) (.tup [])) := fun x s hs => t54 (.prog q) x s hs
  have h62 : ∀ (x : Impl) (s : List UInt8), (s ++ encImpl q x).length ≤ 2 ^ 46 → CallsT P 62 [.agg (implC x), .own 1002 0, .pt (progC q) 0] (WrC (.pt (progC q) 0) s) (Ret (WrC (.pt (progC q) 0) (s ++ encImpl q x)) (.tup [])) := fun x s hs => t62 q x s hs
  have h34 : ∀ (x : Fun) (s : List UInt8), (s ++ encSig (some q) x).length ≤ 2 ^ 46 → CallsT P 34 [.own 1000 0, .agg (funC x)] (Wr (.pt (progC q) 0) s) (Ret (Wr (.pt (progC q) 0) (s ++ encSig (some q) x)) (.tup [])) := fun x s hs => t34 (.prog q) x s hs
  generalize encData (some q) = E1 at h54 hb ⊢
  generalize encImpl q = E2 at h62 hb ⊢
  generalize encSig (some q) = E3 at h34 hb ⊢
  have g1 := t52 q.datas m h1
  have g2 := t60 q.impls m h2
  have g3 := t67 q.funcs m h3
  generalize (q.datas.filter fun x => decide (x.module = m)) = l1 at g1 hb ⊢
  generalize (q.impls.filter fun x => decide (x.module = m)) = l2 at g2 hb ⊢
  generalize (q.funcs.filter fun x => decide (x.module = m)) = l3 at g3 hb ⊢
  refine callsT_facts Try.func49 facts49 rfl fun hw _ => ?_
  refine callO [1000, 1001] [1000, 1001] (t50 (.prog q) bs [name] (by simp only [List.length_append] at hb ⊢; omega)) rfl rfl rfl rfl rfl fun _ _ => ?_
  refine callPD g1 rfl fun _ => ?_
  refine callOD [1000, 1001, 4] [1000, 1001, 4] (t51 (.prog q) _ l1 E1 (fun x _ s hs => h54 x s hs) (by simp only [List.length_append] at hb ⊢; omega)) rfl rfl rfl rfl rfl fun _ _ => ?_
  refine callPD g2 rfl fun _ => ?_
  refine callOD [1000, 1001, 4] [1000, 1001, 4] (t59m (.prog q) q _ l2 E2 (fun x _ s hs => h62 x s hs) (by simp only [List.length_append] at hb ⊢; omega)) rfl rfl rfl rfl rfl fun _ _ => ?_
  refine callPD g3 rfl fun _ => ?_
  refine callOD [1000, 1001] [1000, 1001] (t66 (.prog q) _ l3 E3 (fun x _ s hs => h34 x s hs) hb) rfl rfl rfl rfl rfl fun _ _ => ?_
  exact retO [1000, 1001, 1002] rfl rfl rfl rfl
theorem t32_49 (q : Prog) (name : ByteArray) (m : Int) (hb : (encModule q name m).length ≤ 2 ^ 46) (h1 : q.datas.length ≤ 2 ^ 30) (h2 : q.impls.length ≤ 2 ^ 30) (h3 : q.funcs.length ≤ 2 ^ 30) :
    CallsT P 32 [.pt (progC q) 0, .fn 49 [] [.own 1000 0, .pt (progC q) 0, .pt [IC m] 0]] [.box 9 [.str name]] (Ret [.box 9 [.str name], .row 5 1 (bcells (encModule q name m))] (.rw 1001)) := by
  have h := t49 q name m [] hb h1 h2 h3
  generalize encModule q name m = code at h ⊢
  refine callsT_facts Try.func32 facts32 rfl fun hw _ => ?_
  refine callG [(8, .box 114 [.rw 2000, .pt (progC q) 0]), (1000, .box 9 [.str name]), (2000, .row 5 1 [])] [8, 2000, 1000] [8, 2000, 1000] h
    ⟨.inl ⟨_, rfl, .inr ⟨114, _, _, rfl, rfl, _, _, rfl, .inr (.inr (.inr (.inl ⟨rfl, 2000, 5, 1, rfl, rfl, rfl⟩))), _, _, rfl, .inr (.inl ⟨rfl, rfl⟩), rfl⟩⟩, .inl ⟨_, rfl, .inl ⟨rfl, rfl⟩⟩, .inr ⟨rfl, 5, 1, rfl⟩, trivial⟩
    rfl rfl rfl rfl rfl fun _ _ => ?_
  exact retO [1000, 2000] rfl rfl rfl rfl
def digM (q : Prog) (m : Int) : Int := match elem q.modules m with | none => 0 | some name => foldN (bytesN (encModule q name m))
theorem t22 (q : Prog) (m : Int) (hb : ∀ name, elem q.modules m = some name → (encModule q name m).length ≤ 2 ^ 46) (h1 : q.datas.length ≤ 2 ^ 30) (h2 : q.impls.length ≤ 2 ^ 30) (h3 : q.funcs.length ≤ 2 ^ 30) :
    CallsT P 22 [.agg (progC q), IC m] [] (Ret [] (.int .i64 (digM q m))) := by
  unfold digM
  cases hn : elem q.modules m with
  | none =>
    have h := t48n q.modules m hn
    refine callsT_facts Try.func22 facts22 rfl fun hw _ => ?_
    refine callP h rfl fun _ => ?_
    exact retP rfl rfl
  | some name =>
    have h := t48s q.modules m name hn
    have h32 := t32_49 q name m (hb name hn) h1 h2 h3
    simp only []
    generalize encModule q name m = code at h32 ⊢
    refine callsT_facts Try.func22 facts22 rfl fun hw _ => ?_
    refine callP h rfl fun _ => ?_
    refine callO [5] [5, 17] h32 rfl rfl rfl rfl rfl fun _ _ => ?_
    refine callF [17] [] [] (t15 code) ⟨[], rfl, rfl, rfl, rfl, rfl, fun _ _ => ?_⟩
    exact retP rfl rfl
end Go.Fr.Try
