/- Digest: types, signatures, functions (printed by dg6.py). -/
import Derived.Test.YtgapnemcomkomaaDgT5
set_option linter.unusedVariables false
set_option linter.unusedSimpArgs false
namespace Go.Fr.Try
open Go Go.RowKit Go.Proofs Go.Fr Go.Fr.T Go.Fr.Api

def encTrait (po : Option Prog) (n : Int) : List UInt8 := match po with | none => encIs [n] | some q => encSs [nm q.traits n]
theorem t63 {po : Option Prog} {p : C} (hp : PC po p) (bs : List UInt8) (n : Int) (hb : (bs ++ encTrait po n).length ≤ 2 ^ 46) : CallsT P 63 [.own 1000 0, IC n] (Wr p bs) (Ret (Wr p (bs ++ encTrait po n)) (.tup [])) := by
  have hp' := hp
  cases hp with
  | nil =>
    refine callsT_facts Try.func63 facts63 rfl fun hw _ => ?_
    refine callO [1000, 1001] [1000, 1001] (t55 hp' bs [n] hb) rfl rfl rfl rfl rfl fun _ _ => ?_
    exact retO [1000, 1001] rfl rfl rfl rfl
  | prog q =>
    have hx := t48 q.traits n
    obtain ⟨b, hm⟩ := hx
    refine callsT_facts Try.func63 facts63 rfl fun hw _ => ?_
    refine callP hm rfl fun _ => ?_
    refine callO [1000, 1001] [1000, 1001] (t50 hp' bs [nm q.traits n] hb) rfl rfl rfl rfl rfl fun _ _ => ?_
    exact retO [1000, 1001] rfl rfl rfl rfl
def encBound (po : Option Prog) (b : Bound) : List UInt8 := encIs [b.param] ++ encTrait po b.trait
theorem t82 {po : Option Prog} {p : C} (hp : PC po p) (b : Bound) (bs : List UInt8) (hb : (bs ++ encBound po b).length ≤ 2 ^ 46) : CallsT P 82 [.agg (boundC b), .own 1002 0] (WrC p bs) (Ret (WrC p (bs ++ encBound po b)) (.tup [])) := by
  have e : bs ++ encBound po b = bs ++ encIs [b.param] ++ encTrait po b.trait := by simp [encBound]
  rw [e] at hb ⊢
  refine callsT_facts Try.func82 facts82 rfl fun hw _ => ?_
  have hp' := hp
  cases hp
  all_goals
    refine callO [1000, 1001] [1000, 1001] (t55 hp' bs [b.param] (by simp only [List.length_append] at hb ⊢; omega)) rfl rfl rfl rfl rfl fun _ _ => ?_
    refine callO [1000, 1001] [1000, 1001] (t63 hp' _ b.trait hb) rfl rfl rfl rfl rfl fun _ _ => ?_
    exact retO [1000, 1001, 1002] rfl rfl rfl rfl
theorem t64 {po : Option Prog} {p : C} (hp : PC po p) (bs : List UInt8) (l : List Bound) (hb : (bs ++ encL (encBound po) l).length ≤ 2 ^ 46) : CallsT P 64 [.own 1000 0, .sl (l.map boundC)] (Wr p bs) (Ret (Wr p (bs ++ encL (encBound po) l)) (.tup [])) := by
  refine callsT_facts Try.func64 facts64 rfl fun hw _ => ?_
  have hp' := hp
  cases hp
  all_goals
    refine callO [1000, 1001, 2] [1000, 1001, 2] (t81 hp' bs l (encBound _) (fun x _ s hs => t82 hp' x s hs) hb) rfl rfl rfl rfl rfl fun _ _ => ?_
    exact retO [1000, 1001] rfl rfl rfl rfl
theorem t88 {po : Option Prog} {p : C} (hp : PC po p) (n : Int) (bs : List UInt8) (hb : (bs ++ encI n).length ≤ 2 ^ 46) : CallsT P 88 [IC n, .own 1002 0] (WrC p bs) (Ret (WrC p (bs ++ encI n)) (.tup [])) := by
  have e : bs ++ encI n = bs ++ encIs [n] := by simp [encIs]
  rw [e] at hb ⊢
  refine callsT_facts Try.func88 facts88 rfl fun hw _ => ?_
  have hp' := hp
  cases hp
  all_goals
    refine callO [1000, 1001] [1000, 1001] (t55 hp' bs [n] hb) rfl rfl rfl rfl rfl fun _ _ => ?_
    exact retO [1000, 1001, 1002] rfl rfl rfl rfl
theorem t71 {po : Option Prog} {p : C} (hp : PC po p) (bs : List UInt8) (l : List Int) (hb : (bs ++ encL encI l).length ≤ 2 ^ 46) : CallsT P 71 [.own 1000 0, .sl (ics l)] (Wr p bs) (Ret (Wr p (bs ++ encL encI l)) (.tup [])) := by
  refine callsT_facts Try.func71 facts71 rfl fun hw _ => ?_
  have hp' := hp
  cases hp
  all_goals
    refine callO [1000, 1001, 2] [1000, 1001, 2] (t87 hp' bs l encI (fun x _ s hs => t88 hp' x s hs) hb) rfl rfl rfl rfl rfl fun _ _ => ?_
    exact retO [1000, 1001] rfl rfl rfl rfl
set_option maxRecDepth 10000 in
theorem t45 {po : Option Prog} {p : C} (hp : PC po p) : ∀ (t : Ty) (bs : List UInt8) (hb : (bs ++ encTy po t).length ≤ 2 ^ 46), CallsT P 45 [.own 1000 0, .agg (tyC t)] (Wr p bs) (Ret (Wr p (bs ++ encTy po t)) (.tup []))
  | .mk k i l, bs, hb => by
    have ih : ∀ x ∈ l, ∀ s : List UInt8, (s ++ encTy po x).length ≤ 2 ^ 46 → CallsT P 45 [.own 1000 0, .agg (tyC x)] (Wr p s) (Ret (Wr p (s ++ encTy po x)) (.tup [])) := fun x hx s hs => t45 hp x s hs
    have h80 := t80 hp (bs ++ encIs [k]) (.mk k i l)
    rw [tyC_eq] at h80 ⊢
    simp only [Ty.kind, Ty.id, Ty.args] at h80 ⊢
    cases hn : encName po k i with
    | none =>
      have e : bs ++ encTy po (.mk k i l) = bs ++ encIs [k] ++ encIs [i] ++ encL (encTy po) l := by rw [encTy_eq]; simp [encIs, Ty.kind, Ty.id, Ty.args, hn]
      rw [e] at hb ⊢
      rw [hn] at h80
      simp only [Option.getD_none, Option.isSome_none, List.append_nil] at h80
      generalize encTy po = E at ih hb ⊢
      refine callsT_facts Try.func45 facts45 rfl fun hw _ => ?_
      have hp' := hp
      cases hp
      all_goals
        refine callO [1000, 1001] [1000, 1001] (t55 hp' bs [k] (by simp only [List.length_append] at hb ⊢; omega)) rfl rfl rfl rfl rfl fun _ _ => ?_
        refine callO [1000, 1001] [1000, 1001] (h80 (by simp only [List.length_append] at hb ⊢; omega)) rfl rfl rfl rfl rfl fun _ _ => ?_
        refine callO [1000, 1001] [1000, 1001] (t55 hp' (bs ++ encIs [k]) [i] (by simp only [List.length_append] at hb ⊢; omega)) rfl rfl rfl rfl rfl fun _ _ => ?_
        refine callO [1000, 1001] [1000, 1001] (t58 hp' (bs ++ encIs [k] ++ encIs [i]) l E ih hb) rfl rfl rfl rfl rfl fun _ _ => ?_
        exact retO [1000, 1001] rfl rfl rfl rfl
    | some b =>
      have e : bs ++ encTy po (.mk k i l) = bs ++ encIs [k] ++ b ++ encL (encTy po) l := by rw [encTy_eq]; simp [encIs, Ty.kind, Ty.id, Ty.args, hn]
      rw [e] at hb ⊢
      rw [hn] at h80
      simp only [Option.getD_some, Option.isSome_some] at h80
      generalize encTy po = E at ih hb ⊢
      refine callsT_facts Try.func45 facts45 rfl fun hw _ => ?_
      have hp' := hp
      cases hp
      all_goals
        refine callO [1000, 1001] [1000, 1001] (t55 hp' bs [k] (by simp only [List.length_append] at hb ⊢; omega)) rfl rfl rfl rfl rfl fun _ _ => ?_
        refine callO [1000, 1001] [1000, 1001] (h80 (by simp only [List.length_append] at hb ⊢; omega)) rfl rfl rfl rfl rfl fun _ _ => ?_
        refine callO [1000, 1001] [1000, 1001] (t58 hp' (bs ++ encIs [k] ++ b) l E ih hb) rfl rfl rfl rfl rfl fun _ _ => ?_
        exact retO [1000, 1001] rfl rfl rfl rfl
termination_by t => SizeOf.sizeOf t
decreasing_by
  have := List.sizeOf_lt_of_mem hx
  simp only [Ty.mk.sizeOf_spec]
  omega
def mn (n : Nat) (a : Int) : Int := if (n : Int) < a then (n : Int) else a
def mx0 (m : Int) : Int := if m > 0 then m else 0
theorem mn_wf {n : Nat} {a : Int} (h1 : (Lit.int .i64 a).wf = true) (h2 : n ≤ 9223372036854775807) : (Lit.int .i64 (mn n a)).wf = true := by
  unfold mn
  split
  · exact (wf_iff _ _).2 ⟨by show (-9223372036854775808 : Int) ≤ _; omega, by show _ ≤ (9223372036854775807 : Int); omega⟩
  · exact h1
theorem mx0_wf {m : Int} (h1 : (Lit.int .i64 m).wf = true) : (Lit.int .i64 (mx0 m)).wf = true := by
  unfold mx0
  split
  · exact h1
  · rfl
theorem mx0_bd {n : Nat} {a : Int} : 0 ≤ mx0 (mn n a) ∧ mx0 (mn n a) ≤ n := by
  unfold mx0 mn
  constructor
  · split <;> omega
  · split <;> (try split) <;> omega
theorem mx0_eq (n : Nat) (a : Int) : (mx0 (mn n a)).toNat = (max 0 (min a n)).toNat := by
  unfold mx0 mn
  congr 1
  rw [Int.max_def, Int.min_def]
  split <;> split <;> split <;> (try split) <;> omega
def argsOf (f : Fun) : List Ty := f.locals.take (max 0 (min f.arity f.locals.length)).toNat
def encSig (po : Option Prog) (f : Fun) : List UInt8 := encSs [f.name] ++ (encIs [f.params] ++ (encL (encBound po) f.bounds ++ (encIs [f.arity] ++ (encL (encTy po) (argsOf f) ++ (encTy po f.result ++ encL encI f.ties)))))
theorem tyC_len (t : Ty) : (tyC t).length = 3 := by rw [tyC_eq]; rfl
set_option maxRecDepth 10000 in
theorem t34 {po : Option Prog} {p : C} (hp : PC po p) (f : Fun) (bs : List UInt8) (hb : (bs ++ encSig po f).length ≤ 2 ^ 46) : CallsT P 34 [.own 1000 0, .agg (funC f)] (Wr p bs) (Ret (Wr p (bs ++ encSig po f)) (.tup [])) := by
  have e : bs ++ encSig po f = bs ++ encSs [f.name] ++ encIs [f.params] ++ encL (encBound po) f.bounds ++ encIs [f.arity] ++ encL (encTy po) (argsOf f) ++ encTy po f.result ++ encL encI f.ties := by simp [encSig]
  rw [e] at hb ⊢
  have h45 : ∀ (x : Ty) (s : List UInt8), (s ++ encTy po x).length ≤ 2 ^ 46 → CallsT P 45 [.own 1000 0, .agg (tyC x)] (Wr p s) (Ret (Wr p (s ++ encTy po x)) (.tup [])) := fun x s hs => t45 hp x s hs
  generalize encTy po = E at h45 hb ⊢
  refine callsT_facts Try.func34 facts34 rfl fun hw _ => ?_
  have hwa : (Lit.int .i64 f.arity).wf = true := hw.2.1.2.2.2.2.1
  have hwl : Wf (.sl (f.locals.map tyC)) := hw.2.1.2.2.2.2.2.2.2.2.1
  have hn := wf_lenM hwl
  have hn' : (f.locals.map tyC).length ≤ 9223372036854775807 := by rw [List.length_map]; exact hn
  have hm1 := mn_wf hwa hn'
  have hm2 := mx0_wf hm1
  have hbd := mx0_bd (n := (f.locals.map tyC).length) (a := f.arity)
  have hsl : ((f.locals.map tyC).drop (Int.toNat 0)).take ((mx0 (mn (f.locals.map tyC).length f.arity)).toNat - Int.toNat 0) = (argsOf f).map tyC := by
    show ((f.locals.map tyC).drop 0).take ((mx0 (mn (f.locals.map tyC).length f.arity)).toNat - 0) = _
    rw [mx0_eq, argsOf, List.map_take, List.length_map]
    rfl
  have hsz : ∀ es ∈ f.locals.map tyC, es.length = 3 := by
    intro es he
    obtain ⟨t, _, rfl⟩ := List.mem_map.1 he
    exact tyC_len t
  have hres : (C.agg [IC f.result.kind, IC f.result.id, .sl (f.result.args.map tyC)]) = .agg (tyC f.result) := by rw [tyC_eq]
  have hp' := hp
  cases hp
  all_goals
    refine callO [1000, 1001] [1000, 1001] (t50 hp' bs [f.name] (by simp only [List.length_append] at hb ⊢; omega)) rfl rfl rfl rfl rfl fun _ _ => ?_
    refine callO [1000, 1001] [1000, 1001] (t55 hp' _ [f.params] (by simp only [List.length_append] at hb ⊢; omega)) rfl rfl rfl rfl rfl fun _ _ => ?_
    refine callO [1000, 1001] [1000, 1001] (t64 hp' _ f.bounds (by simp only [List.length_append] at hb ⊢; omega)) rfl rfl rfl rfl rfl fun _ _ => ?_
    refine callO [1000, 1001] [1000, 1001] (t55 hp' _ [f.arity] (by simp only [List.length_append] at hb ⊢; omega)) rfl rfl rfl rfl rfl fun _ _ => ?_
    refine ⟨hm1, ?_⟩
    refine ⟨hm2, ?_⟩
    refine SlcT.mk (Int.le_refl 0) hbd.1 hbd.2 hsz ?_
    refine callO [1000, 1001] [1000, 1001] (t58 hp' _ (argsOf f) E (fun x _ s hs => h45 x s hs) (by simp only [List.length_append] at hb ⊢; omega)) rfl rfl (congrArg (fun z => [C.own 1000 0, .sl z, .fn 45 [.own 1000 0] []]) hsl) rfl rfl fun _ _ => ?_
    refine callO [1000, 1001] [1000, 1001] (h45 f.result _ (by simp only [List.length_append] at hb ⊢; omega)) rfl rfl (congrArg (fun z => [C.own 1000 0, z]) hres) rfl rfl fun _ _ => ?_
    refine callO [1000, 1001] [1000, 1001] (t71 hp' _ f.ties hb) rfl rfl rfl rfl rfl fun _ _ => ?_
    exact retO [1000, 1001] rfl rfl rfl rfl
def encIns (po : Option Prog) (x : Ins) : List UInt8 := encIs [x.op, x.dst, x.a, x.b, x.n] ++ (encL encI x.args ++ encL (encTy po) x.types)
theorem t75 {po : Option Prog} {p : C} (hp : PC po p) (x : Ins) (bs : List UInt8) (hb : (bs ++ encIns po x).length ≤ 2 ^ 46) : CallsT P 75 [.agg (insC x), .own 1002 0] (WrC p bs) (Ret (WrC p (bs ++ encIns po x)) (.tup [])) := by
  have e : bs ++ encIns po x = bs ++ encIs [x.op, x.dst, x.a, x.b, x.n] ++ encL encI x.args ++ encL (encTy po) x.types := by simp [encIns]
  rw [e] at hb ⊢
  have h45 : ∀ (x : Ty) (s : List UInt8), (s ++ encTy po x).length ≤ 2 ^ 46 → CallsT P 45 [.own 1000 0, .agg (tyC x)] (Wr p s) (Ret (Wr p (s ++ encTy po x)) (.tup [])) := fun x s hs => t45 hp x s hs
  generalize encTy po = E at h45 hb ⊢
  refine callsT_facts Try.func75 facts75 rfl fun hw _ => ?_
  have hp' := hp
  cases hp
  all_goals
    refine callO [1000, 1001] [1000, 1001] (t55 hp' bs [x.op, x.dst, x.a, x.b, x.n] (by simp only [List.length_append] at hb ⊢; omega)) rfl rfl rfl rfl rfl fun _ _ => ?_
    refine callO [1000, 1001] [1000, 1001] (t71 hp' _ x.args (by simp only [List.length_append] at hb ⊢; omega)) rfl rfl rfl rfl rfl fun _ _ => ?_
    refine callO [1000, 1001] [1000, 1001] (t58 hp' _ x.types E (fun x _ s hs => h45 x s hs) hb) rfl rfl rfl rfl rfl fun _ _ => ?_
    exact retO [1000, 1001, 1002] rfl rfl rfl rfl
def encBlock (po : Option Prog) (b : Block) : List UInt8 := encL (encIns po) b.code ++ (encIs [b.fin.kind, b.fin.a] ++ encL encI b.fin.targets)
theorem t73 {po : Option Prog} {p : C} (hp : PC po p) (x : Block) (bs : List UInt8) (hb : (bs ++ encBlock po x).length ≤ 2 ^ 46) : CallsT P 73 [.agg (blockC x), .own 1002 0] (WrC p bs) (Ret (WrC p (bs ++ encBlock po x)) (.tup [])) := by
  have e : bs ++ encBlock po x = bs ++ encL (encIns po) x.code ++ encIs [x.fin.kind, x.fin.a] ++ encL encI x.fin.targets := by simp [encBlock]
  rw [e] at hb ⊢
  have h75 : ∀ (x : Ins) (s : List UInt8), (s ++ encIns po x).length ≤ 2 ^ 46 → CallsT P 75 [.agg (insC x), .own 1002 0] (WrC p s) (Ret (WrC p (s ++ encIns po x)) (.tup [])) := fun x s hs => t75 hp x s hs
  generalize encIns po = E at h75 hb ⊢
  refine callsT_facts Try.func73 facts73 rfl fun hw _ => ?_
  have hp' := hp
  cases hp
  all_goals
    refine callO [1000, 1001, 1002] [1000, 1001, 1002] (t74 hp' bs x.code E (fun x _ s hs => h75 x s hs) (by simp only [List.length_append] at hb ⊢; omega)) rfl rfl rfl rfl rfl fun _ _ => ?_
    refine callO [1000, 1001] [1000, 1001] (t55 hp' _ [x.fin.kind, x.fin.a] (by simp only [List.length_append] at hb ⊢; omega)) rfl rfl rfl rfl rfl fun _ _ => ?_
    refine callO [1000, 1001] [1000, 1001] (t71 hp' _ x.fin.targets hb) rfl rfl rfl rfl rfl fun _ _ => ?_
    exact retO [1000, 1001, 1002] rfl rfl rfl rfl
def encFun (po : Option Prog) (f : Fun) : List UInt8 := encSig po f ++ (encL (encTy po) f.locals ++ encL (encBlock po) f.blocks)
theorem t36 {po : Option Prog} {p : C} (hp : PC po p) (f : Fun) (bs : List UInt8) (hb : (bs ++ encFun po f).length ≤ 2 ^ 46) : CallsT P 36 [.own 1000 0, .agg (funC f)] (Wr p bs) (Ret (Wr p (bs ++ encFun po f)) (.tup [])) := by
  have e : bs ++ encFun po f = bs ++ encSig po f ++ encL (encTy po) f.locals ++ encL (encBlock po) f.blocks := by simp [encFun]
  rw [e] at hb ⊢
  have h45 : ∀ (x : Ty) (s : List UInt8), (s ++ encTy po x).length ≤ 2 ^ 46 → CallsT P 45 [.own 1000 0, .agg (tyC x)] (Wr p s) (Ret (Wr p (s ++ encTy po x)) (.tup [])) := fun x s hs => t45 hp x s hs
  have h73 : ∀ (x : Block) (s : List UInt8), (s ++ encBlock po x).length ≤ 2 ^ 46 → CallsT P 73 [.agg (blockC x), .own 1002 0] (WrC p s) (Ret (WrC p (s ++ encBlock po x)) (.tup [])) := fun x s hs => t73 hp x s hs
  generalize encTy po = E at h45 hb ⊢
  generalize encBlock po = B at h73 hb ⊢
  refine callsT_facts Try.func36 facts36 rfl fun hw _ => ?_
  have hp' := hp
  cases hp
  all_goals
    refine callO [1000, 1001] [1000, 1001] (t34 hp' f bs (by simp only [List.length_append] at hb ⊢; omega)) rfl rfl rfl rfl rfl fun _ _ => ?_
    refine callO [1000, 1001] [1000, 1001] (t58 hp' _ f.locals E (fun x _ s hs => h45 x s hs) (by simp only [List.length_append] at hb ⊢; omega)) rfl rfl rfl rfl rfl fun _ _ => ?_
    refine callO [1000, 1001, 2] [1000, 1001, 2] (t72 hp' _ f.blocks B (fun x _ s hs => h73 x s hs) hb) rfl rfl rfl rfl rfl fun _ _ => ?_
    exact retO [1000, 1001] rfl rfl rfl rfl
end Go.Fr.Try
