/- Part of the proofs of the statements of this seat. -/
import Derived.Test.YtjobilmjlmeohaaDoorFW2
import Derived.Carry
import Derived.ChangeSame
import Derived.WalkKit
import Derived.ProofKit
import Derived.OpenShut
/- The records of the program's package of types, as data of Lean, and as cells. -/
set_option linter.unusedVariables false
set_option linter.unusedSimpArgs false
namespace Go.Fr
open Go Go.RowKit
namespace Api

abbrev I (n : Int) : G := .int .i64 n
inductive Ty where
  | mk (kind id : Int) (args : List Ty)
  deriving Inhabited
def Ty.kind : Ty → Int | .mk k _ _ => k
def Ty.id : Ty → Int | .mk _ i _ => i
def Ty.args : Ty → List Ty | .mk _ _ l => l
mutual
def Ty.g : Ty → G
  | .mk k i l => .st [I k, I i, .sl 3 (Ty.gs l)]
def Ty.gs : List Ty → List G
  | [] => []
  | t :: l => t.g :: Ty.gs l
end
theorem Ty.gs_map : ∀ l : List Ty, Ty.gs l = l.map Ty.g
  | [] => rfl
  | t :: l => by simp [Ty.gs, Ty.gs_map l]
structure Bound where
  param : Int
  trait : Int
def Bound.g (b : Bound) : G := .st [I b.param, I b.trait]
structure Term where
  kind : Int
  a : Int
  targets : List Int
def Term.g (x : Term) : G := .st [I x.kind, I x.a, .sl 1 (x.targets.map I)]
structure Ins where
  op : Int
  dst : Int
  a : Int
  b : Int
  n : Int
  args : List Int
  types : List Ty
def Ins.g (x : Ins) : G := .st [I x.op, I x.dst, I x.a, I x.b, I x.n, .sl 1 (x.args.map I), .sl 3 (x.types.map Ty.g)]
structure Block where
  code : List Ins
  fin : Term
def Block.g (x : Block) : G := .st [.sl 7 (x.code.map Ins.g), x.fin.g]
structure Fun where
  name : ByteArray
  module : Int
  params : Int
  bounds : List Bound
  arity : Int
  result : Ty
  locals : List Ty
  blocks : List Block
  ties : List Int
def Fun.g (f : Fun) : G := .st [.str f.name, I f.module, I f.params, .sl 2 (f.bounds.map Bound.g), I f.arity, f.result.g, .sl 3 (f.locals.map Ty.g), .sl 4 (f.blocks.map Block.g), .sl 1 (f.ties.map I)]
structure Variant where
  name : ByteArray
  fields : List Ty
def Variant.g (x : Variant) : G := .st [.str x.name, .sl 3 (x.fields.map Ty.g)]
structure Data where
  name : ByteArray
  module : Int
  params : Int
  variants : List Variant
  drop : Int
def Data.g (d : Data) : G := .st [.str d.name, I d.module, I d.params, .sl 2 (d.variants.map Variant.g), I d.drop]
structure Impl where
  trait : Int
  module : Int
  params : Int
  bounds : List Bound
  type : Ty
  func : Int
def Impl.g (x : Impl) : G := .st [I x.trait, I x.module, I x.params, .sl 2 (x.bounds.map Bound.g), x.type.g, I x.func]
structure Prog where
  modules : List ByteArray
  uses : List (List Int)
  datas : List Data
  traits : List ByteArray
  homes : List Int
  impls : List Impl
  funcs : List Fun
  main : Int
def Prog.g (p : Prog) : G := .st [.sl 1 (p.modules.map .str), .sl 1 (p.uses.map fun l => .sl 1 (l.map I)), .sl 5 (p.datas.map Data.g), .sl 1 (p.traits.map .str), .sl 1 (p.homes.map I), .sl 8 (p.impls.map Impl.g), .sl 11 (p.funcs.map Fun.g), I p.main]

/- what the cells are -/
section
variable {F : Frz} {cs : List Value}
theorem rd_int {n : Int} : Rd F (I n) cs ↔ cs = [.int .i64 n] ∧ (Lit.int .i64 n).wf = true := by simp only [Rd]
theorem rd_ty {t : Ty} : Rd F t.g cs ↔ ∃ a c, cs = [.int .i64 t.kind, .int .i64 t.id, .slice a t.args.length c] ∧ (Lit.int .i64 t.kind).wf = true ∧ (Lit.int .i64 t.id).wf = true ∧ Sl F 3 (t.args.map Ty.g) a c := by
  obtain ⟨k, i, l⟩ := t
  simp only [Ty.g, Rd, RdAll, Ty.gs_map, Ty.kind, Ty.id, Ty.args]
  constructor
  · rintro ⟨c1, c2, rfl, ⟨rfl, h1⟩, c3, c4, rfl, ⟨rfl, h2⟩, c5, c6, rfl, h, rfl⟩
    obtain ⟨a, c, rfl, h3⟩ := Rd_sl.1 (show Rd F (.sl 3 (l.map Ty.g)) c5 by simp only [Rd]; exact h)
    exact ⟨a, c, by simp, h1, h2, h3⟩
  · rintro ⟨a, c, rfl, h1, h2, h3⟩
    refine ⟨_, _, rfl, ⟨rfl, h1⟩, _, _, rfl, ⟨rfl, h2⟩, [.slice a l.length c], [], rfl, ?_, rfl⟩
    have : Rd F (.sl 3 (l.map Ty.g)) [.slice a l.length c] := Rd_sl.2 ⟨a, c, by simp, h3⟩
    simpa only [Rd] using this
theorem rd_st2 {x y : G} : Rd F (.st [x, y]) cs ↔ ∃ c1 c2, cs = c1 ++ c2 ∧ Rd F x c1 ∧ Rd F y c2 := by
  simp only [Rd, RdAll]
  constructor
  · rintro ⟨c1, c2, rfl, h1, c3, c4, rfl, h2, rfl⟩
    exact ⟨c1, c3, by simp, h1, h2⟩
  · rintro ⟨c1, c2, rfl, h1, h2⟩
    exact ⟨c1, c2, rfl, h1, c2, [], by simp, h2, rfl⟩
theorem rd_cons {x : G} {l : List G} (hl : l ≠ []) : Rd F (.st (x :: l)) cs ↔ ∃ c1 c2, cs = c1 ++ c2 ∧ Rd F x c1 ∧ Rd F (.st l) c2 := by
  simp only [Rd, RdAll]
theorem rd_one {x : G} : Rd F (.st [x]) cs ↔ Rd F x cs := by
  simp only [Rd, RdAll]
  constructor
  · rintro ⟨c1, c2, rfl, h, rfl⟩; simpa using h
  · intro h; exact ⟨cs, [], by simp, h, rfl⟩
theorem rd_str {s : ByteArray} : Rd F (.str s) cs ↔ cs = [.string s] := by simp only [Rd]
theorem rd_bound {b : Bound} : Rd F b.g cs ↔ cs = [.int .i64 b.param, .int .i64 b.trait] ∧ (Lit.int .i64 b.param).wf = true ∧ (Lit.int .i64 b.trait).wf = true := by
  simp only [Bound.g, rd_st2, rd_int]
  constructor
  · rintro ⟨c1, c2, rfl, ⟨rfl, h1⟩, rfl, h2⟩; exact ⟨rfl, h1, h2⟩
  · rintro ⟨rfl, h1, h2⟩; exact ⟨_, _, rfl, ⟨rfl, h1⟩, rfl, h2⟩
/-- from the parts to the whole, one way: what a walk needs -/
theorem rd_term {x : Term} (h : Rd F x.g cs) : ∃ a c, cs = [.int .i64 x.kind, .int .i64 x.a, .slice a x.targets.length c] ∧ (Lit.int .i64 x.kind).wf = true ∧ (Lit.int .i64 x.a).wf = true ∧ Sl F 1 (x.targets.map I) a c := by
  simp only [Term.g, rd_cons (List.cons_ne_nil _ _), rd_one, rd_int, Rd_sl] at h
  obtain ⟨c1, _, rfl, ⟨rfl, h1⟩, c2, _, rfl, ⟨rfl, h2⟩, a, c, rfl, h3⟩ := h
  exact ⟨a, c, by simp, h1, h2, h3⟩
theorem rd_ins {x : Ins} (h : Rd F x.g cs) : ∃ a1 c1 a2 c2, cs = [.int .i64 x.op, .int .i64 x.dst, .int .i64 x.a, .int .i64 x.b, .int .i64 x.n, .slice a1 x.args.length c1, .slice a2 x.types.length c2] ∧
    ((Lit.int .i64 x.op).wf = true ∧ (Lit.int .i64 x.dst).wf = true ∧ (Lit.int .i64 x.a).wf = true ∧ (Lit.int .i64 x.b).wf = true ∧ (Lit.int .i64 x.n).wf = true) ∧ Sl F 1 (x.args.map I) a1 c1 ∧ Sl F 3 (x.types.map Ty.g) a2 c2 := by
  simp only [Ins.g, rd_cons (List.cons_ne_nil _ _), rd_one, rd_int, Rd_sl] at h
  obtain ⟨_, _, rfl, ⟨rfl, h1⟩, _, _, rfl, ⟨rfl, h2⟩, _, _, rfl, ⟨rfl, h3⟩, _, _, rfl, ⟨rfl, h4⟩, _, _, rfl, ⟨rfl, h5⟩, _, _, rfl, ⟨a1, c1, rfl, h6⟩, a2, c2, rfl, h7⟩ := h
  exact ⟨a1, c1, a2, c2, by simp, ⟨h1, h2, h3, h4, h5⟩, h6, h7⟩
theorem rd_block {x : Block} (h : Rd F x.g cs) : ∃ a1 c1 a2 c2, cs = [.slice a1 x.code.length c1, .int .i64 x.fin.kind, .int .i64 x.fin.a, .slice a2 x.fin.targets.length c2] ∧
    ((Lit.int .i64 x.fin.kind).wf = true ∧ (Lit.int .i64 x.fin.a).wf = true) ∧ Sl F 7 (x.code.map Ins.g) a1 c1 ∧ Sl F 1 (x.fin.targets.map I) a2 c2 := by
  simp only [Block.g, rd_cons (List.cons_ne_nil _ _), rd_one, Rd_sl] at h
  obtain ⟨_, _, rfl, ⟨a1, c1, rfl, h1⟩, h2⟩ := h
  obtain ⟨a2, c2, rfl, h3, h4, h5⟩ := rd_term h2
  exact ⟨a1, c1, a2, c2, by simp, ⟨h3, h4⟩, h1, h5⟩
theorem rd_func {x : Fun} (h : Rd F x.g cs) : ∃ a1 c1 a2 c2 a3 c3 a4 c4 a5 c5, cs = [.string x.name, .int .i64 x.module, .int .i64 x.params, .slice a1 x.bounds.length c1, .int .i64 x.arity,
      .int .i64 x.result.kind, .int .i64 x.result.id, .slice a2 x.result.args.length c2, .slice a3 x.locals.length c3, .slice a4 x.blocks.length c4, .slice a5 x.ties.length c5] ∧
    ((Lit.int .i64 x.module).wf = true ∧ (Lit.int .i64 x.params).wf = true ∧ (Lit.int .i64 x.arity).wf = true ∧ (Lit.int .i64 x.result.kind).wf = true ∧ (Lit.int .i64 x.result.id).wf = true) ∧
    Sl F 2 (x.bounds.map Bound.g) a1 c1 ∧ Sl F 3 (x.result.args.map Ty.g) a2 c2 ∧ Sl F 3 (x.locals.map Ty.g) a3 c3 ∧ Sl F 4 (x.blocks.map Block.g) a4 c4 ∧ Sl F 1 (x.ties.map I) a5 c5 := by
  simp only [Fun.g, rd_cons (List.cons_ne_nil _ _), rd_one, rd_int, rd_str, Rd_sl, rd_ty] at h
  obtain ⟨_, _, rfl, rfl, _, _, rfl, ⟨rfl, h1⟩, _, _, rfl, ⟨rfl, h2⟩, _, _, rfl, ⟨a1, c1, rfl, h3⟩, _, _, rfl, ⟨rfl, h4⟩, _, _, rfl, ⟨a2, c2, rfl, h5, h6, h7⟩, _, _, rfl, ⟨a3, c3, rfl, h8⟩, _, _, rfl, ⟨a4, c4, rfl, h9⟩, a5, c5, rfl, h10⟩ := h
  exact ⟨a1, c1, a2, c2, a3, c3, a4, c4, a5, c5, by simp, ⟨h1, h2, h4, h5, h6⟩, h3, h7, h8, h9, h10⟩
theorem rd_variant {x : Variant} (h : Rd F x.g cs) : ∃ a c, cs = [.string x.name, .slice a x.fields.length c] ∧ Sl F 3 (x.fields.map Ty.g) a c := by
  simp only [Variant.g, rd_cons (List.cons_ne_nil _ _), rd_one, rd_str, Rd_sl] at h
  obtain ⟨_, _, rfl, rfl, a, c, rfl, h1⟩ := h
  exact ⟨a, c, by simp, h1⟩
theorem rd_data {x : Data} (h : Rd F x.g cs) : ∃ a c, cs = [.string x.name, .int .i64 x.module, .int .i64 x.params, .slice a x.variants.length c, .int .i64 x.drop] ∧
    ((Lit.int .i64 x.module).wf = true ∧ (Lit.int .i64 x.params).wf = true ∧ (Lit.int .i64 x.drop).wf = true) ∧ Sl F 2 (x.variants.map Variant.g) a c := by
  simp only [Data.g, rd_cons (List.cons_ne_nil _ _), rd_one, rd_int, rd_str, Rd_sl] at h
  obtain ⟨_, _, rfl, rfl, _, _, rfl, ⟨rfl, h1⟩, _, _, rfl, ⟨rfl, h2⟩, _, _, rfl, ⟨a, c, rfl, h3⟩, rfl, h4⟩ := h
  exact ⟨a, c, by simp, ⟨h1, h2, h4⟩, h3⟩
theorem rd_impl {x : Impl} (h : Rd F x.g cs) : ∃ a1 c1 a2 c2, cs = [.int .i64 x.trait, .int .i64 x.module, .int .i64 x.params, .slice a1 x.bounds.length c1, .int .i64 x.type.kind, .int .i64 x.type.id, .slice a2 x.type.args.length c2, .int .i64 x.func] ∧
    ((Lit.int .i64 x.trait).wf = true ∧ (Lit.int .i64 x.module).wf = true ∧ (Lit.int .i64 x.params).wf = true ∧ (Lit.int .i64 x.type.kind).wf = true ∧ (Lit.int .i64 x.type.id).wf = true ∧ (Lit.int .i64 x.func).wf = true) ∧
    Sl F 2 (x.bounds.map Bound.g) a1 c1 ∧ Sl F 3 (x.type.args.map Ty.g) a2 c2 := by
  simp only [Impl.g, rd_cons (List.cons_ne_nil _ _), rd_one, rd_int, Rd_sl, rd_ty] at h
  obtain ⟨_, _, rfl, ⟨rfl, h1⟩, _, _, rfl, ⟨rfl, h2⟩, _, _, rfl, ⟨rfl, h3⟩, _, _, rfl, ⟨a1, c1, rfl, h4⟩, _, _, rfl, ⟨a2, c2, rfl, h5, h6, h7⟩, rfl, h8⟩ := h
  exact ⟨a1, c1, a2, c2, by simp, ⟨h1, h2, h3, h5, h6, h8⟩, h4, h7⟩
theorem rd_program {x : Prog} (h : Rd F x.g cs) : ∃ a1 c1 a2 c2 a3 c3 a4 c4 a5 c5 a6 c6 a7 c7, cs = [.slice a1 x.modules.length c1, .slice a2 x.uses.length c2, .slice a3 x.datas.length c3, .slice a4 x.traits.length c4, .slice a5 x.homes.length c5,
      .slice a6 x.impls.length c6, .slice a7 x.funcs.length c7, .int .i64 x.main] ∧ (Lit.int .i64 x.main).wf = true ∧
    Sl F 1 (x.modules.map .str) a1 c1 ∧ Sl F 1 (x.uses.map fun l => .sl 1 (l.map I)) a2 c2 ∧ Sl F 5 (x.datas.map Data.g) a3 c3 ∧ Sl F 1 (x.traits.map .str) a4 c4 ∧ Sl F 1 (x.homes.map I) a5 c5 ∧ Sl F 8 (x.impls.map Impl.g) a6 c6 ∧ Sl F 11 (x.funcs.map Fun.g) a7 c7 := by
  simp only [Prog.g, rd_cons (List.cons_ne_nil _ _), rd_one, rd_int, Rd_sl] at h
  obtain ⟨_, _, rfl, ⟨a1, c1, rfl, h1⟩, _, _, rfl, ⟨a2, c2, rfl, h2⟩, _, _, rfl, ⟨a3, c3, rfl, h3⟩, _, _, rfl, ⟨a4, c4, rfl, h4⟩, _, _, rfl, ⟨a5, c5, rfl, h5⟩, _, _, rfl, ⟨a6, c6, rfl, h6⟩, _, _, rfl, ⟨a7, c7, rfl, h7⟩, rfl, h8⟩ := h
  exact ⟨a1, c1, a2, c2, a3, c3, a4, c4, a5, c5, a6, c6, a7, c7, by simp, h8, h1, h2, h3, h4, h5, h6, h7⟩
end
end Api
end Go.Fr

/- What is of a type of the program's is such a record. -/
set_option linter.unusedVariables false
set_option linter.unusedSimpArgs false
namespace Go.Fr
open Go Go.RowKit
namespace Api
section
variable {P : Program}
def OkL (P : Program) (n : Nat) : List TypeId → List G → Prop
  | [], [] => True
  | t :: ts, x :: l => Ok P n t x ∧ OkL P n ts l
  | _, _ => False
theorem okL_of {n : Nat} : ∀ {fl : List Field} {l : List G}, l.length = fl.length → (∀ (i : Nat) (f : Field) (x : G), fl[i]? = some f → l[i]? = some x → Ok P n f.type x) → OkL P n (fl.map (·.type)) l
  | [], [], _, _ => trivial
  | [], x :: l, h, _ => by simp at h
  | f :: fl, [], h, _ => by simp at h
  | f :: fl, x :: l, h, hk => ⟨hk 0 f x (by simp) (by simp), okL_of (by simpa using h) fun i f' x' hf hx => hk (i + 1) f' x' (by simpa using hf) (by simpa using hx)⟩
theorem ok_int {n : Nat} {t : TypeId} {g : G} {k : IntKind} (h : P.underlying t = some (.int k)) (hg : Ok P n t g) : ∃ x, g = .int k x := by
  cases n with
  | zero => exact hg.elim
  | succ n => simp only [Ok, h] at hg; obtain ⟨x, h1, _⟩ := hg; exact ⟨x, h1⟩
theorem ok_bool {n : Nat} {t : TypeId} {g : G} (h : P.underlying t = some .bool) (hg : Ok P n t g) : ∃ x, g = .bool x := by
  cases n with
  | zero => exact hg.elim
  | succ n => simp only [Ok, h] at hg; exact hg
theorem ok_str {n : Nat} {t : TypeId} {g : G} (h : P.underlying t = some .string) (hg : Ok P n t g) : ∃ x, g = .str x := by
  cases n with
  | zero => exact hg.elim
  | succ n => simp only [Ok, h] at hg; exact hg
theorem ok_list {α : Type} {f : α → G} : ∀ {l : List G}, (∀ x ∈ l, ∃ y, x = f y) → ∃ l' : List α, l = l'.map f
  | [], _ => ⟨[], rfl⟩
  | x :: l, h => by
    obtain ⟨y, rfl⟩ := h x (by simp)
    obtain ⟨l', rfl⟩ := ok_list (l := l) (fun z hz => h z (by simp [hz]))
    exact ⟨y :: l', rfl⟩
theorem ok_sl' {n : Nat} {t e : TypeId} {g : G} {sz : Nat} {α : Type} {f : α → G} (h : P.underlying t = some (.slice e)) (hsz : P.cellsOf e = sz) (hg : Ok P n t g) (he : ∀ m x, m < n → Ok P m e x → ∃ y, x = f y) : ∃ l : List α, g = .sl sz (l.map f) := by
  cases n with
  | zero => exact hg.elim
  | succ n =>
    simp only [Ok, h] at hg
    obtain ⟨l, rfl, hl⟩ := hg
    obtain ⟨l', rfl⟩ := ok_list (f := f) (fun x hx => he n x (by omega) (hl x hx))
    exact ⟨l', by rw [hsz]⟩
theorem ok_st {n : Nat} {t : TypeId} {g : G} {fs : Array Field} {ts : List TypeId} (h : P.underlying t = some (.struct fs)) (hts : fs.toList.map (·.type) = ts) (hg : Ok P n t g) : ∃ m l, m < n ∧ g = .st l ∧ OkL P m ts l := by
  cases n with
  | zero => exact hg.elim
  | succ n =>
    simp only [Ok, h] at hg
    obtain ⟨l, rfl, hl, hk⟩ := hg
    subst hts
    exact ⟨n, l, by omega, rfl, okL_of (by simpa using hl) fun i f x hf hx => hk i f x (by simpa using hf) hx⟩

def isSt (P : Program) (t : TypeId) (ts : List TypeId) : Bool := match P.underlying t with | some (.struct fs) => decide (fs.toList.map (·.type) = ts) | _ => false
def isSl (P : Program) (t e sz : Nat) : Bool := match P.underlying t with | some (.slice e') => Nat.beq e' e && Nat.beq (P.cellsOf e) sz | _ => false
def isI (P : Program) (t : TypeId) : Bool := match P.underlying t with | some (.int .i64) => true | _ => false
def isS (P : Program) (t : TypeId) : Bool := match P.underlying t with | some .string => true | _ => false
theorem isSt_ok {t : TypeId} {ts : List TypeId} (h : isSt P t ts = true) {n : Nat} {g : G} (hg : Ok P n t g) : ∃ m l, m < n ∧ g = .st l ∧ OkL P m ts l := by
  simp only [isSt] at h
  split at h
  · rename_i fs hu; exact ok_st hu (by simpa using h) hg
  · cases h
theorem isSl_ok {t e sz : Nat} (h : isSl P t e sz = true) {n : Nat} {g : G} {α : Type} {f : α → G} (hg : Ok P n t g) (he : ∀ m x, m < n → Ok P m e x → ∃ y, x = f y) : ∃ l : List α, g = .sl sz (l.map f) := by
  simp only [isSl] at h
  split at h
  · rename_i e' hu
    simp only [Bool.and_eq_true] at h
    have h1 := Nat.eq_of_beq_eq_true h.1
    have h2 := Nat.eq_of_beq_eq_true h.2
    subst h1
    exact ok_sl' hu h2 hg he
  · cases h
theorem isI_ok {t : TypeId} (h : isI P t = true) {n : Nat} {g : G} (hg : Ok P n t g) : ∃ x, g = I x := by
  simp only [isI] at h
  split at h
  · rename_i hu; exact ok_int hu hg
  · cases h
theorem isS_ok {t : TypeId} (h : isS P t = true) {n : Nat} {g : G} (hg : Ok P n t g) : ∃ x, g = .str x := by
  simp only [isS] at h
  split at h
  · rename_i hu; exact ok_str hu hg
  · cases h

theorem okL1 {n : Nat} {t1 : TypeId} {l : List G} (h : OkL P n [t1] l) : ∃ a, l = [a] ∧ Ok P n t1 a := by
  match l, h with
  | [a], h => exact ⟨a, rfl, h.1⟩
theorem okL_cons {n : Nat} {t1 : TypeId} {ts : List TypeId} {l : List G} (h : OkL P n (t1 :: ts) l) : ∃ a r, l = a :: r ∧ Ok P n t1 a ∧ OkL P n ts r := by
  match l, h with
  | a :: r, h => exact ⟨a, r, rfl, h.1, h.2⟩
theorem okL_nil {n : Nat} {l : List G} (h : OkL P n [] l) : l = [] := by
  match l, h with
  | [], _ => rfl

theorem ok_ty {t ti ts : TypeId} (hi : isI P ti = true) (ht : isSt P t [ti, ti, ts] = true) (hs : isSl P ts t 3 = true) : ∀ (n : Nat) (g : G), Ok P n t g → ∃ x : Ty, g = x.g := by
  intro n
  induction n using Nat.strongRecOn with
  | _ n ih =>
    intro g hg
    obtain ⟨m, l, hm, rfl, hl⟩ := isSt_ok ht hg
    obtain ⟨a, l, rfl, ha, hl⟩ := okL_cons hl
    obtain ⟨b, l, rfl, hb, hl⟩ := okL_cons hl
    obtain ⟨c, rfl, hc⟩ := okL1 hl
    obtain ⟨k, rfl⟩ := isI_ok hi ha
    obtain ⟨i, rfl⟩ := isI_ok hi hb
    obtain ⟨xs, rfl⟩ := isSl_ok hs hc (f := Ty.g) (fun m' x hm' hx => ih m' (by omega) x hx)
    exact ⟨.mk k i xs, by simp [Ty.g, Ty.gs_map]⟩
theorem ok_ints {tis ti : TypeId} (hi : isI P ti = true) (hs : isSl P tis ti 1 = true) {n : Nat} {g : G} (hg : Ok P n tis g) : ∃ x : List Int, g = .sl 1 (x.map I) :=
  isSl_ok hs hg fun _ _ _ h => isI_ok hi h
theorem ok_strs {tss tstr : TypeId} (hi : isS P tstr = true) (hs : isSl P tss tstr 1 = true) {n : Nat} {g : G} (hg : Ok P n tss g) : ∃ x : List ByteArray, g = .sl 1 (x.map .str) :=
  isSl_ok hs hg fun _ _ _ h => isS_ok hi h
theorem ok_bound {t ti : TypeId} (hi : isI P ti = true) (ht : isSt P t [ti, ti] = true) {n : Nat} {g : G} (hg : Ok P n t g) : ∃ x : Bound, g = x.g := by
  obtain ⟨m, l, hm, rfl, hl⟩ := isSt_ok ht hg
  obtain ⟨a, l, rfl, ha, hl⟩ := okL_cons hl
  obtain ⟨b, rfl, hb⟩ := okL1 hl
  obtain ⟨k, rfl⟩ := isI_ok hi ha
  obtain ⟨i, rfl⟩ := isI_ok hi hb
  exact ⟨⟨k, i⟩, rfl⟩

/-- the numbers of the types, and what they must be -/
structure Ids where
  int : TypeId
  str : TypeId
  ints : TypeId
  strs : TypeId
  intss : TypeId
  ty : TypeId
  tys : TypeId
  bound : TypeId
  bounds : TypeId
  term : TypeId
  ins : TypeId
  inss : TypeId
  block : TypeId
  blocks : TypeId
  func : TypeId
  funcs : TypeId
  variant : TypeId
  variants : TypeId
  data : TypeId
  datas : TypeId
  impl : TypeId
  impls : TypeId
  prog : TypeId
def Ids.tyOk (P : Program) (d : Ids) : Bool := isI P d.int && isSt P d.ty [d.int, d.int, d.tys] && isSl P d.tys d.ty 3
def Ids.funcOk (P : Program) (d : Ids) : Bool := d.tyOk P && isS P d.str && isSl P d.ints d.int 1 && isSt P d.bound [d.int, d.int] && isSl P d.bounds d.bound 2 && isSt P d.term [d.int, d.int, d.ints] &&
  isSt P d.ins [d.int, d.int, d.int, d.int, d.int, d.ints, d.tys] && isSl P d.inss d.ins 7 && isSt P d.block [d.inss, d.term] && isSl P d.blocks d.block 4 &&
  isSt P d.func [d.str, d.int, d.int, d.bounds, d.int, d.ty, d.tys, d.blocks, d.ints]
def Ids.progOk (P : Program) (d : Ids) : Bool := d.funcOk P && isSl P d.strs d.str 1 && isSl P d.intss d.ints 1 && isSt P d.variant [d.str, d.tys] && isSl P d.variants d.variant 2 && isSt P d.data [d.str, d.int, d.int, d.variants, d.int] &&
  isSl P d.datas d.data 5 && isSt P d.impl [d.int, d.int, d.int, d.bounds, d.ty, d.int] && isSl P d.impls d.impl 8 && isSl P d.funcs d.func 11 && isSt P d.prog [d.strs, d.intss, d.datas, d.strs, d.ints, d.impls, d.funcs, d.int]

theorem Ids.func_of {d : Ids} (h : d.progOk P = true) : d.funcOk P = true := by
  simp only [Ids.progOk, Bool.and_eq_true] at h
  exact h.1.1.1.1.1.1.1.1.1.1
theorem Ids.ty_of {d : Ids} (h : d.funcOk P = true) : d.tyOk P = true := by
  simp only [Ids.funcOk, Bool.and_eq_true] at h
  exact h.1.1.1.1.1.1.1.1.1.1
theorem Ids.ty' {d : Ids} (h : d.tyOk P = true) {n : Nat} {g : G} (hg : Ok P n d.ty g) : ∃ x : Ty, g = x.g := by
  simp only [Ids.tyOk, Bool.and_eq_true] at h
  exact ok_ty h.1.1 h.1.2 h.2 n g hg
theorem Ids.i {d : Ids} (h : d.tyOk P = true) {n : Nat} {g : G} (hg : Ok P n d.int g) : ∃ x : Int, g = I x := by
  simp only [Ids.tyOk, Bool.and_eq_true] at h
  exact isI_ok h.1.1 hg
theorem Ids.tysOk {d : Ids} (h : d.tyOk P = true) {n : Nat} {g : G} (hg : Ok P n d.tys g) : ∃ x : List Ty, g = .sl 3 (x.map Ty.g) := by
  have h' := h
  simp only [Ids.tyOk, Bool.and_eq_true] at h'
  exact isSl_ok h'.2 hg fun m x _ hx => Ids.ty' h hx
theorem Ids.bnd {d : Ids} (h : d.funcOk P = true) {n : Nat} {g : G} (hg : Ok P n d.bound g) : ∃ x : Bound, g = x.g := by
  have hf := h
  have ht := Ids.ty_of hf
  have hf' := hf
  simp only [Ids.funcOk, Bool.and_eq_true] at hf'
  obtain ⟨⟨⟨⟨⟨⟨⟨⟨⟨⟨_, k1⟩, k2⟩, k3⟩, k4⟩, k5⟩, k6⟩, k7⟩, k8⟩, k9⟩, k10⟩ := hf'
  obtain ⟨m, l0, hm, rfl, hl0⟩ := isSt_ok k3 hg
  obtain ⟨g0, l1, rfl, e0, hl1⟩ := okL_cons hl0
  obtain ⟨v0, rfl⟩ := Ids.i ht e0
  obtain ⟨g1, rfl, e1⟩ := okL1 hl1
  obtain ⟨v1, rfl⟩ := Ids.i ht e1
  exact ⟨⟨v0, v1⟩, rfl⟩
theorem Ids.trm {d : Ids} (h : d.funcOk P = true) {n : Nat} {g : G} (hg : Ok P n d.term g) : ∃ x : Term, g = x.g := by
  have hf := h
  have ht := Ids.ty_of hf
  have hf' := hf
  simp only [Ids.funcOk, Bool.and_eq_true] at hf'
  obtain ⟨⟨⟨⟨⟨⟨⟨⟨⟨⟨_, k1⟩, k2⟩, k3⟩, k4⟩, k5⟩, k6⟩, k7⟩, k8⟩, k9⟩, k10⟩ := hf'
  obtain ⟨m, l0, hm, rfl, hl0⟩ := isSt_ok k5 hg
  obtain ⟨g0, l1, rfl, e0, hl1⟩ := okL_cons hl0
  obtain ⟨v0, rfl⟩ := Ids.i ht e0
  obtain ⟨g1, l2, rfl, e1, hl2⟩ := okL_cons hl1
  obtain ⟨v1, rfl⟩ := Ids.i ht e1
  obtain ⟨g2, rfl, e2⟩ := okL1 hl2
  obtain ⟨v2, rfl⟩ := isSl_ok k2 e2 (f := I) fun m x _ hx => Ids.i ht hx
  exact ⟨⟨v0, v1, v2⟩, rfl⟩
theorem Ids.ins' {d : Ids} (h : d.funcOk P = true) {n : Nat} {g : G} (hg : Ok P n d.ins g) : ∃ x : Ins, g = x.g := by
  have hf := h
  have ht := Ids.ty_of hf
  have hf' := hf
  simp only [Ids.funcOk, Bool.and_eq_true] at hf'
  obtain ⟨⟨⟨⟨⟨⟨⟨⟨⟨⟨_, k1⟩, k2⟩, k3⟩, k4⟩, k5⟩, k6⟩, k7⟩, k8⟩, k9⟩, k10⟩ := hf'
  obtain ⟨m, l0, hm, rfl, hl0⟩ := isSt_ok k6 hg
  obtain ⟨g0, l1, rfl, e0, hl1⟩ := okL_cons hl0
  obtain ⟨v0, rfl⟩ := Ids.i ht e0
  obtain ⟨g1, l2, rfl, e1, hl2⟩ := okL_cons hl1
  obtain ⟨v1, rfl⟩ := Ids.i ht e1
  obtain ⟨g2, l3, rfl, e2, hl3⟩ := okL_cons hl2
  obtain ⟨v2, rfl⟩ := Ids.i ht e2
  obtain ⟨g3, l4, rfl, e3, hl4⟩ := okL_cons hl3
  obtain ⟨v3, rfl⟩ := Ids.i ht e3
  obtain ⟨g4, l5, rfl, e4, hl5⟩ := okL_cons hl4
  obtain ⟨v4, rfl⟩ := Ids.i ht e4
  obtain ⟨g5, l6, rfl, e5, hl6⟩ := okL_cons hl5
  obtain ⟨v5, rfl⟩ := isSl_ok k2 e5 (f := I) fun m x _ hx => Ids.i ht hx
  obtain ⟨g6, rfl, e6⟩ := okL1 hl6
  obtain ⟨v6, rfl⟩ := Ids.tysOk ht e6
  exact ⟨⟨v0, v1, v2, v3, v4, v5, v6⟩, rfl⟩
theorem Ids.blk {d : Ids} (h : d.funcOk P = true) {n : Nat} {g : G} (hg : Ok P n d.block g) : ∃ x : Block, g = x.g := by
  have hf := h
  have ht := Ids.ty_of hf
  have hf' := hf
  simp only [Ids.funcOk, Bool.and_eq_true] at hf'
  obtain ⟨⟨⟨⟨⟨⟨⟨⟨⟨⟨_, k1⟩, k2⟩, k3⟩, k4⟩, k5⟩, k6⟩, k7⟩, k8⟩, k9⟩, k10⟩ := hf'
  obtain ⟨m, l0, hm, rfl, hl0⟩ := isSt_ok k8 hg
  obtain ⟨g0, l1, rfl, e0, hl1⟩ := okL_cons hl0
  obtain ⟨v0, rfl⟩ := isSl_ok k7 e0 (f := Ins.g) fun m x _ hx => Ids.ins' hf hx
  obtain ⟨g1, rfl, e1⟩ := okL1 hl1
  obtain ⟨v1, rfl⟩ := Ids.trm hf e1
  exact ⟨⟨v0, v1⟩, rfl⟩
theorem Ids.fn {d : Ids} (h : d.funcOk P = true) {n : Nat} {g : G} (hg : Ok P n d.func g) : ∃ x : Fun, g = x.g := by
  have hf := h
  have ht := Ids.ty_of hf
  have hf' := hf
  simp only [Ids.funcOk, Bool.and_eq_true] at hf'
  obtain ⟨⟨⟨⟨⟨⟨⟨⟨⟨⟨_, k1⟩, k2⟩, k3⟩, k4⟩, k5⟩, k6⟩, k7⟩, k8⟩, k9⟩, k10⟩ := hf'
  obtain ⟨m, l0, hm, rfl, hl0⟩ := isSt_ok k10 hg
  obtain ⟨g0, l1, rfl, e0, hl1⟩ := okL_cons hl0
  obtain ⟨v0, rfl⟩ := isS_ok k1 e0
  obtain ⟨g1, l2, rfl, e1, hl2⟩ := okL_cons hl1
  obtain ⟨v1, rfl⟩ := Ids.i ht e1
  obtain ⟨g2, l3, rfl, e2, hl3⟩ := okL_cons hl2
  obtain ⟨v2, rfl⟩ := Ids.i ht e2
  obtain ⟨g3, l4, rfl, e3, hl4⟩ := okL_cons hl3
  obtain ⟨v3, rfl⟩ := isSl_ok k4 e3 (f := Bound.g) fun m x _ hx => Ids.bnd hf hx
  obtain ⟨g4, l5, rfl, e4, hl5⟩ := okL_cons hl4
  obtain ⟨v4, rfl⟩ := Ids.i ht e4
  obtain ⟨g5, l6, rfl, e5, hl6⟩ := okL_cons hl5
  obtain ⟨v5, rfl⟩ := Ids.ty' ht e5
  obtain ⟨g6, l7, rfl, e6, hl7⟩ := okL_cons hl6
  obtain ⟨v6, rfl⟩ := Ids.tysOk ht e6
  obtain ⟨g7, l8, rfl, e7, hl8⟩ := okL_cons hl7
  obtain ⟨v7, rfl⟩ := isSl_ok k9 e7 (f := Block.g) fun m x _ hx => Ids.blk hf hx
  obtain ⟨g8, rfl, e8⟩ := okL1 hl8
  obtain ⟨v8, rfl⟩ := isSl_ok k2 e8 (f := I) fun m x _ hx => Ids.i ht hx
  exact ⟨⟨v0, v1, v2, v3, v4, v5, v6, v7, v8⟩, rfl⟩
theorem Ids.var' {d : Ids} (h : d.progOk P = true) {n : Nat} {g : G} (hg : Ok P n d.variant g) : ∃ x : Variant, g = x.g := by
  have h0 := h
  have hf := Ids.func_of h
  have ht := Ids.ty_of hf
  have hf' := hf
  simp only [Ids.funcOk, Bool.and_eq_true] at hf'
  obtain ⟨⟨⟨⟨⟨⟨⟨⟨⟨⟨_, k1⟩, k2⟩, k3⟩, k4⟩, k5⟩, k6⟩, k7⟩, k8⟩, k9⟩, k10⟩ := hf'
  simp only [Ids.progOk, Bool.and_eq_true] at h
  obtain ⟨⟨⟨⟨⟨⟨⟨⟨⟨⟨h, p1⟩, p2⟩, p3⟩, p4⟩, p5⟩, p6⟩, p7⟩, p8⟩, p9⟩, p10⟩ := h
  obtain ⟨m, l0, hm, rfl, hl0⟩ := isSt_ok p3 hg
  obtain ⟨g0, l1, rfl, e0, hl1⟩ := okL_cons hl0
  obtain ⟨v0, rfl⟩ := isS_ok k1 e0
  obtain ⟨g1, rfl, e1⟩ := okL1 hl1
  obtain ⟨v1, rfl⟩ := Ids.tysOk ht e1
  exact ⟨⟨v0, v1⟩, rfl⟩
theorem Ids.dat {d : Ids} (h : d.progOk P = true) {n : Nat} {g : G} (hg : Ok P n d.data g) : ∃ x : Data, g = x.g := by
  have h0 := h
  have hf := Ids.func_of h
  have ht := Ids.ty_of hf
  have hf' := hf
  simp only [Ids.funcOk, Bool.and_eq_true] at hf'
  obtain ⟨⟨⟨⟨⟨⟨⟨⟨⟨⟨_, k1⟩, k2⟩, k3⟩, k4⟩, k5⟩, k6⟩, k7⟩, k8⟩, k9⟩, k10⟩ := hf'
  simp only [Ids.progOk, Bool.and_eq_true] at h
  obtain ⟨⟨⟨⟨⟨⟨⟨⟨⟨⟨h, p1⟩, p2⟩, p3⟩, p4⟩, p5⟩, p6⟩, p7⟩, p8⟩, p9⟩, p10⟩ := h
  obtain ⟨m, l0, hm, rfl, hl0⟩ := isSt_ok p5 hg
  obtain ⟨g0, l1, rfl, e0, hl1⟩ := okL_cons hl0
  obtain ⟨v0, rfl⟩ := isS_ok k1 e0
  obtain ⟨g1, l2, rfl, e1, hl2⟩ := okL_cons hl1
  obtain ⟨v1, rfl⟩ := Ids.i ht e1
  obtain ⟨g2, l3, rfl, e2, hl3⟩ := okL_cons hl2
  obtain ⟨v2, rfl⟩ := Ids.i ht e2
  obtain ⟨g3, l4, rfl, e3, hl4⟩ := okL_cons hl3
  obtain ⟨v3, rfl⟩ := isSl_ok p4 e3 (f := Variant.g) fun m x _ hx => Ids.var' h0 hx
  obtain ⟨g4, rfl, e4⟩ := okL1 hl4
  obtain ⟨v4, rfl⟩ := Ids.i ht e4
  exact ⟨⟨v0, v1, v2, v3, v4⟩, rfl⟩
theorem Ids.imp {d : Ids} (h : d.progOk P = true) {n : Nat} {g : G} (hg : Ok P n d.impl g) : ∃ x : Impl, g = x.g := by
  have h0 := h
  have hf := Ids.func_of h
  have ht := Ids.ty_of hf
  have hf' := hf
  simp only [Ids.funcOk, Bool.and_eq_true] at hf'
  obtain ⟨⟨⟨⟨⟨⟨⟨⟨⟨⟨_, k1⟩, k2⟩, k3⟩, k4⟩, k5⟩, k6⟩, k7⟩, k8⟩, k9⟩, k10⟩ := hf'
  simp only [Ids.progOk, Bool.and_eq_true] at h
  obtain ⟨⟨⟨⟨⟨⟨⟨⟨⟨⟨h, p1⟩, p2⟩, p3⟩, p4⟩, p5⟩, p6⟩, p7⟩, p8⟩, p9⟩, p10⟩ := h
  obtain ⟨m, l0, hm, rfl, hl0⟩ := isSt_ok p7 hg
  obtain ⟨g0, l1, rfl, e0, hl1⟩ := okL_cons hl0
  obtain ⟨v0, rfl⟩ := Ids.i ht e0
  obtain ⟨g1, l2, rfl, e1, hl2⟩ := okL_cons hl1
  obtain ⟨v1, rfl⟩ := Ids.i ht e1
  obtain ⟨g2, l3, rfl, e2, hl3⟩ := okL_cons hl2
  obtain ⟨v2, rfl⟩ := Ids.i ht e2
  obtain ⟨g3, l4, rfl, e3, hl4⟩ := okL_cons hl3
  obtain ⟨v3, rfl⟩ := isSl_ok k4 e3 (f := Bound.g) fun m x _ hx => Ids.bnd hf hx
  obtain ⟨g4, l5, rfl, e4, hl5⟩ := okL_cons hl4
  obtain ⟨v4, rfl⟩ := Ids.ty' ht e4
  obtain ⟨g5, rfl, e5⟩ := okL1 hl5
  obtain ⟨v5, rfl⟩ := Ids.i ht e5
  exact ⟨⟨v0, v1, v2, v3, v4, v5⟩, rfl⟩
theorem Ids.prg {d : Ids} (h : d.progOk P = true) {n : Nat} {g : G} (hg : Ok P n d.prog g) : ∃ x : Prog, g = x.g := by
  have h0 := h
  have hf := Ids.func_of h
  have ht := Ids.ty_of hf
  have hf' := hf
  simp only [Ids.funcOk, Bool.and_eq_true] at hf'
  obtain ⟨⟨⟨⟨⟨⟨⟨⟨⟨⟨_, k1⟩, k2⟩, k3⟩, k4⟩, k5⟩, k6⟩, k7⟩, k8⟩, k9⟩, k10⟩ := hf'
  simp only [Ids.progOk, Bool.and_eq_true] at h
  obtain ⟨⟨⟨⟨⟨⟨⟨⟨⟨⟨h, p1⟩, p2⟩, p3⟩, p4⟩, p5⟩, p6⟩, p7⟩, p8⟩, p9⟩, p10⟩ := h
  obtain ⟨m, l0, hm, rfl, hl0⟩ := isSt_ok p10 hg
  obtain ⟨g0, l1, rfl, e0, hl1⟩ := okL_cons hl0
  obtain ⟨v0, rfl⟩ := isSl_ok p1 e0 (f := G.str) fun m x _ hx => isS_ok k1 hx
  obtain ⟨g1, l2, rfl, e1, hl2⟩ := okL_cons hl1
  obtain ⟨v1, rfl⟩ := isSl_ok p2 e1 (f := fun (l : List Int) => G.sl 1 (l.map I)) fun m x _ hx => isSl_ok k2 hx (f := I) fun m x _ hx => Ids.i ht hx
  obtain ⟨g2, l3, rfl, e2, hl3⟩ := okL_cons hl2
  obtain ⟨v2, rfl⟩ := isSl_ok p6 e2 (f := Data.g) fun m x _ hx => Ids.dat h0 hx
  obtain ⟨g3, l4, rfl, e3, hl4⟩ := okL_cons hl3
  obtain ⟨v3, rfl⟩ := isSl_ok p1 e3 (f := G.str) fun m x _ hx => isS_ok k1 hx
  obtain ⟨g4, l5, rfl, e4, hl5⟩ := okL_cons hl4
  obtain ⟨v4, rfl⟩ := isSl_ok k2 e4 (f := I) fun m x _ hx => Ids.i ht hx
  obtain ⟨g5, l6, rfl, e5, hl6⟩ := okL_cons hl5
  obtain ⟨v5, rfl⟩ := isSl_ok p8 e5 (f := Impl.g) fun m x _ hx => Ids.imp h0 hx
  obtain ⟨g6, l7, rfl, e6, hl7⟩ := okL_cons hl6
  obtain ⟨v6, rfl⟩ := isSl_ok p9 e6 (f := Fun.g) fun m x _ hx => Ids.fn hf hx
  obtain ⟨g7, rfl, e7⟩ := okL1 hl7
  obtain ⟨v7, rfl⟩ := Ids.i ht e7
  exact ⟨⟨v0, v1, v2, v3, v4, v5, v6, v7⟩, rfl⟩
end
end Api
end Go.Fr

/- Data that was read, and the records of the program's package of types, as cells. -/
set_option linter.unusedVariables false
set_option linter.unusedSimpArgs false
namespace Go.Fr.T
open Go Go.RowKit Go.Fr

mutual
def gcs : G → List C
  | .int k n => [.int k n]
  | .bool b => [.bool b]
  | .str s => [.str s]
  | .sl _ l => [.sl (gcss l)]
  | .st l => gflat l
def gcss : List G → List (List C)
  | [] => []
  | x :: l => gcs x :: gcss l
def gflat : List G → List C
  | [] => []
  | x :: l => gcs x ++ gflat l
end
theorem gcss_map : ∀ l : List G, gcss l = l.map gcs
  | [] => rfl
  | x :: l => by simp only [gcss, List.map_cons, gcss_map l]
theorem onesL_append {a b : List C} (h : onesL a = true) (k : onesL b = true) : onesL (a ++ b) = true := by
  rw [onesL_iff] at *
  intro c hc
  rcases List.mem_append.1 hc with hc | hc
  · exact h c hc
  · exact k c hc
mutual
theorem rd_rels {F : Frz} : ∀ {g : G} {cs : List Value}, Rd F g cs → g.bulk ≤ maxLen → Rels F [] (gcs g) cs ∧ onesL (gcs g) = true
  | .int k n, cs, h, hb => by
    simp only [Rd] at h
    obtain ⟨rfl, h⟩ := h
    simp only [gcs, Rels, Rel]
    exact ⟨⟨_, _, rfl, ⟨rfl, h⟩, rfl⟩, rfl⟩
  | .bool b, cs, h, hb => by
    simp only [Rd] at h
    subst h
    simp only [gcs, Rels, Rel]
    exact ⟨⟨_, _, rfl, rfl, rfl⟩, rfl⟩
  | .str s, cs, h, hb => by
    simp only [Rd] at h
    subst h
    simp only [G.bulk] at hb
    simp only [gcs, Rels, Rel]
    exact ⟨⟨_, _, rfl, ⟨rfl, by omega⟩, rfl⟩, rfl⟩
  | .sl sz l, cs, h, hb => by
    simp only [Rd] at h
    obtain ⟨a, c, rfl, h1, h2, h3, h4⟩ := h
    simp only [G.bulk] at hb
    have hl : (gcss l).length = l.length := by simp [gcss_map]
    simp only [gcs, Rels, Rel]
    refine ⟨⟨_, _, rfl, ⟨a, c, by rw [hl], by rw [hl]; exact h1, by rw [hl]; omega, fun e => ?_, sz, rdSl_rels h4 (by omega)⟩, rfl⟩, rfl⟩
    obtain ⟨e1, e2⟩ := h3 e
    subst e1
    exact ⟨rfl, e2⟩
  | .st l, cs, h, hb => by
    simp only [Rd] at h
    simp only [G.bulk] at hb
    simp only [gcs]
    exact rdAll_rels h (by omega)
theorem rdSl_rels {F : Frz} {a : Option Addr} {sz : Nat} : ∀ {i : Nat} {l : List G}, RdSl F a sz i l → G.bulkAll l ≤ maxLen → RelS F a sz i (gcss l)
  | _, [], _, _ => by simp only [gcss, RelS]
  | i, x :: l, h, hb => by
    simp only [RdSl] at h
    obtain ⟨⟨es, h1, h2, h3⟩, h4⟩ := h
    simp only [G.bulkAll] at hb
    obtain ⟨r1, r2⟩ := rd_rels h3 (by omega)
    simp only [gcss, RelS]
    exact ⟨⟨es, h1, h2, r2, r1⟩, rdSl_rels h4 (by omega)⟩
theorem rdAll_rels {F : Frz} : ∀ {l : List G} {cs : List Value}, RdAll F l cs → G.bulkAll l ≤ maxLen → Rels F [] (gflat l) cs ∧ onesL (gflat l) = true
  | [], cs, h, _ => by simp only [RdAll] at h; subst h; simp only [gflat, Rels]; exact ⟨trivial, rfl⟩
  | x :: l, cs, h, hb => by
    simp only [RdAll] at h
    obtain ⟨c1, c2, rfl, h1, h2⟩ := h
    simp only [G.bulkAll] at hb
    obtain ⟨r1, r2⟩ := rd_rels h1 (by omega)
    obtain ⟨q1, q2⟩ := rdAll_rels h2 (by omega)
    simp only [gflat]
    exact ⟨r1.append q1, onesL_append r2 q2⟩
end

open Api
abbrev IC (n : Int) : C := .int .i64 n
def ics (l : List Int) : List (List C) := l.map fun n => [IC n]
def scs (l : List ByteArray) : List (List C) := l.map fun s => [C.str s]
mutual
def tyC : Ty → List C
  | .mk k i l => [IC k, IC i, .sl (tyCs l)]
def tyCs : List Ty → List (List C)
  | [] => []
  | t :: l => tyC t :: tyCs l
end
theorem tyCs_map : ∀ l : List Ty, tyCs l = l.map tyC
  | [] => rfl
  | t :: l => by simp only [tyCs, List.map_cons, tyCs_map l]
theorem tyC_eq (t : Ty) : tyC t = [IC t.kind, IC t.id, .sl (t.args.map tyC)] := by
  cases t
  simp only [tyC, tyCs_map, Ty.kind, Ty.id, Ty.args]
def boundC (b : Bound) : List C := [IC b.param, IC b.trait]
def termC (x : Term) : List C := [IC x.kind, IC x.a, .sl (ics x.targets)]
def insC (x : Ins) : List C := [IC x.op, IC x.dst, IC x.a, IC x.b, IC x.n, .sl (ics x.args), .sl (x.types.map tyC)]
def blockC (x : Block) : List C := [.sl (x.code.map insC), IC x.fin.kind, IC x.fin.a, .sl (ics x.fin.targets)]
def funC (f : Fun) : List C := [.str f.name, IC f.module, IC f.params, .sl (f.bounds.map boundC), IC f.arity, IC f.result.kind, IC f.result.id, .sl (f.result.args.map tyC), .sl (f.locals.map tyC), .sl (f.blocks.map blockC), .sl (ics f.ties)]
def variantC (x : Variant) : List C := [.str x.name, .sl (x.fields.map tyC)]
def dataC (d : Api.Data) : List C := [.str d.name, IC d.module, IC d.params, .sl (d.variants.map variantC), IC d.drop]
def implC (x : Impl) : List C := [IC x.trait, IC x.module, IC x.params, .sl (x.bounds.map boundC), IC x.type.kind, IC x.type.id, .sl (x.type.args.map tyC), IC x.func]
def progC (p : Prog) : List C := [.sl (scs p.modules), .sl (p.uses.map fun l => [.sl (ics l)]), .sl (p.datas.map dataC), .sl (scs p.traits), .sl (ics p.homes), .sl (p.impls.map implC), .sl (p.funcs.map funC), IC p.main]

theorem gcs_I (n : Int) : gcs (I n) = [IC n] := rfl
theorem gcss_of {α : Type} {f : α → G} {h : α → List C} (hf : ∀ x, gcs (f x) = h x) (l : List α) : gcss (l.map f) = l.map h := by
  rw [gcss_map, List.map_map]
  exact List.map_congr_left fun x _ => hf x
theorem gcss_I (l : List Int) : gcss (l.map I) = ics l := gcss_of (fun _ => rfl) l
theorem gcss_S (l : List ByteArray) : gcss (l.map .str) = scs l := gcss_of (fun _ => rfl) l
mutual
theorem gcs_ty : ∀ t : Ty, gcs t.g = tyC t
  | .mk k i l => by simp only [Ty.g, gcs, gflat, tyC, gcs_tys l, List.append_nil, List.cons_append, List.nil_append]
theorem gcs_tys : ∀ l : List Ty, gcss (Ty.gs l) = tyCs l
  | [] => rfl
  | t :: l => by simp only [Ty.gs, gcss, tyCs, gcs_ty t, gcs_tys l]
end
theorem gcss_ty (l : List Ty) : gcss (l.map Ty.g) = l.map tyC := gcss_of gcs_ty l
theorem gcs_bound (b : Bound) : gcs b.g = boundC b := rfl
theorem gcs_term (x : Term) : gcs x.g = termC x := by simp only [Term.g, gcs, gflat, termC, gcss_I, List.append_nil, List.cons_append, List.nil_append]
theorem gcs_ins (x : Ins) : gcs x.g = insC x := by simp only [Ins.g, gcs, gflat, insC, gcss_I, gcss_ty, List.append_nil, List.cons_append, List.nil_append]
theorem gcs_block (x : Block) : gcs x.g = blockC x := by simp only [Block.g, gcs, gflat, blockC, gcs_term, termC, gcss_of gcs_ins, List.append_nil, List.cons_append, List.nil_append]
theorem gcs_fun (f : Fun) : gcs f.g = funC f := by simp only [Fun.g, gcs, gflat, funC, gcs_ty, tyC_eq, gcss_ty, gcss_I, gcss_of gcs_bound, gcss_of gcs_block, List.append_nil, List.cons_append, List.nil_append]
theorem gcs_variant (x : Variant) : gcs x.g = variantC x := by simp only [Variant.g, gcs, gflat, variantC, gcss_ty, List.append_nil, List.cons_append, List.nil_append]
theorem gcs_data (x : Api.Data) : gcs x.g = dataC x := by simp only [Data.g, gcs, gflat, dataC, gcss_of gcs_variant, List.append_nil, List.cons_append, List.nil_append]
theorem gcs_impl (x : Impl) : gcs x.g = implC x := by simp only [Impl.g, gcs, gflat, implC, gcs_ty, tyC_eq, gcss_of gcs_bound, List.append_nil, List.cons_append, List.nil_append]
theorem gcs_prog (x : Prog) : gcs x.g = progC x := by
  simp only [Prog.g, gcs, gflat, progC, gcss_I, gcss_S, gcss_of gcs_data, gcss_of gcs_impl, gcss_of gcs_fun, List.append_nil, List.cons_append, List.nil_append]
  rw [gcss_of (f := fun l => G.sl 1 (l.map I)) (h := fun l => [C.sl (ics l)]) (fun l => by simp only [gcs, gcss_I])]
/-- an element of a list of numbers -/
theorem idxI {l : List Int} {k : Nat} {x : Int} {K : List C → Prop} (hx : l[k]? = some x) (h : K [IC x]) : IdxT (ics l) (k : Int) 1 K := ⟨[IC x], by omega, by simp [ics, hx], rfl, h⟩
theorem idxS {l : List ByteArray} {k : Nat} {x : ByteArray} {K : List C → Prop} (hx : l[k]? = some x) (h : K [.str x]) : IdxT (scs l) (k : Int) 1 K := ⟨[.str x], by omega, by simp [scs, hx], rfl, h⟩
theorem idxTy {l : List Ty} {k : Nat} {x : Ty} {K : List C → Prop} (hx : l[k]? = some x) (h : K [IC x.kind, IC x.id, .sl (x.args.map tyC)]) : IdxT (l.map tyC) (k : Int) 3 K := idxT hx (tyC_eq x) rfl h
theorem wf_I {n : Int} (h : Wf (IC n)) : -9223372036854775808 ≤ n ∧ n ≤ 9223372036854775807 := by simp only [Wf] at h; exact wf_i64 h
end Go.Fr.T

/- From a contract to a statement: what a law that answers true must show. -/
set_option linter.unusedVariables false
set_option linter.unusedSimpArgs false
namespace Go.Fr.T
open Go Go.RowKit Go.Fr Go.ChangeShapes Go.WideShapes Go.ChangeAt

def argC : G → C
  | .int k n => .int k n
  | .bool b => .bool b
  | .str s => .str s
  | .sl _ l => .sl (gcss l)
  | .st l => .agg (gflat l)
def OkA (P : Program) : List TypeId → List G → Prop
  | [], [] => True
  | t :: ts, g :: gs => (∃ n, Ok P n t g) ∧ OkA P ts gs
  | _, _ => False

section
variable {H : Type} {enc : TypeId × Value → H} {P : Program} {W : World}

theorem rels_one {F : Frz} {L : Loc} {c : C} {v : Value} (h : Rels F L [c] [v]) : Rel F L c v := by
  simp only [Rels] at h
  obtain ⟨x, y, e, h1, h2⟩ := h
  injection e with e1 e2
  subst e1
  exact h1

theorem arg_rel {S : List TypeId} (hS : flat P S = true) {t : TypeId} (ht : t ∈ S) {r : Reach} {b0 : Nat} {sp : Nat → Bool} {hd : Bool} {v : Value} {d : DataW H} {ps : List MemPlace} (hval : Value.okWide P W r b0 t v)
    (h : DataW.Trod enc P W 0 sp hd t v d ps) (hb : bulkD d ≤ maxLen) : ∃ n g, Ok P n t g ∧ Rel (frzOf W) [] (argC g) v ∧ g.bulk ≤ bulkD d := by
  obtain ⟨fuel, h⟩ := h
  obtain ⟨g, h1, h2, h3⟩ := trod_rd hS fuel t _ _ ht h
  refine ⟨fuel, g, h1, ?_, h3⟩
  have h4 := (rd_rels h2 (Nat.le_trans h3 hb)).1
  have hf := List.all_eq_true.1 hS t ht
  cases fuel with
  | zero => exact h1.elim
  | succ n =>
  simp only [flatT] at hf
  simp only [Ok] at h1
  split at hf
  · rename_i hu
    obtain ⟨b, rfl⟩ := okWide_bool hu hval
    simp only [hu] at h1
    obtain ⟨b', rfl⟩ := h1
    exact rels_one h4
  · rename_i k hu
    obtain ⟨m, rfl⟩ := okWide_int hu hval
    simp only [hu] at h1
    obtain ⟨b', rfl, _⟩ := h1
    exact rels_one h4
  · rename_i hu
    obtain ⟨m, rfl⟩ := okWide_string hu hval
    simp only [hu] at h1
    obtain ⟨b', rfl⟩ := h1
    exact rels_one h4
  · rename_i e hu
    obtain ⟨a, l, c, rfl⟩ := okWide_slice hu hval
    simp only [hu] at h1
    obtain ⟨b', rfl, _⟩ := h1
    exact rels_one h4
  · rename_i fs hu
    simp only [Value.okWide, hu] at hval
    obtain ⟨cs, rfl, _, _⟩ := hval
    simp only [hu] at h1
    obtain ⟨l, rfl, _⟩ := h1
    simp only [argC, Rel]
    exact ⟨cs.toList, by simp, h4⟩
  · cases hf

theorem args_rels {S : List TypeId} (hS : flat P S = true) {r : Reach} {b0 : Nat} {sp : Nat → Bool} {hd : Bool} : ∀ {ts : List TypeId} {vs : List Value} {ds : List (DataW H)} {ps : List MemPlace}, (∀ t ∈ ts, t ∈ S) →
    (∀ (j : Nat) t v, ts[j]? = some t → vs[j]? = some v → Value.okWide P W r b0 t v) → DataW.TrodAll enc P W 0 sp hd ts vs ds ps → bulkDAll ds ≤ maxLen →
    ∃ gs, OkA P ts gs ∧ Rels (frzOf W) [] (gs.map argC) vs ∧ G.bulkAll gs ≤ bulkDAll ds
  | [], [], [], _, _, _, _, _ => ⟨[], trivial, by simp only [List.map_nil, Rels], by simp [G.bulkAll]⟩
  | t :: ts, v :: vs, d :: ds, ps, hm, hv, ⟨p, q, h1, h2, _⟩, hb => by
    simp only [bulkDAll] at hb ⊢
    obtain ⟨n, g, g1, g2, g3⟩ := arg_rel hS (hm t (by simp)) (hv 0 t v rfl rfl) h1 (by omega)
    obtain ⟨gs, k1, k2, k3⟩ := args_rels hS (fun t ht => hm t (by simp [ht])) (fun j t v ht hv' => hv (j + 1) t v (by simpa using ht) (by simpa using hv')) h2 (by omega)
    refine ⟨g :: gs, ⟨⟨n, g1⟩, k1⟩, ?_, by simp only [G.bulkAll]; omega⟩
    simp only [List.map_cons, Rels]
    exact ⟨v, vs, rfl, g2, k2⟩
  | [], _ :: _, _, _, _, _, h, _ => h.elim
  | [], [], _ :: _, _, _, _, h, _ => h.elim
  | _ :: _, [], _, _, _, _, h, _ => h.elim
  | _ :: _, _ :: _, [], _, _, _, h, _ => h.elim

theorem trodAll_below {ts : List TypeId} (hl : laidOutB P = true) (hr : ts.all (fun t => P.readableRec t && decide (t < P.types.size)) = true) {W' : World} (hb : Below W.heap.size W W') {sp : Nat → Bool} :
    ∀ {vs : List Value} {ds : List (DataW H)} {ps : List MemPlace}, DataW.TrodAll enc P W 0 (fun _ => true) true ts vs ds ps → (∀ x ∈ ps, x.block < W.heap.size) → (∀ x ∈ ps, sp x.block = true) → DataW.TrodAll enc P W' 0 sp true ts vs ds ps := by
  induction ts with
  | nil =>
    intro vs ds ps h _ _
    match vs, ds, h with
    | [], [], h => exact h
  | cons t ts ih =>
    intro vs ds ps h h1 h2
    match vs, ds, h with
    | v :: vs, d :: ds, ⟨p, q, k1, k2, e⟩ =>
      subst e
      simp only [List.all_cons, Bool.and_eq_true, decide_eq_true_eq] at hr
      refine ⟨p, q, WideElems.Trod_stays hl hr.1.1 hr.1.2 k1 (fun x hx => hb.same (h1 x (by simp [hx]))) (fun x hx => h2 x (by simp [hx])), ih (by simpa using hr.2) k2 (fun x hx => h1 x (by simp [hx])) (fun x hx => h2 x (by simp [hx])), rfl⟩

/-- post_of_same, where of old blocks alone is known that they stand as they were -/
theorem post_of_below {f : Func} {s : ChangeSpec} {W W' : World} {args : Array Value} {v : Value} {ds gs : List (DataW H)} {before pa pv : List MemPlace}
    (hW : DataW.Whole enc P f.params.toList s.vars false W args.toList ds gs before)
    (hres : ∀ (b : Nat) (sp : Nat → Bool) (hd : Bool), DataW.TrodAll enc P W' b sp hd f.resultTypes.toList (v.resultList f.resultTypes.size) (s.fn H (ds ++ gs)).results [])
    (hargs : ∀ sp : Nat → Bool, (∀ p ∈ before, sp p.block = true) → DataW.TrodAll enc P W' 0 sp true f.params.toList args.toList (s.fn H (ds ++ gs)).args pa)
    (hvars : ∀ sp : Nat → Bool, (∀ p ∈ before, sp p.block = true) → DataW.TrodVars enc P W' sp s.vars (s.fn H (ds ++ gs)).vars pv)
    (hps : before = pa ++ pv) (hb : Below W.heap.size W W')
    (hok : ∀ (j : Nat) (t : TypeId) (r : Value), f.resultTypes[j]? = some t → (v.resultList f.resultTypes.size)[j]? = some r → Value.okWide P W' .any 0 t r) :
    s.post enc P f false true false false W args v W' := by
  have hold : ∀ p ∈ before, (fun b => decide (b < W.heap.size)) p.block = true := fun p hp => by simpa using hW.lt p hp
  have hlt : ∀ p ∈ before, p.block < W.heap.size := fun p hp => hW.lt p hp
  refine ⟨ds, gs, before, [], pa, pv, hW, hres _ _ _, hargs _ hold, hvars _ hold, World.keptBut_mono (fun p hp => ⟨hp, ?_⟩) (hb.frame (· ∈ before)), fun _ => ?_⟩
  · rw [hps, List.mem_append] at hp
    exact Or.inr hp
  · obtain ⟨_, _, _, _, _, hz, hn⟩ := hW
    refine ⟨hok, _, _, ([] ++ pa) ++ pv, ⟨[] ++ pa, pv, trodAll_append (hargs _ (fun _ _ => rfl)) (hres _ _ _), hvars _ (fun _ _ => rfl), rfl, ?_, ?_⟩, ?_⟩
    · intro b off hp
      have hp' : MemPlace.cell b off ∈ before := by rw [hps]; simpa using hp
      rw [hb.frozen (p := ⟨b, off, none⟩) (hlt _ hp')]
      exact hz b off hp'
    · intro ha
      cases ha
    · intro p hp _
      rw [hps]
      simpa using hp

theorem entry {f : FuncId} {ts : List TypeId} {S : List TypeId} (hS : flat P S = true) (hm : ∀ t ∈ ts, t ∈ S) {r : Reach} {b0 : Nat} {args : Array Value} {ds : List (DataW H)} {ps : List MemPlace}
    (hval : ∀ (j : Nat) t v, ts[j]? = some t → args.toList[j]? = some v → Value.okWide P W r b0 t v) (h : DataW.TrodAll enc P W 0 (fun _ => true) true ts args.toList ds ps) (hk : bulkDAll ds ≤ 1048576)
    (hG : Glob (frzOf W)) (law : ∀ gs, OkA P ts gs → G.bulkAll gs ≤ 1048576 → CallsT P f (gs.map argC) [] (Ret [] (.bool true))) :
    Calls P f args W fun e W' => e = .returned (.bool true) ∧ Below W.heap.size W W' := by
  obtain ⟨gs, k1, k2, k3⟩ := args_rels hS hm hval h (Nat.le_trans hk (by decide))
  have hc := (law gs k1 (by omega)).out (frzOf W) [] args.toList rfl (fun k => by rw [show (inp []).get k = none from rfl, show (tinp []).get k = none from rfl]; trivial) k2
  have he : ∀ k, (inp []).get k = none := fun _ => rfl
  have hs0 : St (frzOf W) (inp []) W := ⟨fun b o h => h, fun k o h => (by rw [he] at h; cases h), fun k o g h => (by rw [he] at h; cases h), fun k k' o o' g h => (by rw [he] at h; cases h), hG⟩
  refine Calls.mono (hc.run W hs0) ?_
  rintro e W' ⟨v, F', Lo, rfl, hs, hst, Mo, c, q1, q2, q3, q4, rfl, rfl⟩
  simp only [Rel] at q3
  subst q3
  exact ⟨rfl, hst.os, hst.tape, hst.output, hst.size, fun k hk => hst.same k hk (by rintro ⟨_, _, h, _⟩; cases h)⟩

theorem contract_bool {f : FuncId} {fn : Func} {s : ChangeSpec} {S : List TypeId} {tb : TypeId} (hl : laidOutB P = true) (hS : flat P S = true) (hm : fn.params.toList.all (fun t => S.contains t && (P.readableRec t && decide (t < P.types.size))) = true)
    (hres : fn.resultTypes = #[tb]) (htb : P.underlying tb = some .bool) (hvars : s.vars = [])
    (law : ∀ gs, OkA P fn.params.toList gs → G.bulkAll gs ≤ 1048576 → CallsT P f (gs.map argC) [] (Ret [] (.bool true)))
    {r : Reach} {b0 : Nat} {args : Array Value} {ds gs : List (DataW H)} {before : List MemPlace} (hfn : s.fn H ds = { results := [.lit (.bool true)], args := ds })
    (hval : ∀ (j : Nat) t v, fn.params[j]? = some t → args[j]? = some v → Value.okWide P W r b0 t v)
    (hW : DataW.Whole enc P fn.params.toList s.vars false W args.toList ds gs before) (hk : bulkDAll ds ≤ 1048576) (hG : Glob (frzOf W) := by exact trivial) :
    Calls P f args W fun e W' => ∃ v, e = .returned v ∧ s.post enc P fn false true false false W args v W' := by
  have hW' := hW
  rw [hvars] at hW
  obtain ⟨p, q, hA, hV, rfl, hfz, hnd⟩ := hW
  obtain ⟨rfl, rfl⟩ := trodVars_none hV
  have hm' := List.all_eq_true.1 hm
  refine (entry hS (fun t ht => by have := hm' t ht; simp only [Bool.and_eq_true, List.contains_iff_mem] at this; exact this.1) (fun j t v h1 h2 => hval j t v (by simpa using h1) (by simpa using h2)) hA hk hG law).mono ?_
  rintro e W' ⟨rfl, hb⟩
  refine ⟨_, rfl, post_of_below (pa := p) (pv := []) hW' ?_ ?_ ?_ rfl hb (ok_one hres rfl (okWide_bool_mk htb _))⟩
  · intro b sp hd
    simp only [List.append_nil, hfn, hres]
    exact trodAll_cons_mk (shut_bool htb _) trodAll_mk0
  · intro sp hsp
    simp only [List.append_nil, hfn]
    exact trodAll_below hl (List.all_eq_true.2 fun t ht => by have := hm' t ht; simp only [Bool.and_eq_true] at this ⊢; exact this.2) hb hA (fun x hx => hW'.lt x (by simp [hx])) (fun x hx => hsp x (by simp [hx]))
  · intro sp hsp
    rw [hvars]
    simp only [List.append_nil, hfn]
    exact rfl
end
end Go.Fr.T

/- Bytes and small numbers among the arguments. -/
set_option linter.unusedVariables false
set_option linter.unusedSimpArgs false
namespace Go.Fr.T
open Go Go.RowKit Go.Fr Go.Fr.Api
def bG (b : UInt8) : G := .int .u8 b.toNat
def isK (P : Program) (t : TypeId) (k : IntKind) : Bool := match P.underlying t with | some (.int k') => decide (k' = k) | _ => false
def isB (P : Program) (t : TypeId) : Bool := match P.underlying t with | some .bool => true | _ => false
theorem isK_ok {P : Program} {t : TypeId} {k : IntKind} (h : isK P t k = true) {n : Nat} {g : G} (hg : Ok P n t g) : ∃ x, g = .int k x ∧ (Lit.int k x).wf = true := by
  simp only [isK] at h
  split at h
  · rename_i k' hu
    have e := of_decide_eq_true h
    subst e
    cases n with
    | zero => exact hg.elim
    | succ n => simp only [Ok, hu] at hg; exact hg
  · cases h
theorem isB_ok {P : Program} {t : TypeId} (h : isB P t = true) {n : Nat} {g : G} (hg : Ok P n t g) : ∃ x, g = .bool x := by
  simp only [isB] at h
  split at h
  · rename_i hu; exact ok_bool hu hg
  · cases h
theorem u8_ok {P : Program} {t : TypeId} (h : isK P t .u8 = true) {n : Nat} {g : G} (hg : Ok P n t g) : ∃ b : UInt8, g = bG b := by
  obtain ⟨x, rfl, hx⟩ := isK_ok h hg
  simp only [Lit.wf, Bool.and_eq_true, decide_eq_true_eq] at hx
  have h1 : 0 ≤ x := hx.1
  have h2 : x ≤ 255 := hx.2
  refine ⟨UInt8.ofNat x.toNat, ?_⟩
  simp only [bG, UInt8.toNat_ofNat']
  congr 1
  omega
theorem u16_ok {P : Program} {t : TypeId} (h : isK P t .u16 = true) {n : Nat} {g : G} (hg : Ok P n t g) : ∃ x : Int, g = .int .u16 x ∧ 0 ≤ x ∧ x ≤ 65535 := by
  obtain ⟨x, rfl, hx⟩ := isK_ok h hg
  simp only [Lit.wf, Bool.and_eq_true, decide_eq_true_eq] at hx
  exact ⟨x, rfl, hx.1, hx.2⟩
theorem i64_ok {P : Program} {t : TypeId} (h : isK P t .i64 = true) {n : Nat} {g : G} (hg : Ok P n t g) : ∃ x : Int, g = .int .i64 x ∧ -9223372036854775808 ≤ x ∧ x ≤ 9223372036854775807 := by
  obtain ⟨x, rfl, hx⟩ := isK_ok h hg
  exact ⟨x, rfl, wf_i64 hx⟩
theorem bytes_ok {P : Program} {t e : TypeId} (hs : isSl P t e 1 = true) (h : isK P e .u8 = true) {n : Nat} {g : G} (hg : Ok P n t g) : ∃ bs : List UInt8, g = .sl 1 (bs.map bG) :=
  isSl_ok hs hg fun _ _ _ hx => u8_ok h hx
theorem argC_bytes (bs : List UInt8) : argC (.sl 1 (bs.map bG)) = .sl (bcells bs) := by
  simp only [argC, gcss_of (f := bG) (h := fun b => [bcell b]) (fun _ => rfl), bcells]
theorem argC_u8 (b : UInt8) : argC (bG b) = bcell b := rfl
theorem bulk_map {α : Type} {f : α → G} (l : List α) : l.length ≤ G.bulkAll (l.map f) := by
  induction l with
  | nil => simp
  | cons x l ih =>
    simp only [List.map_cons, G.bulkAll, List.length_cons]
    have : 1 ≤ (f x).bulk := by cases f x <;> simp only [G.bulk] <;> omega
    omega
theorem bulk_sl {α : Type} {f : α → G} (l : List α) {sz : Nat} : l.length + 1 ≤ (G.sl sz (l.map f)).bulk := by
  have := bulk_map (f := f) l
  simp only [G.bulk]; omega
/-- the arguments, one by one -/
theorem okA_cons {P : Program} {t : TypeId} {ts : List TypeId} {gs : List G} (h : OkA P (t :: ts) gs) : ∃ g r n, gs = g :: r ∧ Ok P n t g ∧ OkA P ts r := by
  cases gs with
  | nil => exact h.elim
  | cons g r => obtain ⟨⟨n, h1⟩, h2⟩ := h; exact ⟨g, r, n, rfl, h1, h2⟩
theorem okA_nil {P : Program} {gs : List G} (h : OkA P [] gs) : gs = [] := by
  cases gs with
  | nil => rfl
  | cons g r => exact h.elim
end Go.Fr.T

/- The records of the program's package of types as arguments. -/
set_option linter.unusedVariables false
set_option linter.unusedSimpArgs false
namespace Go.Fr.T
open Go Go.RowKit Go.Fr Go.Fr.Api
theorem argC_st {l : List G} : argC (.st l) = .agg (gcs (.st l)) := by simp only [argC, gcs]
theorem argC_ty (x : Ty) : argC x.g = .agg (tyC x) := by
  rw [← gcs_ty]; cases x; exact argC_st
theorem argC_fun (x : Fun) : argC x.g = .agg (funC x) := by
  rw [← gcs_fun]; exact argC_st
theorem argC_prog (x : Prog) : argC x.g = .agg (progC x) := by
  rw [← gcs_prog]; exact argC_st
theorem argC_data (x : Api.Data) : argC x.g = .agg (dataC x) := by
  rw [← gcs_data]; exact argC_st
theorem argC_I (n : Int) : argC (I n) = IC n := rfl
theorem argC_ints (l : List Int) : argC (.sl 1 (l.map I)) = .sl (ics l) := by simp only [argC, gcss_I]
theorem argC_tys (l : List Ty) {n : Nat} : argC (.sl n (l.map Ty.g)) = .sl (l.map tyC) := by simp only [argC, gcss_ty]
theorem argC_blocks (l : List Block) {n : Nat} : argC (.sl n (l.map Block.g)) = .sl (l.map blockC) := by simp only [argC, gcss_of gcs_block]
theorem argC_datas (l : List Api.Data) {n : Nat} : argC (.sl n (l.map Data.g)) = .sl (l.map dataC) := by simp only [argC, gcss_of gcs_data]
end Go.Fr.T

/- Contracts that tell of a truth value only what is asked. -/
set_option linter.unusedVariables false
set_option linter.unusedSimpArgs false
namespace Go.Fr.T
open Go Go.RowKit Go.Fr Go.Fr.Api
/-- out of a claim of existence, without a look at the goal -/
theorem exE {α : Sort _} {p : α → Prop} {K : Prop} (h : ∃ x, p x) (H : ∀ x, p x → K) : K := h.elim H
theorem withGet {α : Type} {l : List α} {k : Nat} {K : Prop} (h : k < l.length) (H : ∀ x, l[k]? = some x → x ∈ l → K) : K := H l[k] (List.getElem?_eq_getElem h) (List.getElem_mem h)
theorem withDrop {α : Type} {l : List α} {k : Nat} {K : Prop} (h : k < l.length) (H : ∀ x, l[k]? = some x → x ∈ l → l.drop k = x :: l.drop (k + 1) → K) : K := H l[k] (List.getElem?_eq_getElem h) (List.getElem_mem h) (List.drop_eq_getElem_cons h)
section
variable {P : Program} {L : TL} {ρ : TEnv}
/-- a truth value; if it is true, something holds -/
def Such (p : Prop) : List TO → C → Prop := fun Mo v => Mo = [] ∧ ∃ b, v = .bool b ∧ (b = true → p)
theorem callB {f : Nat} {args args' : List C} {K : TL → TEnv → C → Prop} {p : Prop} (h : CallsT P f args' [] (Such p)) (ha : (args.map fun c => c.canA.ren (toIn [] 1000)) = args') (k : ∀ b : Bool, (b = true → p) → K L ρ (.bool b)) : CallT P f args L ρ K := by
  subst ha
  exact ⟨[], [], [], L, [], _, .inl rfl, rfl, rfl, rfl, rfl, rfl, h, fun v Mo ⟨e1, b, e2, hp⟩ hw _ => by subst e1 e2; exact ⟨rfl, k b hp⟩⟩
theorem callBD {f : Nat} {args args' : List C} {K : TL → TEnv → C → Prop} {d : Option Nat} {p : Prop} (h : CallsT P f args' [] (Such p)) (ha : (args.map fun c => c.canA.ren (toIn [] 1000)) = args') (k : ∀ b : Bool, (b = true → p) → K L ρ (.bool b)) : CallDT P f args L ρ d K := by
  subst ha
  exact .frz _ h fun v Mo ⟨e1, b, e2, hp⟩ hw => by subst e1 e2; exact ⟨rfl, k b hp⟩
theorem retB {Lin : List TO} {v : C} {p : Prop} (b : Bool) (hb : boxesAt Lin (List.range' 1000 Lin.length) [] = true) (e : v.canR.ren (toIn [] 1000) = .bool b) (hp : b = true → p) : RetT Lin L v (Such p) :=
  ⟨[], [], L, v, v, [], rfl, .inl ⟨rfl, rfl⟩, rfl, rfl, hb, fun _ => ⟨rfl, b, e, hp⟩⟩
end
end Go.Fr.T

/- A row that a call hands back may be taken as given up. -/
set_option linter.unusedVariables false
set_option linter.unusedSimpArgs false
namespace Go.Fr.T
open Go Go.RowKit Go.Fr
theorem CallsT.give {P : Program} {f : Nat} {args : List C} {t sz : Nat} {els : List (List C)} (h : CallsT P f args [] (Ret [.row t sz els] (.rw 1000))) : CallsT P f args [] (Ret [] (.sl els)) := by
  refine ⟨fun F Li vs hl htl hr => ?_⟩
  obtain rfl : Li = [] := List.length_eq_zero_iff.1 hl
  have hc := h.out F [] vs rfl htl hr
  refine ⟨hc.ent, ResA.mono', fun w hs => Calls.mono (hc.run w hs) ?_⟩
  rintro e w' ⟨v, F', Lo, rfl, hs', hst, Mo, c, q1, q2, q3, q4, rfl, rfl⟩
  have he0 : EnvOk (inp Lo) (fun _ => .v undef) (⟨#[], []⟩ : Act) := by
    refine ⟨fun j => ?_, fun j k off e => (by cases e), fun j a i e => (by cases e)⟩
    simp [conc]
  obtain ⟨F2, L2, g1, g2, g3, g4, g5⟩ := frz1_sound (G := fun _ => none) (k := 1000) hs' he0 (τ := fun _ => .any) ⟨q2, fun j => trivial, fun k g t e => (by cases e)⟩ (show (tinp [TO.row t sz els]).get 1000 = some (.row t sz els) from rfl)
  refine ⟨v, F2, [], rfl, g1.part (fun k o e => by cases e), ?_, [], .sl els, rfl, fun k => trivial, ?_, fun i g t cs e => (by cases e), rfl, rfl⟩
  · have hs2 := hst.trans g3
    exact ⟨hs2.le, hs2.os, hs2.tape, hs2.output, hs2.size, hs2.same, hs2.frz, fun b ⟨k, o, e, _⟩ => (by cases e)⟩
  · have := g5 q3
    have e : (C.rw 1000).frz 1000 els = .sl els := rfl
    rw [e] at this
    simp only [Rel] at this ⊢
    exact this
end Go.Fr.T

/- A box that a call hands back may be taken as given up. -/
set_option linter.unusedVariables false
set_option linter.unusedSimpArgs false
namespace Go.Fr.T
open Go Go.RowKit Go.Fr
theorem CallsT.giveB {P : Program} {f : Nat} {args : List C} {t : TypeId} {cs : List C} (h : CallsT P f args [] (Ret [.box t cs] (.own 1000 0))) (h1 : onesL cs = true) (hp : puresL cs = true) : CallsT P f args [] (Ret [] (.pt cs 0)) := by
  refine ⟨fun F Li vs hl htl hr => ?_⟩
  obtain rfl : Li = [] := List.length_eq_zero_iff.1 hl
  have hc := h.out F [] vs rfl htl hr
  refine ⟨hc.ent, ResA.mono', fun w hs => Calls.mono (hc.run w hs) ?_⟩
  rintro e w' ⟨v, F', Lo, rfl, hs', hst, Mo, c, q1, q2, q3, q4, rfl, rfl⟩
  have he0 : EnvOk (inp Lo) (fun _ => .v undef) (⟨#[], []⟩ : Act) := by
    refine ⟨fun j => ?_, fun j k off e => (by cases e), fun j a i e => (by cases e)⟩
    simp [conc]
  simp only [Rel] at q3
  obtain ⟨g, t2, us, e1, rfl⟩ := q3
  have hk := q2 1000
  rw [e1] at hk
  obtain ⟨rfl, hus⟩ : t = t2 ∧ Rels F' (inp Lo) cs us := hk
  obtain ⟨F2, hle, hg, g1, g2, g3⟩ := frzB_sound hs' he0 e1
  refine ⟨_, F2, [], rfl, g1.part (fun k o e => by cases e), ?_, [], .pt cs 0, rfl, fun k => trivial, ?_, fun i g t cs e => (by cases e), rfl, rfl⟩
  · have hs2 := hst.trans g3
    exact ⟨hs2.le, hs2.os, hs2.tape, hs2.output, hs2.size, hs2.same, hs2.frz, fun b ⟨k, o, e, _⟩ => (by cases e)⟩
  · simp only [Rel]
    refine ⟨g, 0, us, rfl, ⟨0, us.toArray, _, _, hg, rfl, fun i v hv => by simpa using hv⟩, h1, ?_⟩
    exact pures_rel hp (hus.mono hle)
end Go.Fr.T
