/- The records of the program's package of types, as data of Lean, and as cells. -/
import Derived.Test.YtgapnemcomkomaaFrEntry
set_option linter.unusedVariables false
set_option linter.unusedSimpArgs false
namespace Go.Fr
open Go Go.RowKit
namespace Api

abbrev I (n : Int) : G := .int .i64 n
inductive Ty where
  | mk (kind id : Int) (args : List Ty)
  deriving Inhabited
def Ty.kind : Ty → Int | .mk k _ _ => k
def Ty.id : Ty → Int | .mk _ i _ => i
def Ty.args : Ty → List Ty | .mk _ _ l => l
mutual
def Ty.g : Ty → G
  | .mk k i l => .st [I k, I i, .sl 3 (Ty.gs l)]
def Ty.gs : List Ty → List G
  | [] => []
  | t :: l => t.g :: Ty.gs l
end
theorem Ty.gs_map : ∀ l : List Ty, Ty.gs l = l.map Ty.g
  | [] => rfl
  | t :: l => by simp [Ty.gs, Ty.gs_map l]
structure Bound where
  param : Int
  trait : Int
def Bound.g (b : Bound) : G := .st [I b.param, I b.trait]
structure Term where
  kind : Int
  a : Int
  targets : List Int
def Term.g (x : Term) : G := .st [I x.kind, I x.a, .sl 1 (x.targets.map I)]
structure Ins where
  op : Int
  dst : Int
  a : Int
  b : Int
  n : Int
  args : List Int
  types : List Ty
def Ins.g (x : Ins) : G := .st [I x.op, I x.dst, I x.a, I x.b, I x.n, .sl 1 (x.args.map I), .sl 3 (x.types.map Ty.g)]
structure Block where
  code : List Ins
  fin : Term
def Block.g (x : Block) : G := .st [.sl 7 (x.code.map Ins.g), x.fin.g]
structure Fun where
  name : ByteArray
  module : Int
  params : Int
  bounds : List Bound
  arity : Int
  result : Ty
  locals : List Ty
  blocks : List Block
  ties : List Int
def Fun.g (f : Fun) : G := .st [.str f.name, I f.module, I f.params, .sl 2 (f.bounds.map Bound.g), I f.arity, f.result.g, .sl 3 (f.locals.map Ty.g), .sl 4 (f.blocks.map Block.g), .sl 1 (f.ties.map I)]
structure Variant where
  name : ByteArray
  fields : List Ty
def Variant.g (x : Variant) : G := .st [.str x.name, .sl 3 (x.fields.map Ty.g)]
structure Data where
  name : ByteArray
  module : Int
  params : Int
  variants : List Variant
  drop : Int
def Data.g (d : Data) : G := .st [.str d.name, I d.module, I d.params, .sl 2 (d.variants.map Variant.g), I d.drop]
structure Impl where
  trait : Int
  module : Int
  params : Int
  bounds : List Bound
  type : Ty
  func : Int
def Impl.g (x : Impl) : G := .st [I x.trait, I x.module, I x.params, .sl 2 (x.bounds.map Bound.g), x.type.g, I x.func]
structure Prog where
  modules : List ByteArray
  uses : List (List Int)
  datas : List Data
  traits : List ByteArray
  homes : List Int
  impls : List Impl
  funcs : List Fun
  main : Int
def Prog.g (p : Prog) : G := .st [.sl 1 (p.modules.map .str), .sl 1 (p.uses.map fun l => .sl 1 (l.map I)), .sl 5 (p.datas.map Data.g), .sl 1 (p.traits.map .str), .sl 1 (p.homes.map I), .sl 8 (p.impls.map Impl.g), .sl 11 (p.funcs.map Fun.g), I p.main]

/- what the cells are -/
section
variable {F : Frz} {cs : List Value}
theorem rd_int {n : Int} : Rd F (I n) cs ↔ cs = [.int .i64 n] ∧ (Lit.int .i64 n).wf = true := by simp only [Rd]
theorem rd_ty {t : Ty} : Rd F t.g cs ↔ ∃ a c, cs = [.int .i64 t.kind, .int .i64 t.id, .slice a t.args.length c] ∧ (Lit.int .i64 t.kind).wf = true ∧ (Lit.int .i64 t.id).wf = true ∧ Sl F 3 (t.args.map Ty.g) a c := by
  obtain ⟨k, i, l⟩ := t
  simp only [Ty.g, Rd, RdAll, Ty.gs_map, Ty.kind, Ty.id, Ty.args]
  constructor
  · rintro ⟨c1, c2, rfl, ⟨rfl, h1⟩, c3, c4, rfl, ⟨rfl, h2⟩, c5, c6, rfl, h, rfl⟩
    obtain ⟨a, c, rfl, h3⟩ := Rd_sl.1 (show Rd F (.sl 3 (l.map Ty.g)) c5 by simp only [Rd]; exact h)
    exact ⟨a, c, by simp, h1, h2, h3⟩
  · rintro ⟨a, c, rfl, h1, h2, h3⟩
    refine ⟨_, _, rfl, ⟨rfl, h1⟩, _, _, rfl, ⟨rfl, h2⟩, [.slice a l.length c], [], rfl, ?_, rfl⟩
    have : Rd F (.sl 3 (l.map Ty.g)) [.slice a l.length c] := Rd_sl.2 ⟨a, c, by simp, h3⟩
    simpa only [Rd] using this
theorem rd_st2 {x y : G} : Rd F (.st [x, y]) cs ↔ ∃ c1 c2, cs = c1 ++ c2 ∧ Rd F x c1 ∧ Rd F y c2 := by
  simp only [Rd, RdAll]
  constructor
  · rintro ⟨c1, c2, rfl, h1, c3, c4, rfl, h2, rfl⟩
    exact ⟨c1, c3, by simp, h1, h2⟩
  · rintro ⟨c1, c2, rfl, h1, h2⟩
    exact ⟨c1, c2, rfl, h1, c2, [], by simp, h2, rfl⟩
theorem rd_cons {x : G} {l : List G} (hl : l ≠ []) : Rd F (.st (x :: l)) cs ↔ ∃ c1 c2, cs = c1 ++ c2 ∧ Rd F x c1 ∧ Rd F (.st l) c2 := by
  simp only [Rd, RdAll]
theorem rd_one {x : G} : Rd F (.st [x]) cs ↔ Rd F x cs := by
  simp only [Rd, RdAll]
  constructor
  · rintro ⟨c1, c2, rfl, h, rfl⟩; simpa using h
  · intro h; exact ⟨cs, [], by simp, h, rfl⟩
theorem rd_str {s : ByteArray} : Rd F (.str s) cs ↔ cs = [.string s] := by simp only [Rd]
theorem rd_bound {b : Bound} : Rd F b.g cs ↔ cs = [.int .i64 b.param, .int .i64 b.trait] ∧ (Lit.int .i64 b.param).wf = true ∧ (Lit.int .i64 b.trait).wf = true := by
  simp only [Bound.g, rd_st2, rd_int]
  constructor
  · rintro ⟨c1, c2, rfl, ⟨rfl, h1⟩, rfl, h2⟩; exact ⟨rfl, h1, h2⟩
  · rintro ⟨rfl, h1, h2⟩; exact ⟨_, _, rfl, ⟨rfl, h1⟩, rfl, h2⟩
/-- from the parts to the whole, one way: what a walk needs -/
theorem rd_term {x : Term} (h : Rd F x.g cs) : ∃ a c, cs = [.int .i64 x.kind, .int .i64 x.a, .slice a x.targets.length c] ∧ (Lit.int .i64 x.kind).wf = true ∧ (Lit.int .i64 x.a).wf = true ∧ Sl F 1 (x.targets.map I) a c := by
  simp only [Term.g, rd_cons (List.cons_ne_nil _ _), rd_one, rd_int, Rd_sl] at h
  obtain ⟨c1, _, rfl, ⟨rfl, h1⟩, c2, _, rfl, ⟨rfl, h2⟩, a, c, rfl, h3⟩ := h
  exact ⟨a, c, by simp, h1, h2, h3⟩
theorem rd_ins {x : Ins} (h : Rd F x.g cs) : ∃ a1 c1 a2 c2, cs = [.int .i64 x.op, .int .i64 x.dst, .int .i64 x.a, .int .i64 x.b, .int .i64 x.n, .slice a1 x.args.length c1, .slice a2 x.types.length c2] ∧
    ((Lit.int .i64 x.op).wf = true ∧ (Lit.int .i64 x.dst).wf = true ∧ (Lit.int .i64 x.a).wf = true ∧ (Lit.int .i64 x.b).wf = true ∧ (Lit.int .i64 x.n).wf = true) ∧ Sl F 1 (x.args.map I) a1 c1 ∧ Sl F 3 (x.types.map Ty.g) a2 c2 := by
  simp only [Ins.g, rd_cons (List.cons_ne_nil _ _), rd_one, rd_int, Rd_sl] at h
  obtain ⟨_, _, rfl, ⟨rfl, h1⟩, _, _, rfl, ⟨rfl, h2⟩, _, _, rfl, ⟨rfl, h3⟩, _, _, rfl, ⟨rfl, h4⟩, _, _, rfl, ⟨rfl, h5⟩, _, _, rfl, ⟨a1, c1, rfl, h6⟩, a2, c2, rfl, h7⟩ := h
  exact ⟨a1, c1, a2, c2, by simp, ⟨h1, h2, h3, h4, h5⟩, h6, h7⟩
theorem rd_block {x : Block} (h : Rd F x.g cs) : ∃ a1 c1 a2 c2, cs = [.slice a1 x.code.length c1, .int .i64 x.fin.kind, .int .i64 x.fin.a, .slice a2 x.fin.targets.length c2] ∧
    ((Lit.int .i64 x.fin.kind).wf = true ∧ (Lit.int .i64 x.fin.a).wf = true) ∧ Sl F 7 (x.code.map Ins.g) a1 c1 ∧ Sl F 1 (x.fin.targets.map I) a2 c2 := by
  simp only [Block.g, rd_cons (List.cons_ne_nil _ _), rd_one, Rd_sl] at h
  obtain ⟨_, _, rfl, ⟨a1, c1, rfl, h1⟩, h2⟩ := h
  obtain ⟨a2, c2, rfl, h3, h4, h5⟩ := rd_term h2
  exact ⟨a1, c1, a2, c2, by simp, ⟨h3, h4⟩, h1, h5⟩
theorem rd_func {x : Fun} (h : Rd F x.g cs) : ∃ a1 c1 a2 c2 a3 c3 a4 c4 a5 c5, cs = [.string x.name, .int .i64 x.module, .int .i64 x.params, .slice a1 x.bounds.length c1, .int .i64 x.arity,
      .int .i64 x.result.kind, .int .i64 x.result.id, .slice a2 x.result.args.length c2, .slice a3 x.locals.length c3, .slice a4 x.blocks.length c4, .slice a5 x.ties.length c5] ∧
    ((Lit.int .i64 x.module).wf = true ∧ (Lit.int .i64 x.params).wf = true ∧ (Lit.int .i64 x.arity).wf = true ∧ (Lit.int .i64 x.result.kind).wf = true ∧ (Lit.int .i64 x.result.id).wf = true) ∧
    Sl F 2 (x.bounds.map Bound.g) a1 c1 ∧ Sl F 3 (x.result.args.map Ty.g) a2 c2 ∧ Sl F 3 (x.locals.map Ty.g) a3 c3 ∧ Sl F 4 (x.blocks.map Block.g) a4 c4 ∧ Sl F 1 (x.ties.map I) a5 c5 := by
  simp only [Fun.g, rd_cons (List.cons_ne_nil _ _), rd_one, rd_int, rd_str, Rd_sl, rd_ty] at h
  obtain ⟨_, _, rfl, rfl, _, _, rfl, ⟨rfl, h1⟩, _, _, rfl, ⟨rfl, h2⟩, _, _, rfl, ⟨a1, c1, rfl, h3⟩, _, _, rfl, ⟨rfl, h4⟩, _, _, rfl, ⟨a2, c2, rfl, h5, h6, h7⟩, _, _, rfl, ⟨a3, c3, rfl, h8⟩, _, _, rfl, ⟨a4, c4, rfl, h9⟩, a5, c5, rfl, h10⟩ := h
  exact ⟨a1, c1, a2, c2, a3, c3, a4, c4, a5, c5, by simp, ⟨h1, h2, h4, h5, h6⟩, h3, h7, h8, h9, h10⟩
theorem rd_variant {x : Variant} (h : Rd F x.g cs) : ∃ a c, cs = [.string x.name, .slice a x.fields.length c] ∧ Sl F 3 (x.fields.map Ty.g) a c := by
  simp only [Variant.g, rd_cons (List.cons_ne_nil _ _), rd_one, rd_str, Rd_sl] at h
  obtain ⟨_, _, rfl, rfl, a, c, rfl, h1⟩ := h
  exact ⟨a, c, by simp, h1⟩
theorem rd_data {x : Data} (h : Rd F x.g cs) : ∃ a c, cs = [.string x.name, .int .i64 x.module, .int .i64 x.params, .slice a x.variants.length c, .int .i64 x.drop] ∧
    ((Lit.int .i64 x.module).wf = true ∧ (Lit.int .i64 x.params).wf = true ∧ (Lit.int .i64 x.drop).wf = true) ∧ Sl F 2 (x.variants.map Variant.g) a c := by
  simp only [Data.g, rd_cons (List.cons_ne_nil _ _), rd_one, rd_int, rd_str, Rd_sl] at h
  obtain ⟨_, _, rfl, rfl, _, _, rfl, ⟨rfl, h1⟩, _, _, rfl, ⟨rfl, h2⟩, _, _, rfl, ⟨a, c, rfl, h3⟩, rfl, h4⟩ := h
  exact ⟨a, c, by simp, ⟨h1, h2, h4⟩, h3⟩
theorem rd_impl {x : Impl} (h : Rd F x.g cs) : ∃ a1 c1 a2 c2, cs = [.int .i64 x.trait, .int .i64 x.module, .int .i64 x.params, .slice a1 x.bounds.length c1, .int .i64 x.type.kind, .int .i64 x.type.id, .slice a2 x.type.args.length c2, .int .i64 x.func] ∧
    ((Lit.int .i64 x.trait).wf = true ∧ (Lit.int .i64 x.module).wf = true ∧ (Lit.int .i64 x.params).wf = true ∧ (Lit.int .i64 x.type.kind).wf = true ∧ (Lit.int .i64 x.type.id).wf = true ∧ (Lit.int .i64 x.func).wf = true) ∧
    Sl F 2 (x.bounds.map Bound.g) a1 c1 ∧ Sl F 3 (x.type.args.map Ty.g) a2 c2 := by
  simp only [Impl.g, rd_cons (List.cons_ne_nil _ _), rd_one, rd_int, Rd_sl, rd_ty] at h
  obtain ⟨_, _, rfl, ⟨rfl, h1⟩, _, _, rfl, ⟨rfl, h2⟩, _, _, rfl, ⟨rfl, h3⟩, _, _, rfl, ⟨a1, c1, rfl, h4⟩, _, _, rfl, ⟨a2, c2, rfl, h5, h6, h7⟩, rfl, h8⟩ := h
  exact ⟨a1, c1, a2, c2, by simp, ⟨h1, h2, h3, h5, h6, h8⟩, h4, h7⟩
theorem rd_program {x : Prog} (h : Rd F x.g cs) : ∃ a1 c1 a2 c2 a3 c3 a4 c4 a5 c5 a6 c6 a7 c7, cs = [.slice a1 x.modules.length c1, .slice a2 x.uses.length c2, .slice a3 x.datas.length c3, .slice a4 x.traits.length c4, .slice a5 x.homes.length c5,
      .slice a6 x.impls.length c6, .slice a7 x.funcs.length c7, .int .i64 x.main] ∧ (Lit.int .i64 x.main).wf = true ∧
    Sl F 1 (x.modules.map .str) a1 c1 ∧ Sl F 1 (x.uses.map fun l => .sl 1 (l.map I)) a2 c2 ∧ Sl F 5 (x.datas.map Data.g) a3 c3 ∧ Sl F 1 (x.traits.map .str) a4 c4 ∧ Sl F 1 (x.homes.map I) a5 c5 ∧ Sl F 8 (x.impls.map Impl.g) a6 c6 ∧ Sl F 11 (x.funcs.map Fun.g) a7 c7 := by
  simp only [Prog.g, rd_cons (List.cons_ne_nil _ _), rd_one, rd_int, Rd_sl] at h
  obtain ⟨_, _, rfl, ⟨a1, c1, rfl, h1⟩, _, _, rfl, ⟨a2, c2, rfl, h2⟩, _, _, rfl, ⟨a3, c3, rfl, h3⟩, _, _, rfl, ⟨a4, c4, rfl, h4⟩, _, _, rfl, ⟨a5, c5, rfl, h5⟩, _, _, rfl, ⟨a6, c6, rfl, h6⟩, _, _, rfl, ⟨a7, c7, rfl, h7⟩, rfl, h8⟩ := h
  exact ⟨a1, c1, a2, c2, a3, c3, a4, c4, a5, c5, a6, c6, a7, c7, by simp, h8, h1, h2, h3, h4, h5, h6, h7⟩
end
end Api
end Go.Fr
