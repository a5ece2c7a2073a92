/- Data that was read, and the records of the program's package of types, as cells. -/
import Derived.Test.YtgapnemcomkomaaTlUse
import Derived.Test.YtgapnemcomkomaaFrApi2
set_option linter.unusedVariables false
set_option linter.unusedSimpArgs false
namespace Go.Fr.T
open Go Go.RowKit Go.Fr

mutual
def gcs : G → List C
  | .int k n => [.int k n]
  | .bool b => [.bool b]
  | .str s => [.str s]
  | .sl _ l => [.sl (gcss l)]
  | .st l => gflat l
def gcss : List G → List (List C)
  | [] => []
  | x :: l => gcs x :: gcss l
def gflat : List G → List C
  | [] => []
  | x :: l => gcs x ++ gflat l
end
theorem gcss_map : ∀ l : List G, gcss l = l.map gcs
  | [] => rfl
  | x :: l => by simp only [gcss, List.map_cons, gcss_map l]
theorem onesL_append {a b : List C} (h : onesL a = true) (k : onesL b = true) : onesL (a ++ b) = true := by
  rw [onesL_iff] at *
  intro c hc
  rcases List.mem_append.1 hc with hc | hc
  · exact h c hc
  · exact k c hc
mutual
theorem rd_rels {F : Frz} : ∀ {g : G} {cs : List Value}, Rd F g cs → g.bulk ≤ maxLen → Rels F [] (gcs g) cs ∧ onesL (gcs g) = true
  | .int k n, cs, h, hb => by
    simp only [Rd] at h
    obtain ⟨rfl, h⟩ := h
    simp only [gcs, Rels, Rel]
    exact ⟨⟨_, _, rfl, ⟨rfl, h⟩, rfl⟩, rfl⟩
  | .bool b, cs, h, hb => by
    simp only [Rd] at h
    subst h
    simp only [gcs, Rels, Rel]
    exact ⟨⟨_, _, rfl, rfl, rfl⟩, rfl⟩
  | .str s, cs, h, hb => by
    simp only [Rd] at h
    subst h
    simp only [G.bulk] at hb
    simp only [gcs, Rels, Rel]
    exact ⟨⟨_, _, rfl, ⟨rfl, by omega⟩, rfl⟩, rfl⟩
  | .sl sz l, cs, h, hb => by
    simp only [Rd] at h
    obtain ⟨a, c, rfl, h1, h2, h3, h4⟩ := h
    simp only [G.bulk] at hb
    have hl : (gcss l).length = l.length := by simp [gcss_map]
    simp only [gcs, Rels, Rel]
    refine ⟨⟨_, _, rfl, ⟨a, c, by rw [hl], by rw [hl]; exact h1, by rw [hl]; omega, fun e => ?_, sz, rdSl_rels h4 (by omega)⟩, rfl⟩, rfl⟩
    obtain ⟨e1, e2⟩ := h3 e
    subst e1
    exact ⟨rfl, e2⟩
  | .st l, cs, h, hb => by
    simp only [Rd] at h
    simp only [G.bulk] at hb
    simp only [gcs]
    exact rdAll_rels h (by omega)
theorem rdSl_rels {F : Frz} {a : Option Addr} {sz : Nat} : ∀ {i : Nat} {l : List G}, RdSl F a sz i l → G.bulkAll l ≤ maxLen → RelS F a sz i (gcss l)
  | _, [], _, _ => by simp only [gcss, RelS]
  | i, x :: l, h, hb => by
    simp only [RdSl] at h
    obtain ⟨⟨es, h1, h2, h3⟩, h4⟩ := h
    simp only [G.bulkAll] at hb
    obtain ⟨r1, r2⟩ := rd_rels h3 (by omega)
    simp only [gcss, RelS]
    exact ⟨⟨es, h1, h2, r2, r1⟩, rdSl_rels h4 (by omega)⟩
theorem rdAll_rels {F : Frz} : ∀ {l : List G} {cs : List Value}, RdAll F l cs → G.bulkAll l ≤ maxLen → Rels F [] (gflat l) cs ∧ onesL (gflat l) = true
  | [], cs, h, _ => by simp only [RdAll] at h; subst h; simp only [gflat, Rels]; exact ⟨trivial, rfl⟩
  | x :: l, cs, h, hb => by
    simp only [RdAll] at h
    obtain ⟨c1, c2, rfl, h1, h2⟩ := h
    simp only [G.bulkAll] at hb
    obtain ⟨r1, r2⟩ := rd_rels h1 (by omega)
    obtain ⟨q1, q2⟩ := rdAll_rels h2 (by omega)
    simp only [gflat]
    exact ⟨r1.append q1, onesL_append r2 q2⟩
end

open Api
abbrev IC (n : Int) : C := .int .i64 n
def ics (l : List Int) : List (List C) := l.map fun n => [IC n]
def scs (l : List ByteArray) : List (List C) := l.map fun s => [C.str s]
mutual
def tyC : Ty → List C
  | .mk k i l => [IC k, IC i, .sl (tyCs l)]
def tyCs : List Ty → List (List C)
  | [] => []
  | t :: l => tyC t :: tyCs l
end
theorem tyCs_map : ∀ l : List Ty, tyCs l = l.map tyC
  | [] => rfl
  | t :: l => by simp only [tyCs, List.map_cons, tyCs_map l]
theorem tyC_eq (t : Ty) : tyC t = [IC t.kind, IC t.id, .sl (t.args.map tyC)] := by
  cases t
  simp only [tyC, tyCs_map, Ty.kind, Ty.id, Ty.args]
def boundC (b : Bound) : List C := [IC b.param, IC b.trait]
def termC (x : Term) : List C := [IC x.kind, IC x.a, .sl (ics x.targets)]
def insC (x : Ins) : List C := [IC x.op, IC x.dst, IC x.a, IC x.b, IC x.n, .sl (ics x.args), .sl (x.types.map tyC)]
def blockC (x : Block) : List C := [.sl (x.code.map insC), IC x.fin.kind, IC x.fin.a, .sl (ics x.fin.targets)]
def funC (f : Fun) : List C := [.str f.name, IC f.module, IC f.params, .sl (f.bounds.map boundC), IC f.arity, IC f.result.kind, IC f.result.id, .sl (f.result.args.map tyC), .sl (f.locals.map tyC), .sl (f.blocks.map blockC), .sl (ics f.ties)]
def variantC (x : Variant) : List C := [.str x.name, .sl (x.fields.map tyC)]
def dataC (d : Api.Data) : List C := [.str d.name, IC d.module, IC d.params, .sl (d.variants.map variantC), IC d.drop]
def implC (x : Impl) : List C := [IC x.trait, IC x.module, IC x.params, .sl (x.bounds.map boundC), IC x.type.kind, IC x.type.id, .sl (x.type.args.map tyC), IC x.func]
def progC (p : Prog) : List C := [.sl (scs p.modules), .sl (p.uses.map fun l => [.sl (ics l)]), .sl (p.datas.map dataC), .sl (scs p.traits), .sl (ics p.homes), .sl (p.impls.map implC), .sl (p.funcs.map funC), IC p.main]

theorem gcs_I (n : Int) : gcs (I n) = [IC n] := rfl
theorem gcss_of {α : Type} {f : α → G} {h : α → List C} (hf : ∀ x, gcs (f x) = h x) (l : List α) : gcss (l.map f) = l.map h := by
  rw [gcss_map, List.map_map]
  exact List.map_congr_left fun x _ => hf x
theorem gcss_I (l : List Int) : gcss (l.map I) = ics l := gcss_of (fun _ => rfl) l
theorem gcss_S (l : List ByteArray) : gcss (l.map .str) = scs l := gcss_of (fun _ => rfl) l
mutual
theorem gcs_ty : ∀ t : Ty, gcs t.g = tyC t
  | .mk k i l => by simp only [Ty.g, gcs, gflat, tyC, gcs_tys l, List.append_nil, List.cons_append, List.nil_append]
theorem gcs_tys : ∀ l : List Ty, gcss (Ty.gs l) = tyCs l
  | [] => rfl
  | t :: l => by simp only [Ty.gs, gcss, tyCs, gcs_ty t, gcs_tys l]
end
theorem gcss_ty (l : List Ty) : gcss (l.map Ty.g) = l.map tyC := gcss_of gcs_ty l
theorem gcs_bound (b : Bound) : gcs b.g = boundC b := rfl
theorem gcs_term (x : Term) : gcs x.g = termC x := by simp only [Term.g, gcs, gflat, termC, gcss_I, List.append_nil, List.cons_append, List.nil_append]
theorem gcs_ins (x : Ins) : gcs x.g = insC x := by simp only [Ins.g, gcs, gflat, insC, gcss_I, gcss_ty, List.append_nil, List.cons_append, List.nil_append]
theorem gcs_block (x : Block) : gcs x.g = blockC x := by simp only [Block.g, gcs, gflat, blockC, gcs_term, termC, gcss_of gcs_ins, List.append_nil, List.cons_append, List.nil_append]
theorem gcs_fun (f : Fun) : gcs f.g = funC f := by simp only [Fun.g, gcs, gflat, funC, gcs_ty, tyC_eq, gcss_ty, gcss_I, gcss_of gcs_bound, gcss_of gcs_block, List.append_nil, List.cons_append, List.nil_append]
theorem gcs_variant (x : Variant) : gcs x.g = variantC x := by simp only [Variant.g, gcs, gflat, variantC, gcss_ty, List.append_nil, List.cons_append, List.nil_append]
theorem gcs_data (x : Api.Data) : gcs x.g = dataC x := by simp only [Data.g, gcs, gflat, dataC, gcss_of gcs_variant, List.append_nil, List.cons_append, List.nil_append]
theorem gcs_impl (x : Impl) : gcs x.g = implC x := by simp only [Impl.g, gcs, gflat, implC, gcs_ty, tyC_eq, gcss_of gcs_bound, List.append_nil, List.cons_append, List.nil_append]
theorem gcs_prog (x : Prog) : gcs x.g = progC x := by
  simp only [Prog.g, gcs, gflat, progC, gcss_I, gcss_S, gcss_of gcs_data, gcss_of gcs_impl, gcss_of gcs_fun, List.append_nil, List.cons_append, List.nil_append]
  rw [gcss_of (f := fun l => G.sl 1 (l.map I)) (h := fun l => [C.sl (ics l)]) (fun l => by simp only [gcs, gcss_I])]
/-- an element of a list of numbers -/
theorem idxI {l : List Int} {k : Nat} {x : Int} {K : List C → Prop} (hx : l[k]? = some x) (h : K [IC x]) : IdxT (ics l) (k : Int) 1 K := ⟨[IC x], by omega, by simp [ics, hx], rfl, h⟩
theorem idxS {l : List ByteArray} {k : Nat} {x : ByteArray} {K : List C → Prop} (hx : l[k]? = some x) (h : K [.str x]) : IdxT (scs l) (k : Int) 1 K := ⟨[.str x], by omega, by simp [scs, hx], rfl, h⟩
theorem idxTy {l : List Ty} {k : Nat} {x : Ty} {K : List C → Prop} (hx : l[k]? = some x) (h : K [IC x.kind, IC x.id, .sl (x.args.map tyC)]) : IdxT (l.map tyC) (k : Int) 3 K := idxT hx (tyC_eq x) rfl h
theorem wf_I {n : Int} (h : Wf (IC n)) : -9223372036854775808 ≤ n ∧ n ≤ 9223372036854775807 := by simp only [Wf] at h; exact wf_i64 h
end Go.Fr.T
