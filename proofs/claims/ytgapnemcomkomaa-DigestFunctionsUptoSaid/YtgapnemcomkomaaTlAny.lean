/- Contracts that tell of a truth value only what is asked. -/
import Derived.Test.YtgapnemcomkomaaTlArg
set_option linter.unusedVariables false
set_option linter.unusedSimpArgs false
namespace Go.Fr.T
open Go Go.RowKit Go.Fr Go.Fr.Api
/-- out of a claim of existence, without a look at the goal -/
theorem exE {α : Sort _} {p : α → Prop} {K : Prop} (h : ∃ x, p x) (H : ∀ x, p x → K) : K := h.elim H
theorem withGet {α : Type} {l : List α} {k : Nat} {K : Prop} (h : k < l.length) (H : ∀ x, l[k]? = some x → x ∈ l → K) : K := H l[k] (List.getElem?_eq_getElem h) (List.getElem_mem h)
theorem withDrop {α : Type} {l : List α} {k : Nat} {K : Prop} (h : k < l.length) (H : ∀ x, l[k]? = some x → x ∈ l → l.drop k = x :: l.drop (k + 1) → K) : K := H l[k] (List.getElem?_eq_getElem h) (List.getElem_mem h) (List.drop_eq_getElem_cons h)
section
variable {P : Program} {L : TL} {ρ : TEnv}
/-- a truth value; if it is true, something holds -/
def Such (p : Prop) : List TO → C → Prop := fun Mo v => Mo = [] ∧ ∃ b, v = .bool b ∧ (b = true → p)
theorem callB {f : Nat} {args args' : List C} {K : TL → TEnv → C → Prop} {p : Prop} (h : CallsT P f args' [] (Such p)) (ha : (args.map fun c => c.canA.ren (toIn [] 1000)) = args') (k : ∀ b : Bool, (b = true → p) → K L ρ (.bool b)) : CallT P f args L ρ K := by
  subst ha
  exact ⟨[], [], [], L, [], _, .inl rfl, rfl, rfl, rfl, rfl, rfl, h, fun v Mo ⟨e1, b, e2, hp⟩ hw _ => by subst e1 e2; exact ⟨rfl, k b hp⟩⟩
theorem callBD {f : Nat} {args args' : List C} {K : TL → C → Prop} {d : Option Nat} {p : Prop} (h : CallsT P f args' [] (Such p)) (ha : (args.map fun c => c.canA.ren (toIn [] 1000)) = args') (k : ∀ b : Bool, (b = true → p) → K L (.bool b)) : CallDT P f args L d K := by
  subst ha
  exact .frz _ h fun v Mo ⟨e1, b, e2, hp⟩ hw => by subst e1 e2; exact ⟨rfl, k b hp⟩
theorem retB {Lin : List TO} {v : C} {p : Prop} (b : Bool) (hb : boxesAt Lin (List.range' 1000 Lin.length) [] = true) (e : v.canR.ren (toIn [] 1000) = .bool b) (hp : b = true → p) : RetT Lin L v (Such p) :=
  ⟨[], [], L, v, v, [], rfl, .inl ⟨rfl, rfl⟩, rfl, rfl, hb, fun _ => ⟨rfl, b, e, hp⟩⟩
end
end Go.Fr.T
