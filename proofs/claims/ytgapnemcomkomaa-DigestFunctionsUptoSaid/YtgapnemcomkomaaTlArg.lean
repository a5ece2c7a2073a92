/- The records of the program's package of types as arguments. -/
import Derived.Test.YtgapnemcomkomaaTlBytes
set_option linter.unusedVariables false
set_option linter.unusedSimpArgs false
namespace Go.Fr.T
open Go Go.RowKit Go.Fr Go.Fr.Api
theorem argC_st {l : List G} : argC (.st l) = .agg (gcs (.st l)) := by simp only [argC, gcs]
theorem argC_ty (x : Ty) : argC x.g = .agg (tyC x) := by
  rw [← gcs_ty]; cases x; exact argC_st
theorem argC_fun (x : Fun) : argC x.g = .agg (funC x) := by
  rw [← gcs_fun]; exact argC_st
theorem argC_prog (x : Prog) : argC x.g = .agg (progC x) := by
  rw [← gcs_prog]; exact argC_st
theorem argC_data (x : Api.Data) : argC x.g = .agg (dataC x) := by
  rw [← gcs_data]; exact argC_st
theorem argC_I (n : Int) : argC (I n) = IC n := rfl
theorem argC_ints (l : List Int) : argC (.sl 1 (l.map I)) = .sl (ics l) := by simp only [argC, gcss_I]
theorem argC_tys (l : List Ty) {n : Nat} : argC (.sl n (l.map Ty.g)) = .sl (l.map tyC) := by simp only [argC, gcss_ty]
theorem argC_blocks (l : List Block) {n : Nat} : argC (.sl n (l.map Block.g)) = .sl (l.map blockC) := by simp only [argC, gcss_of gcs_block]
theorem argC_datas (l : List Api.Data) {n : Nat} : argC (.sl n (l.map Data.g)) = .sl (l.map dataC) := by simp only [argC, gcss_of gcs_data]
end Go.Fr.T
