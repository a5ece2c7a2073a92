/-
  NARROWER THAN 'FOR EVERY INPUT', by the rows' own cells (each row's printed sentence says how): DigestMatchesReference: loops · DigestTypes: loops · DigestFunctions: loops · DigestModules: loops · DigestNumbers: loops.
  DERIVED. THE GIVEN ROWS OF THIS SEAT. 6 by the template 'for every input the law returns true; each argument reads behind the call as it read before'; 0 by the template 'total and deterministic' (their statements: YtgapnemcomkomaaTotals.lean).
  GIVEN WITH THE SEED: the statements are not yours to turn. If you find one false, say at which input.
  Laid BY PROGRAM, IN A SANDBOX (cutbox-rows.mjs): the forced cells as the released guide's own fill.sh prints them over the translation d97400ca346cc65e… (all of the seat's roots in one cut). By AI agents, Wed Nov 11 2026. No macro, syntax, notation, axiom, sorry.
-/
import Derived.Test.YtgapnemcomkomaaChecked
import GoSem.Claim
import GoSem.ClaimJoined
import GoSem.ClaimMapViews
import Derived.JoinedTies
import Derived.KernelRfl
namespace Go.Proofs.Ytgapnemcomkomaa
/- THE CELL 'sum', in the pinned program and in every row, IS THE sha256 OF THE DUMP (.gsa) THAT YtgapnemcomkomaaProg.lean LOADS. Nothing in Lean hashes anything: it is a label: what it is worth is what the hold of that sum in a sandbox is worth. -/
noncomputable def Try.pinned : Pinned := { name := "ytgapnemcomkomaa", sum := "d97400ca346cc65ed4d30b94af1551c0b9d1fd2476ebfbd6a7442fc81049d376", checked := Try.checked }
namespace Rows
def none {H : Type} : Left H := { results := [], args := [] }

/-- 'leaseholdlaw20.DigestMatchesReference': WHATEVER THE INPUT: true; the input reads as it did. -/
def digestMatchesReferenceSpec : ChangeSpec := { name := "digestMatchesReference", fn := fun _ => fun
  | [d1, d2, d3, d4, d5, d6] => { results := [.lit (.bool true)], args := [d1, d2, d3, d4, d5, d6] }
  | _ => none }
def digestMatchesReferenceRow : OpenClaim := { program := "ytgapnemcomkomaa", sum := "d97400ca346cc65ed4d30b94af1551c0b9d1fd2476ebfbd6a7442fc81049d376", func := "leasehold/leaseholdlaw20.DigestMatchesReference", spec := "digestMatchesReference", unfollowed := true, recurses := true, loops := true, apart := false }
def DigestMatchesReferenceSaid : Prop := digestMatchesReferenceRow.holds Try.pinned (OpenSpec.ofChange digestMatchesReferenceSpec)

/-- ITS FALSE NEIGHBOUR: 'it returns false'. Refute it at one input. -/
def digestMatchesReferenceWrong : ChangeSpec := { name := "digestMatchesReference", fn := fun _ => fun
  | [d1, d2, d3, d4, d5, d6] => { results := [.lit (.bool false)], args := [d1, d2, d3, d4, d5, d6] }
  | _ => none }
def DigestMatchesReferenceWrongFalsely : Prop := digestMatchesReferenceRow.holds Try.pinned (OpenSpec.ofChange digestMatchesReferenceWrong)

/-- 'leaseholdlaw20.DigestBytes': WHATEVER THE INPUT: true; the input reads as it did. -/
def digestBytesSpec : ChangeSpec := { name := "digestBytes", fn := fun _ => fun
  | [d1, d2, d3] => { results := [.lit (.bool true)], args := [d1, d2, d3] }
  | _ => none }
def digestBytesRow : OpenClaim := { program := "ytgapnemcomkomaa", sum := "d97400ca346cc65ed4d30b94af1551c0b9d1fd2476ebfbd6a7442fc81049d376", func := "leasehold/leaseholdlaw20.DigestBytes", spec := "digestBytes", unfollowed := true, recurses := true, apart := false }
def DigestBytesSaid : Prop := digestBytesRow.holds Try.pinned (OpenSpec.ofChange digestBytesSpec)

/-- ITS FALSE NEIGHBOUR: 'it returns false'. Refute it at one input. -/
def digestBytesWrong : ChangeSpec := { name := "digestBytes", fn := fun _ => fun
  | [d1, d2, d3] => { results := [.lit (.bool false)], args := [d1, d2, d3] }
  | _ => none }
def DigestBytesWrongFalsely : Prop := digestBytesRow.holds Try.pinned (OpenSpec.ofChange digestBytesWrong)

/-- 'leaseholdlaw20.DigestTypes': WHATEVER THE INPUT: true; the input reads as it did. -/
def digestTypesSpec : ChangeSpec := { name := "digestTypes", fn := fun _ => fun
  | [d1, d2] => { results := [.lit (.bool true)], args := [d1, d2] }
  | _ => none }
def digestTypesRow : OpenClaim := { program := "ytgapnemcomkomaa", sum := "d97400ca346cc65ed4d30b94af1551c0b9d1fd2476ebfbd6a7442fc81049d376", func := "leasehold/leaseholdlaw20.DigestTypes", spec := "digestTypes", unfollowed := true, recurses := true, loops := true, apart := false }
def DigestTypesSaid : Prop := digestTypesRow.holds Try.pinned (OpenSpec.ofChange digestTypesSpec)

/-- ITS FALSE NEIGHBOUR: 'it returns false'. Refute it at one input. -/
def digestTypesWrong : ChangeSpec := { name := "digestTypes", fn := fun _ => fun
  | [d1, d2] => { results := [.lit (.bool false)], args := [d1, d2] }
  | _ => none }
def DigestTypesWrongFalsely : Prop := digestTypesRow.holds Try.pinned (OpenSpec.ofChange digestTypesWrong)

/-- 'leaseholdlaw20.DigestFunctions': WHATEVER THE INPUT: true; the input reads as it did. -/
def digestFunctionsSpec : ChangeSpec := { name := "digestFunctions", fn := fun _ => fun
  | [d1, d2, d3, d4] => { results := [.lit (.bool true)], args := [d1, d2, d3, d4] }
  | _ => none }
def digestFunctionsRow : OpenClaim := { program := "ytgapnemcomkomaa", sum := "d97400ca346cc65ed4d30b94af1551c0b9d1fd2476ebfbd6a7442fc81049d376", func := "leasehold/leaseholdlaw20.DigestFunctions", spec := "digestFunctions", unfollowed := true, recurses := true, loops := true, apart := false }
def DigestFunctionsSaid : Prop := digestFunctionsRow.holds Try.pinned (OpenSpec.ofChange digestFunctionsSpec)

/-- ITS FALSE NEIGHBOUR: 'it returns false'. Refute it at one input. -/
def digestFunctionsWrong : ChangeSpec := { name := "digestFunctions", fn := fun _ => fun
  | [d1, d2, d3, d4] => { results := [.lit (.bool false)], args := [d1, d2, d3, d4] }
  | _ => none }
def DigestFunctionsWrongFalsely : Prop := digestFunctionsRow.holds Try.pinned (OpenSpec.ofChange digestFunctionsWrong)

/-- 'leaseholdlaw20.DigestModules': WHATEVER THE INPUT: true; the input reads as it did. -/
def digestModulesSpec : ChangeSpec := { name := "digestModules", fn := fun _ => fun
  | [d1, d2, d3] => { results := [.lit (.bool true)], args := [d1, d2, d3] }
  | _ => none }
def digestModulesRow : OpenClaim := { program := "ytgapnemcomkomaa", sum := "d97400ca346cc65ed4d30b94af1551c0b9d1fd2476ebfbd6a7442fc81049d376", func := "leasehold/leaseholdlaw20.DigestModules", spec := "digestModules", unfollowed := true, recurses := true, loops := true, apart := false }
def DigestModulesSaid : Prop := digestModulesRow.holds Try.pinned (OpenSpec.ofChange digestModulesSpec)

/-- ITS FALSE NEIGHBOUR: 'it returns false'. Refute it at one input. -/
def digestModulesWrong : ChangeSpec := { name := "digestModules", fn := fun _ => fun
  | [d1, d2, d3] => { results := [.lit (.bool false)], args := [d1, d2, d3] }
  | _ => none }
def DigestModulesWrongFalsely : Prop := digestModulesRow.holds Try.pinned (OpenSpec.ofChange digestModulesWrong)

/-- 'leaseholdlaw20.DigestNumbers': WHATEVER THE INPUT: true; the input reads as it did. -/
def digestNumbersSpec : ChangeSpec := { name := "digestNumbers", fn := fun _ => fun
  | [d1, d2, d3, d4, d5] => { results := [.lit (.bool true)], args := [d1, d2, d3, d4, d5] }
  | _ => none }
def digestNumbersRow : OpenClaim := { program := "ytgapnemcomkomaa", sum := "d97400ca346cc65ed4d30b94af1551c0b9d1fd2476ebfbd6a7442fc81049d376", func := "leasehold/leaseholdlaw20.DigestNumbers", spec := "digestNumbers", unfollowed := true, recurses := true, loops := true, apart := false }
def DigestNumbersSaid : Prop := digestNumbersRow.holds Try.pinned (OpenSpec.ofChange digestNumbersSpec)

/-- ITS FALSE NEIGHBOUR: 'it returns false'. Refute it at one input. -/
def digestNumbersWrong : ChangeSpec := { name := "digestNumbers", fn := fun _ => fun
  | [d1, d2, d3, d4, d5] => { results := [.lit (.bool false)], args := [d1, d2, d3, d4, d5] }
  | _ => none }
def DigestNumbersWrongFalsely : Prop := digestNumbersRow.holds Try.pinned (OpenSpec.ofChange digestNumbersWrong)

/- THE SECOND FORM. 'bulk': how many values and letters a reading holds, each counted each time it is reached (what is shared counts as often as it is met; a slice's spare places count too). A statement '..UptoSaid' is the law's where the arguments, and the package variables that the reading takes, are together of bulk at most 1048576: NARROWER than '..Said'. Prove '..Said' where nothing that the law and all that it calls make is longer than what came in: it says more and counts as full. Else prove '..UptoSaid'. A law counts once. -/
mutual
def uptoBulk {H : Type} : DataW H → Nat
  | .lit (.string bytes) => bytes.length + 1
  | .lit _ => 1
  | .nil => 1
  | .ptr d => uptoBulk d + 1
  | .slice elems spare => uptoBulkAll elems + uptoBulkAll spare + 1
  | .agg parts => uptoBulkAll parts + 1
  | .iface _ d => uptoBulk d + 1
  | .map entries => uptoBulkEntries entries + 1
  | .held _ => 1
def uptoBulkAll {H : Type} : List (DataW H) → Nat
  | [] => 0
  | d :: r => uptoBulk d + uptoBulkAll r
def uptoBulkEntries {H : Type} : List (Lit × DataW H) → Nat
  | [] => 0
  | x :: r => uptoBulkEntry x + uptoBulkEntries r
def uptoBulkEntry {H : Type} : Lit × DataW H → Nat
  | (.string bytes, d) => bytes.length + uptoBulk d + 1
  | (_, d) => uptoBulk d + 1
 end
def uptoSmall : (H : Type) → List (DataW H) → Bool := fun _ ds => decide (uptoBulkAll ds ≤ 1048576)
def OpenSpec.upto (s : _root_.Go.ChangeSpec) : _root_.Go.OpenSpec := { _root_.Go.OpenSpec.ofChange s with cond := some uptoSmall }

/-- 'leaseholdlaw20.DigestMatchesReference', WHERE WHAT IT READS IS OF BULK AT MOST 1048576: true; the input reads as it did. -/
def digestMatchesReferenceUptoRow : OpenClaim := { program := "ytgapnemcomkomaa", sum := "d97400ca346cc65ed4d30b94af1551c0b9d1fd2476ebfbd6a7442fc81049d376", func := "leasehold/leaseholdlaw20.DigestMatchesReference", spec := "digestMatchesReference", unfollowed := true, recurses := true, loops := true, apart := false, narrowed := true }
def DigestMatchesReferenceUptoSaid : Prop := digestMatchesReferenceUptoRow.holds Try.pinned (OpenSpec.upto digestMatchesReferenceSpec)

/-- 'leaseholdlaw20.DigestBytes', WHERE WHAT IT READS IS OF BULK AT MOST 1048576: true; the input reads as it did. -/
def digestBytesUptoRow : OpenClaim := { program := "ytgapnemcomkomaa", sum := "d97400ca346cc65ed4d30b94af1551c0b9d1fd2476ebfbd6a7442fc81049d376", func := "leasehold/leaseholdlaw20.DigestBytes", spec := "digestBytes", unfollowed := true, recurses := true, apart := false, narrowed := true }
def DigestBytesUptoSaid : Prop := digestBytesUptoRow.holds Try.pinned (OpenSpec.upto digestBytesSpec)

/-- 'leaseholdlaw20.DigestTypes', WHERE WHAT IT READS IS OF BULK AT MOST 1048576: true; the input reads as it did. -/
def digestTypesUptoRow : OpenClaim := { program := "ytgapnemcomkomaa", sum := "d97400ca346cc65ed4d30b94af1551c0b9d1fd2476ebfbd6a7442fc81049d376", func := "leasehold/leaseholdlaw20.DigestTypes", spec := "digestTypes", unfollowed := true, recurses := true, loops := true, apart := false, narrowed := true }
def DigestTypesUptoSaid : Prop := digestTypesUptoRow.holds Try.pinned (OpenSpec.upto digestTypesSpec)

/-- 'leaseholdlaw20.DigestFunctions', WHERE WHAT IT READS IS OF BULK AT MOST 1048576: true; the input reads as it did. -/
def digestFunctionsUptoRow : OpenClaim := { program := "ytgapnemcomkomaa", sum := "d97400ca346cc65ed4d30b94af1551c0b9d1fd2476ebfbd6a7442fc81049d376", func := "leasehold/leaseholdlaw20.DigestFunctions", spec := "digestFunctions", unfollowed := true, recurses := true, loops := true, apart := false, narrowed := true }
def DigestFunctionsUptoSaid : Prop := digestFunctionsUptoRow.holds Try.pinned (OpenSpec.upto digestFunctionsSpec)

/-- 'leaseholdlaw20.DigestModules', WHERE WHAT IT READS IS OF BULK AT MOST 1048576: true; the input reads as it did. -/
def digestModulesUptoRow : OpenClaim := { program := "ytgapnemcomkomaa", sum := "d97400ca346cc65ed4d30b94af1551c0b9d1fd2476ebfbd6a7442fc81049d376", func := "leasehold/leaseholdlaw20.DigestModules", spec := "digestModules", unfollowed := true, recurses := true, loops := true, apart := false, narrowed := true }
def DigestModulesUptoSaid : Prop := digestModulesUptoRow.holds Try.pinned (OpenSpec.upto digestModulesSpec)

/-- 'leaseholdlaw20.DigestNumbers', WHERE WHAT IT READS IS OF BULK AT MOST 1048576: true; the input reads as it did. -/
def digestNumbersUptoRow : OpenClaim := { program := "ytgapnemcomkomaa", sum := "d97400ca346cc65ed4d30b94af1551c0b9d1fd2476ebfbd6a7442fc81049d376", func := "leasehold/leaseholdlaw20.DigestNumbers", spec := "digestNumbers", unfollowed := true, recurses := true, loops := true, apart := false, narrowed := true }
def DigestNumbersUptoSaid : Prop := digestNumbersUptoRow.holds Try.pinned (OpenSpec.upto digestNumbersSpec)

end Rows
end Go.Proofs.Ytgapnemcomkomaa
