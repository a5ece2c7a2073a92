/-
  NARROWER THAN 'FOR EVERY INPUT', by the rows' own cells (each row's printed sentence says how): UnifyParameters: loops · UnifyGeneral: loops · UnifyMatches: loops · UnifyFails: loops · TraitsOverlap: loops · TraitsProofs: loops · TraitsReplaced: loops · TraitsCoherent: loops.
  DERIVED. THE GIVEN ROWS OF THIS SEAT. 8 by the template 'for every input the law returns true; each argument reads behind the call as it read before'; 0 by the template 'total and deterministic' (their statements: YthfdbepkalpplaaTotals.lean).
  GIVEN WITH THE SEED: the statements are not yours to turn. If you find one false, say at which input.
  Laid BY PROGRAM, IN A SANDBOX (cutbox-rows.mjs): the forced cells as the released guide's own fill.sh prints them over the translation a40b6e24757c763d… (all of the seat's roots in one cut). By AI agents, Wed Nov 11 2026. No macro, syntax, notation, axiom, sorry.
-/
import Derived.Test.YthfdbepkalpplaaChecked
import GoSem.Claim
import GoSem.ClaimJoined
import GoSem.ClaimMapViews
import Derived.JoinedTies
import Derived.KernelRfl
namespace Go.Proofs.Ythfdbepkalpplaa
/- THE CELL 'sum', in the pinned program and in every row, IS THE sha256 OF THE DUMP (.gsa) THAT YthfdbepkalpplaaProg.lean LOADS. Nothing in Lean hashes anything: it is a label: what it is worth is what the hold of that sum in a sandbox is worth. -/
noncomputable def Try.pinned : Pinned := { name := "ythfdbepkalpplaa", sum := "a40b6e24757c763d6ff5e0ae7d0b7cad89418e3140b6ca697749a3f8bd76b3e0", checked := Try.checked }
namespace Rows
def none {H : Type} : Left H := { results := [], args := [] }

/-- 'leaseholdlaw05.UnifyParameters': WHATEVER THE INPUT: true; the input reads as it did. -/
def unifyParametersSpec : ChangeSpec := { name := "unifyParameters", fn := fun _ => fun
  | [d1, d2, d3, d4, d5] => { results := [.lit (.bool true)], args := [d1, d2, d3, d4, d5] }
  | _ => none }
def unifyParametersRow : OpenClaim := { program := "ythfdbepkalpplaa", sum := "a40b6e24757c763d6ff5e0ae7d0b7cad89418e3140b6ca697749a3f8bd76b3e0", func := "leasehold/leaseholdlaw05.UnifyParameters", spec := "unifyParameters", unfollowed := true, recurses := true, loops := true, apart := false }
def UnifyParametersSaid : Prop := unifyParametersRow.holds Try.pinned (OpenSpec.ofChange unifyParametersSpec)

/-- ITS FALSE NEIGHBOUR: 'it returns false'. Refute it at one input. -/
def unifyParametersWrong : ChangeSpec := { name := "unifyParameters", fn := fun _ => fun
  | [d1, d2, d3, d4, d5] => { results := [.lit (.bool false)], args := [d1, d2, d3, d4, d5] }
  | _ => none }
def UnifyParametersWrongFalsely : Prop := unifyParametersRow.holds Try.pinned (OpenSpec.ofChange unifyParametersWrong)

/-- 'leaseholdlaw05.UnifyGeneral': WHATEVER THE INPUT: true; the input reads as it did. -/
def unifyGeneralSpec : ChangeSpec := { name := "unifyGeneral", fn := fun _ => fun
  | [d1, d2, d3, d4] => { results := [.lit (.bool true)], args := [d1, d2, d3, d4] }
  | _ => none }
def unifyGeneralRow : OpenClaim := { program := "ythfdbepkalpplaa", sum := "a40b6e24757c763d6ff5e0ae7d0b7cad89418e3140b6ca697749a3f8bd76b3e0", func := "leasehold/leaseholdlaw05.UnifyGeneral", spec := "unifyGeneral", unfollowed := true, recurses := true, loops := true, apart := false }
def UnifyGeneralSaid : Prop := unifyGeneralRow.holds Try.pinned (OpenSpec.ofChange unifyGeneralSpec)

/-- ITS FALSE NEIGHBOUR: 'it returns false'. Refute it at one input. -/
def unifyGeneralWrong : ChangeSpec := { name := "unifyGeneral", fn := fun _ => fun
  | [d1, d2, d3, d4] => { results := [.lit (.bool false)], args := [d1, d2, d3, d4] }
  | _ => none }
def UnifyGeneralWrongFalsely : Prop := unifyGeneralRow.holds Try.pinned (OpenSpec.ofChange unifyGeneralWrong)

/-- 'leaseholdlaw05.UnifyMatches': WHATEVER THE INPUT: true; the input reads as it did. -/
def unifyMatchesSpec : ChangeSpec := { name := "unifyMatches", fn := fun _ => fun
  | [d1, d2, d3] => { results := [.lit (.bool true)], args := [d1, d2, d3] }
  | _ => none }
def unifyMatchesRow : OpenClaim := { program := "ythfdbepkalpplaa", sum := "a40b6e24757c763d6ff5e0ae7d0b7cad89418e3140b6ca697749a3f8bd76b3e0", func := "leasehold/leaseholdlaw05.UnifyMatches", spec := "unifyMatches", unfollowed := true, recurses := true, loops := true, apart := false }
def UnifyMatchesSaid : Prop := unifyMatchesRow.holds Try.pinned (OpenSpec.ofChange unifyMatchesSpec)

/-- ITS FALSE NEIGHBOUR: 'it returns false'. Refute it at one input. -/
def unifyMatchesWrong : ChangeSpec := { name := "unifyMatches", fn := fun _ => fun
  | [d1, d2, d3] => { results := [.lit (.bool false)], args := [d1, d2, d3] }
  | _ => none }
def UnifyMatchesWrongFalsely : Prop := unifyMatchesRow.holds Try.pinned (OpenSpec.ofChange unifyMatchesWrong)

/-- 'leaseholdlaw05.UnifyFails': WHATEVER THE INPUT: true; the input reads as it did. -/
def unifyFailsSpec : ChangeSpec := { name := "unifyFails", fn := fun _ => fun
  | [d1, d2, d3, d4] => { results := [.lit (.bool true)], args := [d1, d2, d3, d4] }
  | _ => none }
def unifyFailsRow : OpenClaim := { program := "ythfdbepkalpplaa", sum := "a40b6e24757c763d6ff5e0ae7d0b7cad89418e3140b6ca697749a3f8bd76b3e0", func := "leasehold/leaseholdlaw05.UnifyFails", spec := "unifyFails", unfollowed := true, recurses := true, loops := true, apart := false }
def UnifyFailsSaid : Prop := unifyFailsRow.holds Try.pinned (OpenSpec.ofChange unifyFailsSpec)

/-- ITS FALSE NEIGHBOUR: 'it returns false'. Refute it at one input. -/
def unifyFailsWrong : ChangeSpec := { name := "unifyFails", fn := fun _ => fun
  | [d1, d2, d3, d4] => { results := [.lit (.bool false)], args := [d1, d2, d3, d4] }
  | _ => none }
def UnifyFailsWrongFalsely : Prop := unifyFailsRow.holds Try.pinned (OpenSpec.ofChange unifyFailsWrong)

/-- 'leaseholdlaw06.TraitsOverlap': WHATEVER THE INPUT: true; the input reads as it did. -/
def traitsOverlapSpec : ChangeSpec := { name := "traitsOverlap", fn := fun _ => fun
  | [d1, d2, d3, d4] => { results := [.lit (.bool true)], args := [d1, d2, d3, d4] }
  | _ => none }
def traitsOverlapRow : OpenClaim := { program := "ythfdbepkalpplaa", sum := "a40b6e24757c763d6ff5e0ae7d0b7cad89418e3140b6ca697749a3f8bd76b3e0", func := "leasehold/leaseholdlaw06.TraitsOverlap", spec := "traitsOverlap", unfollowed := true, recurses := true, loops := true, apart := false }
def TraitsOverlapSaid : Prop := traitsOverlapRow.holds Try.pinned (OpenSpec.ofChange traitsOverlapSpec)

/-- ITS FALSE NEIGHBOUR: 'it returns false'. Refute it at one input. -/
def traitsOverlapWrong : ChangeSpec := { name := "traitsOverlap", fn := fun _ => fun
  | [d1, d2, d3, d4] => { results := [.lit (.bool false)], args := [d1, d2, d3, d4] }
  | _ => none }
def TraitsOverlapWrongFalsely : Prop := traitsOverlapRow.holds Try.pinned (OpenSpec.ofChange traitsOverlapWrong)

/-- 'leaseholdlaw06.TraitsProofs': WHATEVER THE INPUT: true; the input reads as it did. -/
def traitsProofsSpec : ChangeSpec := { name := "traitsProofs", fn := fun _ => fun
  | [d1, d2, d3, d4, d5] => { results := [.lit (.bool true)], args := [d1, d2, d3, d4, d5] }
  | _ => none }
def traitsProofsRow : OpenClaim := { program := "ythfdbepkalpplaa", sum := "a40b6e24757c763d6ff5e0ae7d0b7cad89418e3140b6ca697749a3f8bd76b3e0", func := "leasehold/leaseholdlaw06.TraitsProofs", spec := "traitsProofs", unfollowed := true, recurses := true, loops := true, apart := false }
def TraitsProofsSaid : Prop := traitsProofsRow.holds Try.pinned (OpenSpec.ofChange traitsProofsSpec)

/-- ITS FALSE NEIGHBOUR: 'it returns false'. Refute it at one input. -/
def traitsProofsWrong : ChangeSpec := { name := "traitsProofs", fn := fun _ => fun
  | [d1, d2, d3, d4, d5] => { results := [.lit (.bool false)], args := [d1, d2, d3, d4, d5] }
  | _ => none }
def TraitsProofsWrongFalsely : Prop := traitsProofsRow.holds Try.pinned (OpenSpec.ofChange traitsProofsWrong)

/-- 'leaseholdlaw06.TraitsReplaced': WHATEVER THE INPUT: true; the input reads as it did. -/
def traitsReplacedSpec : ChangeSpec := { name := "traitsReplaced", fn := fun _ => fun
  | [d1, d2, d3, d4, d5] => { results := [.lit (.bool true)], args := [d1, d2, d3, d4, d5] }
  | _ => none }
def traitsReplacedRow : OpenClaim := { program := "ythfdbepkalpplaa", sum := "a40b6e24757c763d6ff5e0ae7d0b7cad89418e3140b6ca697749a3f8bd76b3e0", func := "leasehold/leaseholdlaw06.TraitsReplaced", spec := "traitsReplaced", unfollowed := true, recurses := true, loops := true, apart := false }
def TraitsReplacedSaid : Prop := traitsReplacedRow.holds Try.pinned (OpenSpec.ofChange traitsReplacedSpec)

/-- ITS FALSE NEIGHBOUR: 'it returns false'. Refute it at one input. -/
def traitsReplacedWrong : ChangeSpec := { name := "traitsReplaced", fn := fun _ => fun
  | [d1, d2, d3, d4, d5] => { results := [.lit (.bool false)], args := [d1, d2, d3, d4, d5] }
  | _ => none }
def TraitsReplacedWrongFalsely : Prop := traitsReplacedRow.holds Try.pinned (OpenSpec.ofChange traitsReplacedWrong)

/-- 'leaseholdlaw06.TraitsCoherent': WHATEVER THE INPUT: true; the input reads as it did. -/
def traitsCoherentSpec : ChangeSpec := { name := "traitsCoherent", fn := fun _ => fun
  | [d1, d2] => { results := [.lit (.bool true)], args := [d1, d2] }
  | _ => none }
def traitsCoherentRow : OpenClaim := { program := "ythfdbepkalpplaa", sum := "a40b6e24757c763d6ff5e0ae7d0b7cad89418e3140b6ca697749a3f8bd76b3e0", func := "leasehold/leaseholdlaw06.TraitsCoherent", spec := "traitsCoherent", unfollowed := true, recurses := true, loops := true, apart := false }
def TraitsCoherentSaid : Prop := traitsCoherentRow.holds Try.pinned (OpenSpec.ofChange traitsCoherentSpec)

/-- ITS FALSE NEIGHBOUR: 'it returns false'. Refute it at one input. -/
def traitsCoherentWrong : ChangeSpec := { name := "traitsCoherent", fn := fun _ => fun
  | [d1, d2] => { results := [.lit (.bool false)], args := [d1, d2] }
  | _ => none }
def TraitsCoherentWrongFalsely : Prop := traitsCoherentRow.holds Try.pinned (OpenSpec.ofChange traitsCoherentWrong)

/- THE SECOND FORM. 'bulk': how many values and letters a reading holds, each counted each time it is reached (what is shared counts as often as it is met; a slice's spare places count too). A statement '..UptoSaid' is the law's where the arguments, and the package variables that the reading takes, are together of bulk at most 1048576: NARROWER than '..Said'. Prove '..Said' where nothing that the law and all that it calls make is longer than what came in: it says more and counts as full. Else prove '..UptoSaid'. A law counts once. -/
mutual
def uptoBulk {H : Type} : DataW H → Nat
  | .lit (.string bytes) => bytes.length + 1
  | .lit _ => 1
  | .nil => 1
  | .ptr d => uptoBulk d + 1
  | .slice elems spare => uptoBulkAll elems + uptoBulkAll spare + 1
  | .agg parts => uptoBulkAll parts + 1
  | .iface _ d => uptoBulk d + 1
  | .map entries => uptoBulkEntries entries + 1
  | .held _ => 1
def uptoBulkAll {H : Type} : List (DataW H) → Nat
  | [] => 0
  | d :: r => uptoBulk d + uptoBulkAll r
def uptoBulkEntries {H : Type} : List (Lit × DataW H) → Nat
  | [] => 0
  | x :: r => uptoBulkEntry x + uptoBulkEntries r
def uptoBulkEntry {H : Type} : Lit × DataW H → Nat
  | (.string bytes, d) => bytes.length + uptoBulk d + 1
  | (_, d) => uptoBulk d + 1
 end
def uptoSmall : (H : Type) → List (DataW H) → Bool := fun _ ds => decide (uptoBulkAll ds ≤ 1048576)
def OpenSpec.upto (s : _root_.Go.ChangeSpec) : _root_.Go.OpenSpec := { _root_.Go.OpenSpec.ofChange s with cond := some uptoSmall }

/-- 'leaseholdlaw05.UnifyParameters', WHERE WHAT IT READS IS OF BULK AT MOST 1048576: true; the input reads as it did. -/
def unifyParametersUptoRow : OpenClaim := { program := "ythfdbepkalpplaa", sum := "a40b6e24757c763d6ff5e0ae7d0b7cad89418e3140b6ca697749a3f8bd76b3e0", func := "leasehold/leaseholdlaw05.UnifyParameters", spec := "unifyParameters", unfollowed := true, recurses := true, loops := true, apart := false, narrowed := true }
def UnifyParametersUptoSaid : Prop := unifyParametersUptoRow.holds Try.pinned (OpenSpec.upto unifyParametersSpec)

/-- 'leaseholdlaw05.UnifyGeneral', WHERE WHAT IT READS IS OF BULK AT MOST 1048576: true; the input reads as it did. -/
def unifyGeneralUptoRow : OpenClaim := { program := "ythfdbepkalpplaa", sum := "a40b6e24757c763d6ff5e0ae7d0b7cad89418e3140b6ca697749a3f8bd76b3e0", func := "leasehold/leaseholdlaw05.UnifyGeneral", spec := "unifyGeneral", unfollowed := true, recurses := true, loops := true, apart := false, narrowed := true }
def UnifyGeneralUptoSaid : Prop := unifyGeneralUptoRow.holds Try.pinned (OpenSpec.upto unifyGeneralSpec)

/-- 'leaseholdlaw05.UnifyMatches', WHERE WHAT IT READS IS OF BULK AT MOST 1048576: true; the input reads as it did. -/
def unifyMatchesUptoRow : OpenClaim := { program := "ythfdbepkalpplaa", sum := "a40b6e24757c763d6ff5e0ae7d0b7cad89418e3140b6ca697749a3f8bd76b3e0", func := "leasehold/leaseholdlaw05.UnifyMatches", spec := "unifyMatches", unfollowed := true, recurses := true, loops := true, apart := false, narrowed := true }
def UnifyMatchesUptoSaid : Prop := unifyMatchesUptoRow.holds Try.pinned (OpenSpec.upto unifyMatchesSpec)

/-- 'leaseholdlaw05.UnifyFails', WHERE WHAT IT READS IS OF BULK AT MOST 1048576: true; the input reads as it did. -/
def unifyFailsUptoRow : OpenClaim := { program := "ythfdbepkalpplaa", sum := "a40b6e24757c763d6ff5e0ae7d0b7cad89418e3140b6ca697749a3f8bd76b3e0", func := "leasehold/leaseholdlaw05.UnifyFails", spec := "unifyFails", unfollowed := true, recurses := true, loops := true, apart := false, narrowed := true }
def UnifyFailsUptoSaid : Prop := unifyFailsUptoRow.holds Try.pinned (OpenSpec.upto unifyFailsSpec)

/-- 'leaseholdlaw06.TraitsOverlap', WHERE WHAT IT READS IS OF BULK AT MOST 1048576: true; the input reads as it did. -/
def traitsOverlapUptoRow : OpenClaim := { program := "ythfdbepkalpplaa", sum := "a40b6e24757c763d6ff5e0ae7d0b7cad89418e3140b6ca697749a3f8bd76b3e0", func := "leasehold/leaseholdlaw06.TraitsOverlap", spec := "traitsOverlap", unfollowed := true, recurses := true, loops := true, apart := false, narrowed := true }
def TraitsOverlapUptoSaid : Prop := traitsOverlapUptoRow.holds Try.pinned (OpenSpec.upto traitsOverlapSpec)

/-- 'leaseholdlaw06.TraitsProofs', WHERE WHAT IT READS IS OF BULK AT MOST 1048576: true; the input reads as it did. -/
def traitsProofsUptoRow : OpenClaim := { program := "ythfdbepkalpplaa", sum := "a40b6e24757c763d6ff5e0ae7d0b7cad89418e3140b6ca697749a3f8bd76b3e0", func := "leasehold/leaseholdlaw06.TraitsProofs", spec := "traitsProofs", unfollowed := true, recurses := true, loops := true, apart := false, narrowed := true }
def TraitsProofsUptoSaid : Prop := traitsProofsUptoRow.holds Try.pinned (OpenSpec.upto traitsProofsSpec)

/-- 'leaseholdlaw06.TraitsReplaced', WHERE WHAT IT READS IS OF BULK AT MOST 1048576: true; the input reads as it did. -/
def traitsReplacedUptoRow : OpenClaim := { program := "ythfdbepkalpplaa", sum := "a40b6e24757c763d6ff5e0ae7d0b7cad89418e3140b6ca697749a3f8bd76b3e0", func := "leasehold/leaseholdlaw06.TraitsReplaced", spec := "traitsReplaced", unfollowed := true, recurses := true, loops := true, apart := false, narrowed := true }
def TraitsReplacedUptoSaid : Prop := traitsReplacedUptoRow.holds Try.pinned (OpenSpec.upto traitsReplacedSpec)

/-- 'leaseholdlaw06.TraitsCoherent', WHERE WHAT IT READS IS OF BULK AT MOST 1048576: true; the input reads as it did. -/
def traitsCoherentUptoRow : OpenClaim := { program := "ythfdbepkalpplaa", sum := "a40b6e24757c763d6ff5e0ae7d0b7cad89418e3140b6ca697749a3f8bd76b3e0", func := "leasehold/leaseholdlaw06.TraitsCoherent", spec := "traitsCoherent", unfollowed := true, recurses := true, loops := true, apart := false, narrowed := true }
def TraitsCoherentUptoSaid : Prop := traitsCoherentUptoRow.holds Try.pinned (OpenSpec.upto traitsCoherentSpec)

end Rows
end Go.Proofs.Ythfdbepkalpplaa
