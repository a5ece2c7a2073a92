/-
  NARROWER THAN 'FOR EVERY INPUT', by the rows' own cells (each row's printed sentence says how): SnapshotDeltas: laid · SnapshotBases: laid · SnapshotSizes: laid.
  DERIVED. THE GIVEN ROWS OF THIS SEAT. 3 by the template 'for every input the law returns true; each argument reads behind the call as it read before'; 0 by the template 'total and deterministic' (their statements: YtnlegbokpofcaaaDoorTotals.lean).
  GIVEN WITH THE SEED: the statements are not yours to turn. If you find one false, say at which input.
  Laid BY PROGRAM, IN A SANDBOX (cutbox-rows.mjs): the forced cells as the released guide's own fill.sh prints them over the translation 63ddf78fcb92a6ad… (all of the seat's roots in one cut). By AI agents, Wed Nov 11 2026. No macro, syntax, notation, axiom, sorry.
-/
import Derived.Test.YtnlegbokpofcaaaDoorChecked
import GoSem.Claim
import GoSem.ClaimJoined
import GoSem.ClaimMapViews
import Derived.JoinedTies
import Derived.KernelRfl
namespace Go.Proofs.YtnlegbokpofcaaaDoor
/- THE CELL 'sum', in the pinned program and in every row, IS THE sha256 OF THE DUMP (.gsa) THAT YtnlegbokpofcaaaDoorProg.lean LOADS. Nothing in Lean hashes anything: it is a label: what it is worth is what the hold of that sum in a sandbox is worth. -/
noncomputable def Tryd.pinned : Pinned := { name := "ytnlegbokpofcaaadoor", sum := "63ddf78fcb92a6ad7bc9e1b61c9891d78ff4ecbe2af219ff8d809bf1700d4334", checked := Tryd.checked }
namespace Rows
def none {H : Type} : Left H := { results := [], args := [] }

/- WHAT THE LISTED PACKAGE-LEVEL VARIABLES READ AS WHEN THE CALL BEGINS. Each datum BY PROGRAM (the guide's laid-datum.mjs) off the statement by which the dump's own 'gosem.cut.vars' lays the variable. In a bare row this is a premise. The card (YtnlegbokpofcaaaDoorCards.lean) ties it to the program's text. -/
def laid_bytes_ErrTooLarge {H : Type} : DataW H := .iface "*errors.errorString" (.ptr (.agg [.lit (.string [98, 121, 116, 101, 115, 46, 66, 117, 102, 102, 101, 114, 58, 32, 116, 111, 111, 32, 108, 97, 114, 103, 101])]))

/-- 'leaseholdlaw37.SnapshotDeltas': WHATEVER THE INPUT: true; the input reads as it did. -/
def snapshotDeltasSpec : ChangeSpec := { name := "snapshotDeltas", fn := fun _ => fun
  | [d1, d2, d3] => { results := [.lit (.bool true)], args := [d1, d2, d3] }
  | _ => none }
def snapshotDeltasRow : OpenClaim := { program := "ytnlegbokpofcaaadoor", sum := "63ddf78fcb92a6ad7bc9e1b61c9891d78ff4ecbe2af219ff8d809bf1700d4334", func := "leasehold/leaseholdlaw37.SnapshotDeltas", spec := "snapshotDeltas", unfollowed := true, recurses := true, named := ["bytes.ErrTooLarge"], apart := false, laid := [("bytes.ErrTooLarge", laid_bytes_ErrTooLarge)] }
def SnapshotDeltasSaid : Prop := snapshotDeltasRow.holds Tryd.pinned (OpenSpec.ofChange snapshotDeltasSpec)

/-- ITS FALSE NEIGHBOUR: 'it returns false'. Refute it at one input. -/
def snapshotDeltasWrong : ChangeSpec := { name := "snapshotDeltas", fn := fun _ => fun
  | [d1, d2, d3] => { results := [.lit (.bool false)], args := [d1, d2, d3] }
  | _ => none }
def SnapshotDeltasWrongFalsely : Prop := snapshotDeltasRow.holds Tryd.pinned (OpenSpec.ofChange snapshotDeltasWrong)

/-- 'leaseholdlaw37.SnapshotBases': WHATEVER THE INPUT: true; the input reads as it did. -/
def snapshotBasesSpec : ChangeSpec := { name := "snapshotBases", fn := fun _ => fun
  | [d1, d2, d3] => { results := [.lit (.bool true)], args := [d1, d2, d3] }
  | _ => none }
def snapshotBasesRow : OpenClaim := { program := "ytnlegbokpofcaaadoor", sum := "63ddf78fcb92a6ad7bc9e1b61c9891d78ff4ecbe2af219ff8d809bf1700d4334", func := "leasehold/leaseholdlaw37.SnapshotBases", spec := "snapshotBases", unfollowed := true, recurses := true, named := ["bytes.ErrTooLarge"], apart := false, laid := [("bytes.ErrTooLarge", laid_bytes_ErrTooLarge)] }
def SnapshotBasesSaid : Prop := snapshotBasesRow.holds Tryd.pinned (OpenSpec.ofChange snapshotBasesSpec)

/-- ITS FALSE NEIGHBOUR: 'it returns false'. Refute it at one input. -/
def snapshotBasesWrong : ChangeSpec := { name := "snapshotBases", fn := fun _ => fun
  | [d1, d2, d3] => { results := [.lit (.bool false)], args := [d1, d2, d3] }
  | _ => none }
def SnapshotBasesWrongFalsely : Prop := snapshotBasesRow.holds Tryd.pinned (OpenSpec.ofChange snapshotBasesWrong)

/-- 'leaseholdlaw37.SnapshotSizes': WHATEVER THE INPUT: true; the input reads as it did. -/
def snapshotSizesSpec : ChangeSpec := { name := "snapshotSizes", fn := fun _ => fun
  | [d1, d2] => { results := [.lit (.bool true)], args := [d1, d2] }
  | _ => none }
def snapshotSizesRow : OpenClaim := { program := "ytnlegbokpofcaaadoor", sum := "63ddf78fcb92a6ad7bc9e1b61c9891d78ff4ecbe2af219ff8d809bf1700d4334", func := "leasehold/leaseholdlaw37.SnapshotSizes", spec := "snapshotSizes", unfollowed := true, recurses := true, named := ["bytes.ErrTooLarge"], apart := false, laid := [("bytes.ErrTooLarge", laid_bytes_ErrTooLarge)] }
def SnapshotSizesSaid : Prop := snapshotSizesRow.holds Tryd.pinned (OpenSpec.ofChange snapshotSizesSpec)

/-- ITS FALSE NEIGHBOUR: 'it returns false'. Refute it at one input. -/
def snapshotSizesWrong : ChangeSpec := { name := "snapshotSizes", fn := fun _ => fun
  | [d1, d2] => { results := [.lit (.bool false)], args := [d1, d2] }
  | _ => none }
def SnapshotSizesWrongFalsely : Prop := snapshotSizesRow.holds Tryd.pinned (OpenSpec.ofChange snapshotSizesWrong)

/- THE SECOND FORM. 'bulk': how many values and letters a reading holds, each counted each time it is reached (what is shared counts as often as it is met; a slice's spare places count too). A statement '..UptoSaid' is the law's where the arguments, and the package variables that the reading takes, are together of bulk at most 1048576: NARROWER than '..Said'. Prove '..Said' where nothing that the law and all that it calls make is longer than what came in: it says more and counts as full. Else prove '..UptoSaid'. A law counts once. -/
mutual
def uptoBulk {H : Type} : DataW H → Nat
  | .lit (.string bytes) => bytes.length + 1
  | .lit _ => 1
  | .nil => 1
  | .ptr d => uptoBulk d + 1
  | .slice elems spare => uptoBulkAll elems + uptoBulkAll spare + 1
  | .agg parts => uptoBulkAll parts + 1
  | .iface _ d => uptoBulk d + 1
  | .map entries => uptoBulkEntries entries + 1
  | .held _ => 1
def uptoBulkAll {H : Type} : List (DataW H) → Nat
  | [] => 0
  | d :: r => uptoBulk d + uptoBulkAll r
def uptoBulkEntries {H : Type} : List (Lit × DataW H) → Nat
  | [] => 0
  | x :: r => uptoBulkEntry x + uptoBulkEntries r
def uptoBulkEntry {H : Type} : Lit × DataW H → Nat
  | (.string bytes, d) => bytes.length + uptoBulk d + 1
  | (_, d) => uptoBulk d + 1
 end
def uptoSmall : (H : Type) → List (DataW H) → Bool := fun _ ds => decide (uptoBulkAll ds ≤ 1048576)
def OpenSpec.upto (s : _root_.Go.ChangeSpec) : _root_.Go.OpenSpec := { _root_.Go.OpenSpec.ofChange s with cond := some uptoSmall }

/-- 'leaseholdlaw37.SnapshotDeltas', WHERE WHAT IT READS IS OF BULK AT MOST 1048576: true; the input reads as it did. -/
def snapshotDeltasUptoRow : OpenClaim := { program := "ytnlegbokpofcaaadoor", sum := "63ddf78fcb92a6ad7bc9e1b61c9891d78ff4ecbe2af219ff8d809bf1700d4334", func := "leasehold/leaseholdlaw37.SnapshotDeltas", spec := "snapshotDeltas", unfollowed := true, recurses := true, named := ["bytes.ErrTooLarge"], apart := false, laid := [("bytes.ErrTooLarge", laid_bytes_ErrTooLarge)], narrowed := true }
def SnapshotDeltasUptoSaid : Prop := snapshotDeltasUptoRow.holds Tryd.pinned (OpenSpec.upto snapshotDeltasSpec)

/-- 'leaseholdlaw37.SnapshotBases', WHERE WHAT IT READS IS OF BULK AT MOST 1048576: true; the input reads as it did. -/
def snapshotBasesUptoRow : OpenClaim := { program := "ytnlegbokpofcaaadoor", sum := "63ddf78fcb92a6ad7bc9e1b61c9891d78ff4ecbe2af219ff8d809bf1700d4334", func := "leasehold/leaseholdlaw37.SnapshotBases", spec := "snapshotBases", unfollowed := true, recurses := true, named := ["bytes.ErrTooLarge"], apart := false, laid := [("bytes.ErrTooLarge", laid_bytes_ErrTooLarge)], narrowed := true }
def SnapshotBasesUptoSaid : Prop := snapshotBasesUptoRow.holds Tryd.pinned (OpenSpec.upto snapshotBasesSpec)

/-- 'leaseholdlaw37.SnapshotSizes', WHERE WHAT IT READS IS OF BULK AT MOST 1048576: true; the input reads as it did. -/
def snapshotSizesUptoRow : OpenClaim := { program := "ytnlegbokpofcaaadoor", sum := "63ddf78fcb92a6ad7bc9e1b61c9891d78ff4ecbe2af219ff8d809bf1700d4334", func := "leasehold/leaseholdlaw37.SnapshotSizes", spec := "snapshotSizes", unfollowed := true, recurses := true, named := ["bytes.ErrTooLarge"], apart := false, laid := [("bytes.ErrTooLarge", laid_bytes_ErrTooLarge)], narrowed := true }
def SnapshotSizesUptoSaid : Prop := snapshotSizesUptoRow.holds Tryd.pinned (OpenSpec.upto snapshotSizesSpec)

end Rows
end Go.Proofs.YtnlegbokpofcaaaDoor
