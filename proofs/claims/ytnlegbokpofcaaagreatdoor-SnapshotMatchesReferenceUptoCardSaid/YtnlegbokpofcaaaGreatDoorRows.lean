/-
  NARROWER THAN 'FOR EVERY INPUT', by the rows' own cells (each row's printed sentence says how): SnapshotMatchesReference: loops, laid · SnapshotInverse: loops, laid · SnapshotCanonical: laid · SnapshotDamaged: loops, laid.
  DERIVED. THE GIVEN ROWS OF THIS SEAT. 4 by the template 'for every input the law returns true; each argument reads behind the call as it read before'; 0 by the template 'total and deterministic' (their statements: YtnlegbokpofcaaaGreatDoorTotals.lean).
  GIVEN WITH THE SEED: the statements are not yours to turn. If you find one false, say at which input.
  Laid BY PROGRAM, IN A SANDBOX (cutbox-rows.mjs): the forced cells as the released guide's own fill.sh prints them over the translation 672b4f4963fcdf6e… (all of the seat's roots in one cut). By AI agents, Wed Nov 11 2026. No macro, syntax, notation, axiom, sorry.
-/
import Derived.Test.YtnlegbokpofcaaaGreatDoorChecked
import GoSem.Claim
import GoSem.ClaimJoined
import GoSem.ClaimMapViews
import Derived.JoinedTies
import Derived.KernelRfl
namespace Go.Proofs.YtnlegbokpofcaaaGreatDoor
/- THE CELL 'sum', in the pinned program and in every row, IS THE sha256 OF THE DUMP (.gsa) THAT YtnlegbokpofcaaaGreatDoorProg.lean LOADS. Nothing in Lean hashes anything: it is a label: what it is worth is what the hold of that sum in a sandbox is worth. -/
noncomputable def Tryz.pinned : Pinned := { name := "ytnlegbokpofcaaagreatdoor", sum := "672b4f4963fcdf6e6c43479295fa567821e1973e79d70cbb0dfbcbd9e1c79702", checked := Tryz.checked }
namespace Rows
def none {H : Type} : Left H := { results := [], args := [] }

/- WHAT THE LISTED PACKAGE-LEVEL VARIABLES READ AS WHEN THE CALL BEGINS. Each datum BY PROGRAM (the guide's laid-datum.mjs) off the statement by which the dump's own 'gosem.cut.vars' lays the variable. In a bare row this is a premise. The card (YtnlegbokpofcaaaGreatDoorCards.lean) ties it to the program's text. -/
def laid_bytes_ErrTooLarge {H : Type} : DataW H := .iface "*errors.errorString" (.ptr (.agg [.lit (.string [98, 121, 116, 101, 115, 46, 66, 117, 102, 102, 101, 114, 58, 32, 116, 111, 111, 32, 108, 97, 114, 103, 101])]))

/-- 'leaseholdlaw37.SnapshotMatchesReference': WHATEVER THE INPUT: true; the input reads as it did. -/
def snapshotMatchesReferenceSpec : ChangeSpec := { name := "snapshotMatchesReference", fn := fun _ => fun
  | [d1, d2, d3, d4, d5] => { results := [.lit (.bool true)], args := [d1, d2, d3, d4, d5] }
  | _ => none }
def snapshotMatchesReferenceRow : OpenClaim := { program := "ytnlegbokpofcaaagreatdoor", sum := "672b4f4963fcdf6e6c43479295fa567821e1973e79d70cbb0dfbcbd9e1c79702", func := "leasehold/leaseholdlaw37.SnapshotMatchesReference", spec := "snapshotMatchesReference", unfollowed := true, recurses := true, named := ["bytes.ErrTooLarge"], loops := true, apart := false, laid := [("bytes.ErrTooLarge", laid_bytes_ErrTooLarge)] }
def SnapshotMatchesReferenceSaid : Prop := snapshotMatchesReferenceRow.holds Tryz.pinned (OpenSpec.ofChange snapshotMatchesReferenceSpec)

/-- ITS FALSE NEIGHBOUR: 'it returns false'. Refute it at one input. -/
def snapshotMatchesReferenceWrong : ChangeSpec := { name := "snapshotMatchesReference", fn := fun _ => fun
  | [d1, d2, d3, d4, d5] => { results := [.lit (.bool false)], args := [d1, d2, d3, d4, d5] }
  | _ => none }
def SnapshotMatchesReferenceWrongFalsely : Prop := snapshotMatchesReferenceRow.holds Tryz.pinned (OpenSpec.ofChange snapshotMatchesReferenceWrong)

/-- 'leaseholdlaw37.SnapshotInverse': WHATEVER THE INPUT: true; the input reads as it did. -/
def snapshotInverseSpec : ChangeSpec := { name := "snapshotInverse", fn := fun _ => fun
  | [d1, d2] => { results := [.lit (.bool true)], args := [d1, d2] }
  | _ => none }
def snapshotInverseRow : OpenClaim := { program := "ytnlegbokpofcaaagreatdoor", sum := "672b4f4963fcdf6e6c43479295fa567821e1973e79d70cbb0dfbcbd9e1c79702", func := "leasehold/leaseholdlaw37.SnapshotInverse", spec := "snapshotInverse", unfollowed := true, recurses := true, named := ["bytes.ErrTooLarge"], loops := true, apart := false, laid := [("bytes.ErrTooLarge", laid_bytes_ErrTooLarge)] }
def SnapshotInverseSaid : Prop := snapshotInverseRow.holds Tryz.pinned (OpenSpec.ofChange snapshotInverseSpec)

/-- ITS FALSE NEIGHBOUR: 'it returns false'. Refute it at one input. -/
def snapshotInverseWrong : ChangeSpec := { name := "snapshotInverse", fn := fun _ => fun
  | [d1, d2] => { results := [.lit (.bool false)], args := [d1, d2] }
  | _ => none }
def SnapshotInverseWrongFalsely : Prop := snapshotInverseRow.holds Tryz.pinned (OpenSpec.ofChange snapshotInverseWrong)

/-- 'leaseholdlaw37.SnapshotCanonical': WHATEVER THE INPUT: true; the input reads as it did. -/
def snapshotCanonicalSpec : ChangeSpec := { name := "snapshotCanonical", fn := fun _ => fun
  | [d] => { results := [.lit (.bool true)], args := [d] }
  | _ => none }
def snapshotCanonicalRow : OpenClaim := { program := "ytnlegbokpofcaaagreatdoor", sum := "672b4f4963fcdf6e6c43479295fa567821e1973e79d70cbb0dfbcbd9e1c79702", func := "leasehold/leaseholdlaw37.SnapshotCanonical", spec := "snapshotCanonical", unfollowed := true, recurses := true, named := ["bytes.ErrTooLarge"], apart := false, laid := [("bytes.ErrTooLarge", laid_bytes_ErrTooLarge)] }
def SnapshotCanonicalSaid : Prop := snapshotCanonicalRow.holds Tryz.pinned (OpenSpec.ofChange snapshotCanonicalSpec)

/-- ITS FALSE NEIGHBOUR: 'it returns false'. Refute it at one input. -/
def snapshotCanonicalWrong : ChangeSpec := { name := "snapshotCanonical", fn := fun _ => fun
  | [d] => { results := [.lit (.bool false)], args := [d] }
  | _ => none }
def SnapshotCanonicalWrongFalsely : Prop := snapshotCanonicalRow.holds Tryz.pinned (OpenSpec.ofChange snapshotCanonicalWrong)

/-- 'leaseholdlaw37.SnapshotDamaged': WHATEVER THE INPUT: true; the input reads as it did. -/
def snapshotDamagedSpec : ChangeSpec := { name := "snapshotDamaged", fn := fun _ => fun
  | [d1, d2, d3, d4] => { results := [.lit (.bool true)], args := [d1, d2, d3, d4] }
  | _ => none }
def snapshotDamagedRow : OpenClaim := { program := "ytnlegbokpofcaaagreatdoor", sum := "672b4f4963fcdf6e6c43479295fa567821e1973e79d70cbb0dfbcbd9e1c79702", func := "leasehold/leaseholdlaw37.SnapshotDamaged", spec := "snapshotDamaged", unfollowed := true, recurses := true, named := ["bytes.ErrTooLarge"], loops := true, apart := false, laid := [("bytes.ErrTooLarge", laid_bytes_ErrTooLarge)] }
def SnapshotDamagedSaid : Prop := snapshotDamagedRow.holds Tryz.pinned (OpenSpec.ofChange snapshotDamagedSpec)

/-- ITS FALSE NEIGHBOUR: 'it returns false'. Refute it at one input. -/
def snapshotDamagedWrong : ChangeSpec := { name := "snapshotDamaged", fn := fun _ => fun
  | [d1, d2, d3, d4] => { results := [.lit (.bool false)], args := [d1, d2, d3, d4] }
  | _ => none }
def SnapshotDamagedWrongFalsely : Prop := snapshotDamagedRow.holds Tryz.pinned (OpenSpec.ofChange snapshotDamagedWrong)

/- THE SECOND FORM. 'bulk': how many values and letters a reading holds, each counted each time it is reached (what is shared counts as often as it is met; a slice's spare places count too). A statement '..UptoSaid' is the law's where the arguments, and the package variables that the reading takes, are together of bulk at most 1048576: NARROWER than '..Said'. Prove '..Said' where nothing that the law and all that it calls make is longer than what came in: it says more and counts as full. Else prove '..UptoSaid'. A law counts once. -/
mutual
def uptoBulk {H : Type} : DataW H → Nat
  | .lit (.string bytes) => bytes.length + 1
  | .lit _ => 1
  | .nil => 1
  | .ptr d => uptoBulk d + 1
  | .slice elems spare => uptoBulkAll elems + uptoBulkAll spare + 1
  | .agg parts => uptoBulkAll parts + 1
  | .iface _ d => uptoBulk d + 1
  | .map entries => uptoBulkEntries entries + 1
  | .held _ => 1
def uptoBulkAll {H : Type} : List (DataW H) → Nat
  | [] => 0
  | d :: r => uptoBulk d + uptoBulkAll r
def uptoBulkEntries {H : Type} : List (Lit × DataW H) → Nat
  | [] => 0
  | x :: r => uptoBulkEntry x + uptoBulkEntries r
def uptoBulkEntry {H : Type} : Lit × DataW H → Nat
  | (.string bytes, d) => bytes.length + uptoBulk d + 1
  | (_, d) => uptoBulk d + 1
 end
def uptoSmall : (H : Type) → List (DataW H) → Bool := fun _ ds => decide (uptoBulkAll ds ≤ 1048576)
def OpenSpec.upto (s : _root_.Go.ChangeSpec) : _root_.Go.OpenSpec := { _root_.Go.OpenSpec.ofChange s with cond := some uptoSmall }

/-- 'leaseholdlaw37.SnapshotMatchesReference', WHERE WHAT IT READS IS OF BULK AT MOST 1048576: true; the input reads as it did. -/
def snapshotMatchesReferenceUptoRow : OpenClaim := { program := "ytnlegbokpofcaaagreatdoor", sum := "672b4f4963fcdf6e6c43479295fa567821e1973e79d70cbb0dfbcbd9e1c79702", func := "leasehold/leaseholdlaw37.SnapshotMatchesReference", spec := "snapshotMatchesReference", unfollowed := true, recurses := true, named := ["bytes.ErrTooLarge"], loops := true, apart := false, laid := [("bytes.ErrTooLarge", laid_bytes_ErrTooLarge)], narrowed := true }
def SnapshotMatchesReferenceUptoSaid : Prop := snapshotMatchesReferenceUptoRow.holds Tryz.pinned (OpenSpec.upto snapshotMatchesReferenceSpec)

/-- 'leaseholdlaw37.SnapshotInverse', WHERE WHAT IT READS IS OF BULK AT MOST 1048576: true; the input reads as it did. -/
def snapshotInverseUptoRow : OpenClaim := { program := "ytnlegbokpofcaaagreatdoor", sum := "672b4f4963fcdf6e6c43479295fa567821e1973e79d70cbb0dfbcbd9e1c79702", func := "leasehold/leaseholdlaw37.SnapshotInverse", spec := "snapshotInverse", unfollowed := true, recurses := true, named := ["bytes.ErrTooLarge"], loops := true, apart := false, laid := [("bytes.ErrTooLarge", laid_bytes_ErrTooLarge)], narrowed := true }
def SnapshotInverseUptoSaid : Prop := snapshotInverseUptoRow.holds Tryz.pinned (OpenSpec.upto snapshotInverseSpec)

/-- 'leaseholdlaw37.SnapshotCanonical', WHERE WHAT IT READS IS OF BULK AT MOST 1048576: true; the input reads as it did. -/
def snapshotCanonicalUptoRow : OpenClaim := { program := "ytnlegbokpofcaaagreatdoor", sum := "672b4f4963fcdf6e6c43479295fa567821e1973e79d70cbb0dfbcbd9e1c79702", func := "leasehold/leaseholdlaw37.SnapshotCanonical", spec := "snapshotCanonical", unfollowed := true, recurses := true, named := ["bytes.ErrTooLarge"], apart := false, laid := [("bytes.ErrTooLarge", laid_bytes_ErrTooLarge)], narrowed := true }
def SnapshotCanonicalUptoSaid : Prop := snapshotCanonicalUptoRow.holds Tryz.pinned (OpenSpec.upto snapshotCanonicalSpec)

/-- 'leaseholdlaw37.SnapshotDamaged', WHERE WHAT IT READS IS OF BULK AT MOST 1048576: true; the input reads as it did. -/
def snapshotDamagedUptoRow : OpenClaim := { program := "ytnlegbokpofcaaagreatdoor", sum := "672b4f4963fcdf6e6c43479295fa567821e1973e79d70cbb0dfbcbd9e1c79702", func := "leasehold/leaseholdlaw37.SnapshotDamaged", spec := "snapshotDamaged", unfollowed := true, recurses := true, named := ["bytes.ErrTooLarge"], loops := true, apart := false, laid := [("bytes.ErrTooLarge", laid_bytes_ErrTooLarge)], narrowed := true }
def SnapshotDamagedUptoSaid : Prop := snapshotDamagedUptoRow.holds Tryz.pinned (OpenSpec.upto snapshotDamagedSpec)

end Rows
end Go.Proofs.YtnlegbokpofcaaaGreatDoor
