/-
  NARROWER THAN 'FOR EVERY INPUT', by the rows' own cells (each row's printed sentence says how): ImageMatchesReference: loops, laid · ImageInverse: loops, laid · ImageCanonical: laid · ImageDamaged: loops, laid · ImageTruncated: loops, laid · ImageEqual: loops, laid.
  DERIVED. THE GIVEN ROWS OF THIS SEAT. 6 by the template 'for every input the law returns true; each argument reads behind the call as it read before'; 0 by the template 'total and deterministic' (their statements: YtfkgdgfmkocloaaGreatDoorTotals.lean).
  GIVEN WITH THE SEED: the statements are not yours to turn. If you find one false, say at which input.
  Laid BY PROGRAM, IN A SANDBOX (cutbox-rows.mjs): the forced cells as the released guide's own fill.sh prints them over the translation e51df193dfd8d3dc… (all of the seat's roots in one cut). By AI agents, Wed Nov 11 2026. No macro, syntax, notation, axiom, sorry.
-/
import Derived.Test.YtfkgdgfmkocloaaGreatDoorChecked
import GoSem.Claim
import GoSem.ClaimJoined
import GoSem.ClaimMapViews
import Derived.JoinedTies
import Derived.KernelRfl
namespace Go.Proofs.YtfkgdgfmkocloaaGreatDoor
/- THE CELL 'sum', in the pinned program and in every row, IS THE sha256 OF THE DUMP (.gsa) THAT YtfkgdgfmkocloaaGreatDoorProg.lean LOADS. Nothing in Lean hashes anything: it is a label: what it is worth is what the hold of that sum in a sandbox is worth. -/
noncomputable def Tryz.pinned : Pinned := { name := "ytfkgdgfmkocloaagreatdoor", sum := "e51df193dfd8d3dcd1cfbe69600a0096ead6a15bfa530ee5edcff60b3a554c4d", checked := Tryz.checked }
namespace Rows
def none {H : Type} : Left H := { results := [], args := [] }

/- WHAT THE LISTED PACKAGE-LEVEL VARIABLES READ AS WHEN THE CALL BEGINS. Each datum BY PROGRAM (the guide's laid-datum.mjs) off the statement by which the dump's own 'gosem.cut.vars' lays the variable. In a bare row this is a premise. The card (YtfkgdgfmkocloaaGreatDoorCards.lean) ties it to the program's text. -/
def laid_bytes_ErrTooLarge {H : Type} : DataW H := .iface "*errors.errorString" (.ptr (.agg [.lit (.string [98, 121, 116, 101, 115, 46, 66, 117, 102, 102, 101, 114, 58, 32, 116, 111, 111, 32, 108, 97, 114, 103, 101])]))

/-- 'leaseholdlaw28.ImageMatchesReference': WHATEVER THE INPUT: true; the input reads as it did. -/
def imageMatchesReferenceSpec : ChangeSpec := { name := "imageMatchesReference", fn := fun _ => fun
  | [d1, d2, d3] => { results := [.lit (.bool true)], args := [d1, d2, d3] }
  | _ => none }
def imageMatchesReferenceRow : OpenClaim := { program := "ytfkgdgfmkocloaagreatdoor", sum := "e51df193dfd8d3dcd1cfbe69600a0096ead6a15bfa530ee5edcff60b3a554c4d", func := "leasehold/leaseholdlaw28.ImageMatchesReference", spec := "imageMatchesReference", unfollowed := true, recurses := true, named := ["bytes.ErrTooLarge"], loops := true, apart := false, laid := [("bytes.ErrTooLarge", laid_bytes_ErrTooLarge)] }
def ImageMatchesReferenceSaid : Prop := imageMatchesReferenceRow.holds Tryz.pinned (OpenSpec.ofChange imageMatchesReferenceSpec)

/-- ITS FALSE NEIGHBOUR: 'it returns false'. Refute it at one input. -/
def imageMatchesReferenceWrong : ChangeSpec := { name := "imageMatchesReference", fn := fun _ => fun
  | [d1, d2, d3] => { results := [.lit (.bool false)], args := [d1, d2, d3] }
  | _ => none }
def ImageMatchesReferenceWrongFalsely : Prop := imageMatchesReferenceRow.holds Tryz.pinned (OpenSpec.ofChange imageMatchesReferenceWrong)

/-- 'leaseholdlaw28.ImageInverse': WHATEVER THE INPUT: true; the input reads as it did. -/
def imageInverseSpec : ChangeSpec := { name := "imageInverse", fn := fun _ => fun
  | [d] => { results := [.lit (.bool true)], args := [d] }
  | _ => none }
def imageInverseRow : OpenClaim := { program := "ytfkgdgfmkocloaagreatdoor", sum := "e51df193dfd8d3dcd1cfbe69600a0096ead6a15bfa530ee5edcff60b3a554c4d", func := "leasehold/leaseholdlaw28.ImageInverse", spec := "imageInverse", unfollowed := true, recurses := true, named := ["bytes.ErrTooLarge"], loops := true, apart := false, laid := [("bytes.ErrTooLarge", laid_bytes_ErrTooLarge)] }
def ImageInverseSaid : Prop := imageInverseRow.holds Tryz.pinned (OpenSpec.ofChange imageInverseSpec)

/-- ITS FALSE NEIGHBOUR: 'it returns false'. Refute it at one input. -/
def imageInverseWrong : ChangeSpec := { name := "imageInverse", fn := fun _ => fun
  | [d] => { results := [.lit (.bool false)], args := [d] }
  | _ => none }
def ImageInverseWrongFalsely : Prop := imageInverseRow.holds Tryz.pinned (OpenSpec.ofChange imageInverseWrong)

/-- 'leaseholdlaw28.ImageCanonical': WHATEVER THE INPUT: true; the input reads as it did. -/
def imageCanonicalSpec : ChangeSpec := { name := "imageCanonical", fn := fun _ => fun
  | [d] => { results := [.lit (.bool true)], args := [d] }
  | _ => none }
def imageCanonicalRow : OpenClaim := { program := "ytfkgdgfmkocloaagreatdoor", sum := "e51df193dfd8d3dcd1cfbe69600a0096ead6a15bfa530ee5edcff60b3a554c4d", func := "leasehold/leaseholdlaw28.ImageCanonical", spec := "imageCanonical", unfollowed := true, recurses := true, named := ["bytes.ErrTooLarge"], apart := false, laid := [("bytes.ErrTooLarge", laid_bytes_ErrTooLarge)] }
def ImageCanonicalSaid : Prop := imageCanonicalRow.holds Tryz.pinned (OpenSpec.ofChange imageCanonicalSpec)

/-- ITS FALSE NEIGHBOUR: 'it returns false'. Refute it at one input. -/
def imageCanonicalWrong : ChangeSpec := { name := "imageCanonical", fn := fun _ => fun
  | [d] => { results := [.lit (.bool false)], args := [d] }
  | _ => none }
def ImageCanonicalWrongFalsely : Prop := imageCanonicalRow.holds Tryz.pinned (OpenSpec.ofChange imageCanonicalWrong)

/-- 'leaseholdlaw28.ImageDamaged': WHATEVER THE INPUT: true; the input reads as it did. -/
def imageDamagedSpec : ChangeSpec := { name := "imageDamaged", fn := fun _ => fun
  | [d1, d2, d3] => { results := [.lit (.bool true)], args := [d1, d2, d3] }
  | _ => none }
def imageDamagedRow : OpenClaim := { program := "ytfkgdgfmkocloaagreatdoor", sum := "e51df193dfd8d3dcd1cfbe69600a0096ead6a15bfa530ee5edcff60b3a554c4d", func := "leasehold/leaseholdlaw28.ImageDamaged", spec := "imageDamaged", unfollowed := true, recurses := true, named := ["bytes.ErrTooLarge"], loops := true, apart := false, laid := [("bytes.ErrTooLarge", laid_bytes_ErrTooLarge)] }
def ImageDamagedSaid : Prop := imageDamagedRow.holds Tryz.pinned (OpenSpec.ofChange imageDamagedSpec)

/-- ITS FALSE NEIGHBOUR: 'it returns false'. Refute it at one input. -/
def imageDamagedWrong : ChangeSpec := { name := "imageDamaged", fn := fun _ => fun
  | [d1, d2, d3] => { results := [.lit (.bool false)], args := [d1, d2, d3] }
  | _ => none }
def ImageDamagedWrongFalsely : Prop := imageDamagedRow.holds Tryz.pinned (OpenSpec.ofChange imageDamagedWrong)

/-- 'leaseholdlaw28.ImageTruncated': WHATEVER THE INPUT: true; the input reads as it did. -/
def imageTruncatedSpec : ChangeSpec := { name := "imageTruncated", fn := fun _ => fun
  | [d1, d2, d3] => { results := [.lit (.bool true)], args := [d1, d2, d3] }
  | _ => none }
def imageTruncatedRow : OpenClaim := { program := "ytfkgdgfmkocloaagreatdoor", sum := "e51df193dfd8d3dcd1cfbe69600a0096ead6a15bfa530ee5edcff60b3a554c4d", func := "leasehold/leaseholdlaw28.ImageTruncated", spec := "imageTruncated", unfollowed := true, recurses := true, named := ["bytes.ErrTooLarge"], loops := true, apart := false, laid := [("bytes.ErrTooLarge", laid_bytes_ErrTooLarge)] }
def ImageTruncatedSaid : Prop := imageTruncatedRow.holds Tryz.pinned (OpenSpec.ofChange imageTruncatedSpec)

/-- ITS FALSE NEIGHBOUR: 'it returns false'. Refute it at one input. -/
def imageTruncatedWrong : ChangeSpec := { name := "imageTruncated", fn := fun _ => fun
  | [d1, d2, d3] => { results := [.lit (.bool false)], args := [d1, d2, d3] }
  | _ => none }
def ImageTruncatedWrongFalsely : Prop := imageTruncatedRow.holds Tryz.pinned (OpenSpec.ofChange imageTruncatedWrong)

/-- 'leaseholdlaw28.ImageEqual': WHATEVER THE INPUT: true; the input reads as it did. -/
def imageEqualSpec : ChangeSpec := { name := "imageEqual", fn := fun _ => fun
  | [d1, d2] => { results := [.lit (.bool true)], args := [d1, d2] }
  | _ => none }
def imageEqualRow : OpenClaim := { program := "ytfkgdgfmkocloaagreatdoor", sum := "e51df193dfd8d3dcd1cfbe69600a0096ead6a15bfa530ee5edcff60b3a554c4d", func := "leasehold/leaseholdlaw28.ImageEqual", spec := "imageEqual", unfollowed := true, recurses := true, named := ["bytes.ErrTooLarge"], loops := true, apart := false, laid := [("bytes.ErrTooLarge", laid_bytes_ErrTooLarge)] }
def ImageEqualSaid : Prop := imageEqualRow.holds Tryz.pinned (OpenSpec.ofChange imageEqualSpec)

/-- ITS FALSE NEIGHBOUR: 'it returns false'. Refute it at one input. -/
def imageEqualWrong : ChangeSpec := { name := "imageEqual", fn := fun _ => fun
  | [d1, d2] => { results := [.lit (.bool false)], args := [d1, d2] }
  | _ => none }
def ImageEqualWrongFalsely : Prop := imageEqualRow.holds Tryz.pinned (OpenSpec.ofChange imageEqualWrong)

/- THE SECOND FORM. 'bulk': how many values and letters a reading holds, each counted each time it is reached (what is shared counts as often as it is met; a slice's spare places count too). A statement '..UptoSaid' is the law's where the arguments, and the package variables that the reading takes, are together of bulk at most 1048576: NARROWER than '..Said'. Prove '..Said' where nothing that the law and all that it calls make is longer than what came in: it says more and counts as full. Else prove '..UptoSaid'. A law counts once. -/
mutual
def uptoBulk {H : Type} : DataW H → Nat
  | .lit (.string bytes) => bytes.length + 1
  | .lit _ => 1
  | .nil => 1
  | .ptr d => uptoBulk d + 1
  | .slice elems spare => uptoBulkAll elems + uptoBulkAll spare + 1
  | .agg parts => uptoBulkAll parts + 1
  | .iface _ d => uptoBulk d + 1
  | .map entries => uptoBulkEntries entries + 1
  | .held _ => 1
def uptoBulkAll {H : Type} : List (DataW H) → Nat
  | [] => 0
  | d :: r => uptoBulk d + uptoBulkAll r
def uptoBulkEntries {H : Type} : List (Lit × DataW H) → Nat
  | [] => 0
  | x :: r => uptoBulkEntry x + uptoBulkEntries r
def uptoBulkEntry {H : Type} : Lit × DataW H → Nat
  | (.string bytes, d) => bytes.length + uptoBulk d + 1
  | (_, d) => uptoBulk d + 1
 end
def uptoSmall : (H : Type) → List (DataW H) → Bool := fun _ ds => decide (uptoBulkAll ds ≤ 1048576)
def OpenSpec.upto (s : _root_.Go.ChangeSpec) : _root_.Go.OpenSpec := { _root_.Go.OpenSpec.ofChange s with cond := some uptoSmall }

/-- 'leaseholdlaw28.ImageMatchesReference', WHERE WHAT IT READS IS OF BULK AT MOST 1048576: true; the input reads as it did. -/
def imageMatchesReferenceUptoRow : OpenClaim := { program := "ytfkgdgfmkocloaagreatdoor", sum := "e51df193dfd8d3dcd1cfbe69600a0096ead6a15bfa530ee5edcff60b3a554c4d", func := "leasehold/leaseholdlaw28.ImageMatchesReference", spec := "imageMatchesReference", unfollowed := true, recurses := true, named := ["bytes.ErrTooLarge"], loops := true, apart := false, laid := [("bytes.ErrTooLarge", laid_bytes_ErrTooLarge)], narrowed := true }
def ImageMatchesReferenceUptoSaid : Prop := imageMatchesReferenceUptoRow.holds Tryz.pinned (OpenSpec.upto imageMatchesReferenceSpec)

/-- 'leaseholdlaw28.ImageInverse', WHERE WHAT IT READS IS OF BULK AT MOST 1048576: true; the input reads as it did. -/
def imageInverseUptoRow : OpenClaim := { program := "ytfkgdgfmkocloaagreatdoor", sum := "e51df193dfd8d3dcd1cfbe69600a0096ead6a15bfa530ee5edcff60b3a554c4d", func := "leasehold/leaseholdlaw28.ImageInverse", spec := "imageInverse", unfollowed := true, recurses := true, named := ["bytes.ErrTooLarge"], loops := true, apart := false, laid := [("bytes.ErrTooLarge", laid_bytes_ErrTooLarge)], narrowed := true }
def ImageInverseUptoSaid : Prop := imageInverseUptoRow.holds Tryz.pinned (OpenSpec.upto imageInverseSpec)

/-- 'leaseholdlaw28.ImageCanonical', WHERE WHAT IT READS IS OF BULK AT MOST 1048576: true; the input reads as it did. -/
def imageCanonicalUptoRow : OpenClaim := { program := "ytfkgdgfmkocloaagreatdoor", sum := "e51df193dfd8d3dcd1cfbe69600a0096ead6a15bfa530ee5edcff60b3a554c4d", func := "leasehold/leaseholdlaw28.ImageCanonical", spec := "imageCanonical", unfollowed := true, recurses := true, named := ["bytes.ErrTooLarge"], apart := false, laid := [("bytes.ErrTooLarge", laid_bytes_ErrTooLarge)], narrowed := true }
def ImageCanonicalUptoSaid : Prop := imageCanonicalUptoRow.holds Tryz.pinned (OpenSpec.upto imageCanonicalSpec)

/-- 'leaseholdlaw28.ImageDamaged', WHERE WHAT IT READS IS OF BULK AT MOST 1048576: true; the input reads as it did. -/
def imageDamagedUptoRow : OpenClaim := { program := "ytfkgdgfmkocloaagreatdoor", sum := "e51df193dfd8d3dcd1cfbe69600a0096ead6a15bfa530ee5edcff60b3a554c4d", func := "leasehold/leaseholdlaw28.ImageDamaged", spec := "imageDamaged", unfollowed := true, recurses := true, named := ["bytes.ErrTooLarge"], loops := true, apart := false, laid := [("bytes.ErrTooLarge", laid_bytes_ErrTooLarge)], narrowed := true }
def ImageDamagedUptoSaid : Prop := imageDamagedUptoRow.holds Tryz.pinned (OpenSpec.upto imageDamagedSpec)

/-- 'leaseholdlaw28.ImageTruncated', WHERE WHAT IT READS IS OF BULK AT MOST 1048576: true; the input reads as it did. -/
def imageTruncatedUptoRow : OpenClaim := { program := "ytfkgdgfmkocloaagreatdoor", sum := "e51df193dfd8d3dcd1cfbe69600a0096ead6a15bfa530ee5edcff60b3a554c4d", func := "leasehold/leaseholdlaw28.ImageTruncated", spec := "imageTruncated", unfollowed := true, recurses := true, named := ["bytes.ErrTooLarge"], loops := true, apart := false, laid := [("bytes.ErrTooLarge", laid_bytes_ErrTooLarge)], narrowed := true }
def ImageTruncatedUptoSaid : Prop := imageTruncatedUptoRow.holds Tryz.pinned (OpenSpec.upto imageTruncatedSpec)

/-- 'leaseholdlaw28.ImageEqual', WHERE WHAT IT READS IS OF BULK AT MOST 1048576: true; the input reads as it did. -/
def imageEqualUptoRow : OpenClaim := { program := "ytfkgdgfmkocloaagreatdoor", sum := "e51df193dfd8d3dcd1cfbe69600a0096ead6a15bfa530ee5edcff60b3a554c4d", func := "leasehold/leaseholdlaw28.ImageEqual", spec := "imageEqual", unfollowed := true, recurses := true, named := ["bytes.ErrTooLarge"], loops := true, apart := false, laid := [("bytes.ErrTooLarge", laid_bytes_ErrTooLarge)], narrowed := true }
def ImageEqualUptoSaid : Prop := imageEqualUptoRow.holds Tryz.pinned (OpenSpec.upto imageEqualSpec)

end Rows
end Go.Proofs.YtfkgdgfmkocloaaGreatDoor
