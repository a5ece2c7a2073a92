/-
  No cell of these rows narrows 'for every input' (looked for: loops, veiled, ifaces, maps, wideKeys, modest, calm, conditions, laid).
  DERIVED. THE GIVEN ROWS OF THIS SEAT. 6 by the template 'for every input the law returns true; each argument reads behind the call as it read before'; 0 by the template 'total and deterministic' (their statements: YtmbfinlmjclojaaTotals.lean).
  GIVEN WITH THE SEED: the statements are not yours to turn. If you find one false, say at which input.
  Laid BY PROGRAM, IN A SANDBOX (cutbox-rows.mjs): the forced cells as the released guide's own fill.sh prints them over the translation 72a2bdafeb32f8f6… (all of the seat's roots in one cut). By AI agents, Wed Nov 11 2026. No macro, syntax, notation, axiom, sorry.
-/
import Derived.Test.YtmbfinlmjclojaaChecked
import GoSem.Claim
import GoSem.ClaimJoined
import GoSem.ClaimMapViews
import Derived.JoinedTies
import Derived.KernelRfl
namespace Go.Proofs.Ytmbfinlmjclojaa
/- THE CELL 'sum', in the pinned program and in every row, IS THE sha256 OF THE DUMP (.gsa) THAT YtmbfinlmjclojaaProg.lean LOADS. Nothing in Lean hashes anything: it is a label: what it is worth is what the hold of that sum in a sandbox is worth. -/
noncomputable def Try.pinned : Pinned := { name := "ytmbfinlmjclojaa", sum := "72a2bdafeb32f8f61825c1a7739a86554d912b2bff5f443f9871efc4ee3ecc03", checked := Try.checked }
namespace Rows
def none {H : Type} : Left H := { results := [], args := [] }

/-- 'leaseholdlaw36.DiskMatchesReference': WHATEVER THE INPUT: true; the input reads as it did. -/
def diskMatchesReferenceSpec : ChangeSpec := { name := "diskMatchesReference", fn := fun _ => fun
  | [d1, d2, d3, d4, d5] => { results := [.lit (.bool true)], args := [d1, d2, d3, d4, d5] }
  | _ => none }
def diskMatchesReferenceRow : OpenClaim := { program := "ytmbfinlmjclojaa", sum := "72a2bdafeb32f8f61825c1a7739a86554d912b2bff5f443f9871efc4ee3ecc03", func := "leasehold/leaseholdlaw36.DiskMatchesReference", spec := "diskMatchesReference", unfollowed := true, recurses := true, apart := false }
def DiskMatchesReferenceSaid : Prop := diskMatchesReferenceRow.holds Try.pinned (OpenSpec.ofChange diskMatchesReferenceSpec)

/-- ITS FALSE NEIGHBOUR: 'it returns false'. Refute it at one input. -/
def diskMatchesReferenceWrong : ChangeSpec := { name := "diskMatchesReference", fn := fun _ => fun
  | [d1, d2, d3, d4, d5] => { results := [.lit (.bool false)], args := [d1, d2, d3, d4, d5] }
  | _ => none }
def DiskMatchesReferenceWrongFalsely : Prop := diskMatchesReferenceRow.holds Try.pinned (OpenSpec.ofChange diskMatchesReferenceWrong)

/-- 'leaseholdlaw36.DiskRecords': WHATEVER THE INPUT: true; the input reads as it did. -/
def diskRecordsSpec : ChangeSpec := { name := "diskRecords", fn := fun _ => fun
  | [d1, d2, d3] => { results := [.lit (.bool true)], args := [d1, d2, d3] }
  | _ => none }
def diskRecordsRow : OpenClaim := { program := "ytmbfinlmjclojaa", sum := "72a2bdafeb32f8f61825c1a7739a86554d912b2bff5f443f9871efc4ee3ecc03", func := "leasehold/leaseholdlaw36.DiskRecords", spec := "diskRecords", unfollowed := true, recurses := true, apart := false }
def DiskRecordsSaid : Prop := diskRecordsRow.holds Try.pinned (OpenSpec.ofChange diskRecordsSpec)

/-- ITS FALSE NEIGHBOUR: 'it returns false'. Refute it at one input. -/
def diskRecordsWrong : ChangeSpec := { name := "diskRecords", fn := fun _ => fun
  | [d1, d2, d3] => { results := [.lit (.bool false)], args := [d1, d2, d3] }
  | _ => none }
def DiskRecordsWrongFalsely : Prop := diskRecordsRow.holds Try.pinned (OpenSpec.ofChange diskRecordsWrong)

/-- 'leaseholdlaw36.DiskPower': WHATEVER THE INPUT: true; the input reads as it did. -/
def diskPowerSpec : ChangeSpec := { name := "diskPower", fn := fun _ => fun
  | [d1, d2, d3, d4, d5] => { results := [.lit (.bool true)], args := [d1, d2, d3, d4, d5] }
  | _ => none }
def diskPowerRow : OpenClaim := { program := "ytmbfinlmjclojaa", sum := "72a2bdafeb32f8f61825c1a7739a86554d912b2bff5f443f9871efc4ee3ecc03", func := "leasehold/leaseholdlaw36.DiskPower", spec := "diskPower", unfollowed := true, recurses := true, apart := false }
def DiskPowerSaid : Prop := diskPowerRow.holds Try.pinned (OpenSpec.ofChange diskPowerSpec)

/-- ITS FALSE NEIGHBOUR: 'it returns false'. Refute it at one input. -/
def diskPowerWrong : ChangeSpec := { name := "diskPower", fn := fun _ => fun
  | [d1, d2, d3, d4, d5] => { results := [.lit (.bool false)], args := [d1, d2, d3, d4, d5] }
  | _ => none }
def DiskPowerWrongFalsely : Prop := diskPowerRow.holds Try.pinned (OpenSpec.ofChange diskPowerWrong)

/-- 'leaseholdlaw36.DiskWrites': WHATEVER THE INPUT: true; the input reads as it did. -/
def diskWritesSpec : ChangeSpec := { name := "diskWrites", fn := fun _ => fun
  | [d1, d2, d3] => { results := [.lit (.bool true)], args := [d1, d2, d3] }
  | _ => none }
def diskWritesRow : OpenClaim := { program := "ytmbfinlmjclojaa", sum := "72a2bdafeb32f8f61825c1a7739a86554d912b2bff5f443f9871efc4ee3ecc03", func := "leasehold/leaseholdlaw36.DiskWrites", spec := "diskWrites", unfollowed := true, recurses := true, apart := false }
def DiskWritesSaid : Prop := diskWritesRow.holds Try.pinned (OpenSpec.ofChange diskWritesSpec)

/-- ITS FALSE NEIGHBOUR: 'it returns false'. Refute it at one input. -/
def diskWritesWrong : ChangeSpec := { name := "diskWrites", fn := fun _ => fun
  | [d1, d2, d3] => { results := [.lit (.bool false)], args := [d1, d2, d3] }
  | _ => none }
def DiskWritesWrongFalsely : Prop := diskWritesRow.holds Try.pinned (OpenSpec.ofChange diskWritesWrong)

/-- 'leaseholdlaw36.DiskRoom': WHATEVER THE INPUT: true; the input reads as it did. -/
def diskRoomSpec : ChangeSpec := { name := "diskRoom", fn := fun _ => fun
  | [d1, d2] => { results := [.lit (.bool true)], args := [d1, d2] }
  | _ => none }
def diskRoomRow : OpenClaim := { program := "ytmbfinlmjclojaa", sum := "72a2bdafeb32f8f61825c1a7739a86554d912b2bff5f443f9871efc4ee3ecc03", func := "leasehold/leaseholdlaw36.DiskRoom", spec := "diskRoom", unfollowed := true, recurses := true, apart := false }
def DiskRoomSaid : Prop := diskRoomRow.holds Try.pinned (OpenSpec.ofChange diskRoomSpec)

/-- ITS FALSE NEIGHBOUR: 'it returns false'. Refute it at one input. -/
def diskRoomWrong : ChangeSpec := { name := "diskRoom", fn := fun _ => fun
  | [d1, d2] => { results := [.lit (.bool false)], args := [d1, d2] }
  | _ => none }
def DiskRoomWrongFalsely : Prop := diskRoomRow.holds Try.pinned (OpenSpec.ofChange diskRoomWrong)

/-- 'leaseholdlaw36.DiskTorn': WHATEVER THE INPUT: true; the input reads as it did. -/
def diskTornSpec : ChangeSpec := { name := "diskTorn", fn := fun _ => fun
  | [d1, d2, d3] => { results := [.lit (.bool true)], args := [d1, d2, d3] }
  | _ => none }
def diskTornRow : OpenClaim := { program := "ytmbfinlmjclojaa", sum := "72a2bdafeb32f8f61825c1a7739a86554d912b2bff5f443f9871efc4ee3ecc03", func := "leasehold/leaseholdlaw36.DiskTorn", spec := "diskTorn", unfollowed := true, recurses := true, apart := false }
def DiskTornSaid : Prop := diskTornRow.holds Try.pinned (OpenSpec.ofChange diskTornSpec)

/-- ITS FALSE NEIGHBOUR: 'it returns false'. Refute it at one input. -/
def diskTornWrong : ChangeSpec := { name := "diskTorn", fn := fun _ => fun
  | [d1, d2, d3] => { results := [.lit (.bool false)], args := [d1, d2, d3] }
  | _ => none }
def DiskTornWrongFalsely : Prop := diskTornRow.holds Try.pinned (OpenSpec.ofChange diskTornWrong)

/- THE SECOND FORM. 'bulk': how many values and letters a reading holds, each counted each time it is reached (what is shared counts as often as it is met; a slice's spare places count too). A statement '..UptoSaid' is the law's where the arguments, and the package variables that the reading takes, are together of bulk at most 1048576: NARROWER than '..Said'. Prove '..Said' where nothing that the law and all that it calls make is longer than what came in: it says more and counts as full. Else prove '..UptoSaid'. A law counts once. -/
mutual
def uptoBulk {H : Type} : DataW H → Nat
  | .lit (.string bytes) => bytes.length + 1
  | .lit _ => 1
  | .nil => 1
  | .ptr d => uptoBulk d + 1
  | .slice elems spare => uptoBulkAll elems + uptoBulkAll spare + 1
  | .agg parts => uptoBulkAll parts + 1
  | .iface _ d => uptoBulk d + 1
  | .map entries => uptoBulkEntries entries + 1
  | .held _ => 1
def uptoBulkAll {H : Type} : List (DataW H) → Nat
  | [] => 0
  | d :: r => uptoBulk d + uptoBulkAll r
def uptoBulkEntries {H : Type} : List (Lit × DataW H) → Nat
  | [] => 0
  | x :: r => uptoBulkEntry x + uptoBulkEntries r
def uptoBulkEntry {H : Type} : Lit × DataW H → Nat
  | (.string bytes, d) => bytes.length + uptoBulk d + 1
  | (_, d) => uptoBulk d + 1
 end
def uptoSmall : (H : Type) → List (DataW H) → Bool := fun _ ds => decide (uptoBulkAll ds ≤ 1048576)
def OpenSpec.upto (s : _root_.Go.ChangeSpec) : _root_.Go.OpenSpec := { _root_.Go.OpenSpec.ofChange s with cond := some uptoSmall }

/-- 'leaseholdlaw36.DiskMatchesReference', WHERE WHAT IT READS IS OF BULK AT MOST 1048576: true; the input reads as it did. -/
def diskMatchesReferenceUptoRow : OpenClaim := { program := "ytmbfinlmjclojaa", sum := "72a2bdafeb32f8f61825c1a7739a86554d912b2bff5f443f9871efc4ee3ecc03", func := "leasehold/leaseholdlaw36.DiskMatchesReference", spec := "diskMatchesReference", unfollowed := true, recurses := true, apart := false, narrowed := true }
def DiskMatchesReferenceUptoSaid : Prop := diskMatchesReferenceUptoRow.holds Try.pinned (OpenSpec.upto diskMatchesReferenceSpec)

/-- 'leaseholdlaw36.DiskRecords', WHERE WHAT IT READS IS OF BULK AT MOST 1048576: true; the input reads as it did. -/
def diskRecordsUptoRow : OpenClaim := { program := "ytmbfinlmjclojaa", sum := "72a2bdafeb32f8f61825c1a7739a86554d912b2bff5f443f9871efc4ee3ecc03", func := "leasehold/leaseholdlaw36.DiskRecords", spec := "diskRecords", unfollowed := true, recurses := true, apart := false, narrowed := true }
def DiskRecordsUptoSaid : Prop := diskRecordsUptoRow.holds Try.pinned (OpenSpec.upto diskRecordsSpec)

/-- 'leaseholdlaw36.DiskPower', WHERE WHAT IT READS IS OF BULK AT MOST 1048576: true; the input reads as it did. -/
def diskPowerUptoRow : OpenClaim := { program := "ytmbfinlmjclojaa", sum := "72a2bdafeb32f8f61825c1a7739a86554d912b2bff5f443f9871efc4ee3ecc03", func := "leasehold/leaseholdlaw36.DiskPower", spec := "diskPower", unfollowed := true, recurses := true, apart := false, narrowed := true }
def DiskPowerUptoSaid : Prop := diskPowerUptoRow.holds Try.pinned (OpenSpec.upto diskPowerSpec)

/-- 'leaseholdlaw36.DiskWrites', WHERE WHAT IT READS IS OF BULK AT MOST 1048576: true; the input reads as it did. -/
def diskWritesUptoRow : OpenClaim := { program := "ytmbfinlmjclojaa", sum := "72a2bdafeb32f8f61825c1a7739a86554d912b2bff5f443f9871efc4ee3ecc03", func := "leasehold/leaseholdlaw36.DiskWrites", spec := "diskWrites", unfollowed := true, recurses := true, apart := false, narrowed := true }
def DiskWritesUptoSaid : Prop := diskWritesUptoRow.holds Try.pinned (OpenSpec.upto diskWritesSpec)

/-- 'leaseholdlaw36.DiskRoom', WHERE WHAT IT READS IS OF BULK AT MOST 1048576: true; the input reads as it did. -/
def diskRoomUptoRow : OpenClaim := { program := "ytmbfinlmjclojaa", sum := "72a2bdafeb32f8f61825c1a7739a86554d912b2bff5f443f9871efc4ee3ecc03", func := "leasehold/leaseholdlaw36.DiskRoom", spec := "diskRoom", unfollowed := true, recurses := true, apart := false, narrowed := true }
def DiskRoomUptoSaid : Prop := diskRoomUptoRow.holds Try.pinned (OpenSpec.upto diskRoomSpec)

/-- 'leaseholdlaw36.DiskTorn', WHERE WHAT IT READS IS OF BULK AT MOST 1048576: true; the input reads as it did. -/
def diskTornUptoRow : OpenClaim := { program := "ytmbfinlmjclojaa", sum := "72a2bdafeb32f8f61825c1a7739a86554d912b2bff5f443f9871efc4ee3ecc03", func := "leasehold/leaseholdlaw36.DiskTorn", spec := "diskTorn", unfollowed := true, recurses := true, apart := false, narrowed := true }
def DiskTornUptoSaid : Prop := diskTornUptoRow.holds Try.pinned (OpenSpec.upto diskTornSpec)

end Rows
end Go.Proofs.Ytmbfinlmjclojaa
