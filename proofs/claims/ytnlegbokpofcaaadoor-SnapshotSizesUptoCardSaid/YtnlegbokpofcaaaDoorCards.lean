/-
  DERIVED. GIVEN WITH THE SEED: THE CARDS: each row of YtnlegbokpofcaaaDoorRows.lean that lists a variable, with what it lists TIED to the program's text (the seventh form; the later family's looks); each row that meets fmt, with fmt's text TOLD by the authors' own Lean function (tested against real Go, not proved from fmt's source: count such statements apart). THE CARD IS WHAT COUNTS. Prove the row's statement (the work); the ties are given (YtnlegbokpofcaaaDoorTie.lean); close each card by the builder's one call (the guide's Derived/Test/ToyasCard.lean, 'card_holds'). Laid BY PROGRAM, IN A SANDBOX (cutbox-door.mjs). By AI agents, Wed Nov 11 2026. No macro, syntax, notation, axiom, sorry.
-/
import Derived.Test.YtnlegbokpofcaaaDoorRows
import GoSem.ClaimSeven
namespace Go.Proofs.YtnlegbokpofcaaaDoor
namespace Rows

/-- THE TIED CARD OF 'leaseholdlaw37.SnapshotDeltas'. -/
def snapshotDeltasCard : Claim7 := { stood := { row := snapshotDeltasRow, standIns := [], harness := (true, "3aa8e96c7a4b64de51e1f0b29ed5f0871909b228d52542d03cc232810ee1f2e1"), looks := true }, kinds := [], alts := [], laidByText := true, laidKinds := [.sentinel], laidTests := true, laidLooks := .later }
def SnapshotDeltasCardSaid : Prop := Claim7.holds Tryd.pinned (.plain (OpenSpec.ofChange snapshotDeltasSpec)) snapshotDeltasCard

/-- THE TIED CARD OF 'leaseholdlaw37.SnapshotBases'. -/
def snapshotBasesCard : Claim7 := { stood := { row := snapshotBasesRow, standIns := [], harness := (true, "3aa8e96c7a4b64de51e1f0b29ed5f0871909b228d52542d03cc232810ee1f2e1"), looks := true }, kinds := [], alts := [], laidByText := true, laidKinds := [.sentinel], laidTests := true, laidLooks := .later }
def SnapshotBasesCardSaid : Prop := Claim7.holds Tryd.pinned (.plain (OpenSpec.ofChange snapshotBasesSpec)) snapshotBasesCard

/-- THE TIED CARD OF 'leaseholdlaw37.SnapshotSizes'. -/
def snapshotSizesCard : Claim7 := { stood := { row := snapshotSizesRow, standIns := [], harness := (true, "3aa8e96c7a4b64de51e1f0b29ed5f0871909b228d52542d03cc232810ee1f2e1"), looks := true }, kinds := [], alts := [], laidByText := true, laidKinds := [.sentinel], laidTests := true, laidLooks := .later }
def SnapshotSizesCardSaid : Prop := Claim7.holds Tryd.pinned (.plain (OpenSpec.ofChange snapshotSizesSpec)) snapshotSizesCard

/-- THE SECOND FORM's CARD OF 'leaseholdlaw37.SnapshotDeltas'. -/
def snapshotDeltasUptoCard : Claim7 := { stood := { row := snapshotDeltasUptoRow, standIns := [], harness := (true, "3aa8e96c7a4b64de51e1f0b29ed5f0871909b228d52542d03cc232810ee1f2e1"), looks := true }, kinds := [], alts := [], laidByText := true, laidKinds := [.sentinel], laidTests := true, laidLooks := .later }
def SnapshotDeltasUptoCardSaid : Prop := Claim7.holds Tryd.pinned (.plain (OpenSpec.upto snapshotDeltasSpec)) snapshotDeltasUptoCard

/-- THE SECOND FORM's CARD OF 'leaseholdlaw37.SnapshotBases'. -/
def snapshotBasesUptoCard : Claim7 := { stood := { row := snapshotBasesUptoRow, standIns := [], harness := (true, "3aa8e96c7a4b64de51e1f0b29ed5f0871909b228d52542d03cc232810ee1f2e1"), looks := true }, kinds := [], alts := [], laidByText := true, laidKinds := [.sentinel], laidTests := true, laidLooks := .later }
def SnapshotBasesUptoCardSaid : Prop := Claim7.holds Tryd.pinned (.plain (OpenSpec.upto snapshotBasesSpec)) snapshotBasesUptoCard

/-- THE SECOND FORM's CARD OF 'leaseholdlaw37.SnapshotSizes'. -/
def snapshotSizesUptoCard : Claim7 := { stood := { row := snapshotSizesUptoRow, standIns := [], harness := (true, "3aa8e96c7a4b64de51e1f0b29ed5f0871909b228d52542d03cc232810ee1f2e1"), looks := true }, kinds := [], alts := [], laidByText := true, laidKinds := [.sentinel], laidTests := true, laidLooks := .later }
def SnapshotSizesUptoCardSaid : Prop := Claim7.holds Tryd.pinned (.plain (OpenSpec.upto snapshotSizesSpec)) snapshotSizesUptoCard
end Rows
end Go.Proofs.YtnlegbokpofcaaaDoor
