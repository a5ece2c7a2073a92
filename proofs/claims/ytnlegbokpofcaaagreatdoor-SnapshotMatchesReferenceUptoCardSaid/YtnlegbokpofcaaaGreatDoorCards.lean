/-
  DERIVED. GIVEN WITH THE SEED: THE CARDS: each row of YtnlegbokpofcaaaGreatDoorRows.lean that lists a variable, with what it lists TIED to the program's text (the seventh form; the later family's looks); each row that meets fmt, with fmt's text TOLD by the authors' own Lean function (tested against real Go, not proved from fmt's source: count such statements apart). THE CARD IS WHAT COUNTS. Prove the row's statement (the work); the ties are given (YtnlegbokpofcaaaGreatDoorTie.lean); close each card by the builder's one call (the guide's Derived/Test/ToyasCard.lean, 'card_holds'). Laid BY PROGRAM, IN A SANDBOX (cutbox-door.mjs). By AI agents, Wed Nov 11 2026. No macro, syntax, notation, axiom, sorry.
-/
import Derived.Test.YtnlegbokpofcaaaGreatDoorRows
import GoSem.ClaimSeven
namespace Go.Proofs.YtnlegbokpofcaaaGreatDoor
namespace Rows

/-- THE TIED CARD OF 'leaseholdlaw37.SnapshotMatchesReference'. -/
def snapshotMatchesReferenceCard : Claim7 := { stood := { row := snapshotMatchesReferenceRow, standIns := [], harness := (true, "3debe24235119203006fe8653c9bea85371e49e40a4ace179bef05a7a34cf6e0"), looks := true }, kinds := [], alts := [], laidByText := true, laidKinds := [.sentinel], laidTests := true, laidLooks := .later }
def SnapshotMatchesReferenceCardSaid : Prop := Claim7.holds Tryz.pinned (.plain (OpenSpec.ofChange snapshotMatchesReferenceSpec)) snapshotMatchesReferenceCard

/-- THE TIED CARD OF 'leaseholdlaw37.SnapshotInverse'. -/
def snapshotInverseCard : Claim7 := { stood := { row := snapshotInverseRow, standIns := [], harness := (true, "3debe24235119203006fe8653c9bea85371e49e40a4ace179bef05a7a34cf6e0"), looks := true }, kinds := [], alts := [], laidByText := true, laidKinds := [.sentinel], laidTests := true, laidLooks := .later }
def SnapshotInverseCardSaid : Prop := Claim7.holds Tryz.pinned (.plain (OpenSpec.ofChange snapshotInverseSpec)) snapshotInverseCard

/-- THE TIED CARD OF 'leaseholdlaw37.SnapshotCanonical'. -/
def snapshotCanonicalCard : Claim7 := { stood := { row := snapshotCanonicalRow, standIns := [], harness := (true, "3debe24235119203006fe8653c9bea85371e49e40a4ace179bef05a7a34cf6e0"), looks := true }, kinds := [], alts := [], laidByText := true, laidKinds := [.sentinel], laidTests := true, laidLooks := .later }
def SnapshotCanonicalCardSaid : Prop := Claim7.holds Tryz.pinned (.plain (OpenSpec.ofChange snapshotCanonicalSpec)) snapshotCanonicalCard

/-- THE TIED CARD OF 'leaseholdlaw37.SnapshotDamaged'. -/
def snapshotDamagedCard : Claim7 := { stood := { row := snapshotDamagedRow, standIns := [], harness := (true, "3debe24235119203006fe8653c9bea85371e49e40a4ace179bef05a7a34cf6e0"), looks := true }, kinds := [], alts := [], laidByText := true, laidKinds := [.sentinel], laidTests := true, laidLooks := .later }
def SnapshotDamagedCardSaid : Prop := Claim7.holds Tryz.pinned (.plain (OpenSpec.ofChange snapshotDamagedSpec)) snapshotDamagedCard

/-- THE SECOND FORM's CARD OF 'leaseholdlaw37.SnapshotMatchesReference'. -/
def snapshotMatchesReferenceUptoCard : Claim7 := { stood := { row := snapshotMatchesReferenceUptoRow, standIns := [], harness := (true, "3debe24235119203006fe8653c9bea85371e49e40a4ace179bef05a7a34cf6e0"), looks := true }, kinds := [], alts := [], laidByText := true, laidKinds := [.sentinel], laidTests := true, laidLooks := .later }
def SnapshotMatchesReferenceUptoCardSaid : Prop := Claim7.holds Tryz.pinned (.plain (OpenSpec.upto snapshotMatchesReferenceSpec)) snapshotMatchesReferenceUptoCard

/-- THE SECOND FORM's CARD OF 'leaseholdlaw37.SnapshotInverse'. -/
def snapshotInverseUptoCard : Claim7 := { stood := { row := snapshotInverseUptoRow, standIns := [], harness := (true, "3debe24235119203006fe8653c9bea85371e49e40a4ace179bef05a7a34cf6e0"), looks := true }, kinds := [], alts := [], laidByText := true, laidKinds := [.sentinel], laidTests := true, laidLooks := .later }
def SnapshotInverseUptoCardSaid : Prop := Claim7.holds Tryz.pinned (.plain (OpenSpec.upto snapshotInverseSpec)) snapshotInverseUptoCard

/-- THE SECOND FORM's CARD OF 'leaseholdlaw37.SnapshotCanonical'. -/
def snapshotCanonicalUptoCard : Claim7 := { stood := { row := snapshotCanonicalUptoRow, standIns := [], harness := (true, "3debe24235119203006fe8653c9bea85371e49e40a4ace179bef05a7a34cf6e0"), looks := true }, kinds := [], alts := [], laidByText := true, laidKinds := [.sentinel], laidTests := true, laidLooks := .later }
def SnapshotCanonicalUptoCardSaid : Prop := Claim7.holds Tryz.pinned (.plain (OpenSpec.upto snapshotCanonicalSpec)) snapshotCanonicalUptoCard

/-- THE SECOND FORM's CARD OF 'leaseholdlaw37.SnapshotDamaged'. -/
def snapshotDamagedUptoCard : Claim7 := { stood := { row := snapshotDamagedUptoRow, standIns := [], harness := (true, "3debe24235119203006fe8653c9bea85371e49e40a4ace179bef05a7a34cf6e0"), looks := true }, kinds := [], alts := [], laidByText := true, laidKinds := [.sentinel], laidTests := true, laidLooks := .later }
def SnapshotDamagedUptoCardSaid : Prop := Claim7.holds Tryz.pinned (.plain (OpenSpec.upto snapshotDamagedSpec)) snapshotDamagedUptoCard
end Rows
end Go.Proofs.YtnlegbokpofcaaaGreatDoor
