/-
  DERIVED. GIVEN WITH THE SEED: THE CARDS: each row of YtfkgdgfmkocloaaGreatDoorRows.lean that lists a variable, with what it lists TIED to the program's text (the seventh form; the later family's looks); each row that meets fmt, with fmt's text TOLD by the authors' own Lean function (tested against real Go, not proved from fmt's source: count such statements apart). THE CARD IS WHAT COUNTS. Prove the row's statement (the work); the ties are given (YtfkgdgfmkocloaaGreatDoorTie.lean); close each card by the builder's one call (the guide's Derived/Test/ToyasCard.lean, 'card_holds'). Laid BY PROGRAM, IN A SANDBOX (cutbox-door.mjs). By AI agents, Wed Nov 11 2026. No macro, syntax, notation, axiom, sorry.
-/
import Derived.Test.YtfkgdgfmkocloaaGreatDoorRows
import GoSem.ClaimSeven
namespace Go.Proofs.YtfkgdgfmkocloaaGreatDoor
namespace Rows

/-- THE TIED CARD OF 'leaseholdlaw28.ImageMatchesReference'. -/
def imageMatchesReferenceCard : Claim7 := { stood := { row := imageMatchesReferenceRow, standIns := [], harness := (true, "14b90d980fcb9410ae76693793fa94d8d8ef37c2f061f30064cafc3f69b04630"), looks := true }, kinds := [], alts := [], laidByText := true, laidKinds := [.sentinel], laidTests := true, laidLooks := .later }
def ImageMatchesReferenceCardSaid : Prop := Claim7.holds Tryz.pinned (.plain (OpenSpec.ofChange imageMatchesReferenceSpec)) imageMatchesReferenceCard

/-- THE TIED CARD OF 'leaseholdlaw28.ImageInverse'. -/
def imageInverseCard : Claim7 := { stood := { row := imageInverseRow, standIns := [], harness := (true, "14b90d980fcb9410ae76693793fa94d8d8ef37c2f061f30064cafc3f69b04630"), looks := true }, kinds := [], alts := [], laidByText := true, laidKinds := [.sentinel], laidTests := true, laidLooks := .later }
def ImageInverseCardSaid : Prop := Claim7.holds Tryz.pinned (.plain (OpenSpec.ofChange imageInverseSpec)) imageInverseCard

/-- THE TIED CARD OF 'leaseholdlaw28.ImageCanonical'. -/
def imageCanonicalCard : Claim7 := { stood := { row := imageCanonicalRow, standIns := [], harness := (true, "14b90d980fcb9410ae76693793fa94d8d8ef37c2f061f30064cafc3f69b04630"), looks := true }, kinds := [], alts := [], laidByText := true, laidKinds := [.sentinel], laidTests := true, laidLooks := .later }
def ImageCanonicalCardSaid : Prop := Claim7.holds Tryz.pinned (.plain (OpenSpec.ofChange imageCanonicalSpec)) imageCanonicalCard

/-- THE TIED CARD OF 'leaseholdlaw28.ImageDamaged'. -/
def imageDamagedCard : Claim7 := { stood := { row := imageDamagedRow, standIns := [], harness := (true, "14b90d980fcb9410ae76693793fa94d8d8ef37c2f061f30064cafc3f69b04630"), looks := true }, kinds := [], alts := [], laidByText := true, laidKinds := [.sentinel], laidTests := true, laidLooks := .later }
def ImageDamagedCardSaid : Prop := Claim7.holds Tryz.pinned (.plain (OpenSpec.ofChange imageDamagedSpec)) imageDamagedCard

/-- THE TIED CARD OF 'leaseholdlaw28.ImageTruncated'. -/
def imageTruncatedCard : Claim7 := { stood := { row := imageTruncatedRow, standIns := [], harness := (true, "14b90d980fcb9410ae76693793fa94d8d8ef37c2f061f30064cafc3f69b04630"), looks := true }, kinds := [], alts := [], laidByText := true, laidKinds := [.sentinel], laidTests := true, laidLooks := .later }
def ImageTruncatedCardSaid : Prop := Claim7.holds Tryz.pinned (.plain (OpenSpec.ofChange imageTruncatedSpec)) imageTruncatedCard

/-- THE TIED CARD OF 'leaseholdlaw28.ImageEqual'. -/
def imageEqualCard : Claim7 := { stood := { row := imageEqualRow, standIns := [], harness := (true, "14b90d980fcb9410ae76693793fa94d8d8ef37c2f061f30064cafc3f69b04630"), looks := true }, kinds := [], alts := [], laidByText := true, laidKinds := [.sentinel], laidTests := true, laidLooks := .later }
def ImageEqualCardSaid : Prop := Claim7.holds Tryz.pinned (.plain (OpenSpec.ofChange imageEqualSpec)) imageEqualCard

/-- THE SECOND FORM's CARD OF 'leaseholdlaw28.ImageMatchesReference'. -/
def imageMatchesReferenceUptoCard : Claim7 := { stood := { row := imageMatchesReferenceUptoRow, standIns := [], harness := (true, "14b90d980fcb9410ae76693793fa94d8d8ef37c2f061f30064cafc3f69b04630"), looks := true }, kinds := [], alts := [], laidByText := true, laidKinds := [.sentinel], laidTests := true, laidLooks := .later }
def ImageMatchesReferenceUptoCardSaid : Prop := Claim7.holds Tryz.pinned (.plain (OpenSpec.upto imageMatchesReferenceSpec)) imageMatchesReferenceUptoCard

/-- THE SECOND FORM's CARD OF 'leaseholdlaw28.ImageInverse'. -/
def imageInverseUptoCard : Claim7 := { stood := { row := imageInverseUptoRow, standIns := [], harness := (true, "14b90d980fcb9410ae76693793fa94d8d8ef37c2f061f30064cafc3f69b04630"), looks := true }, kinds := [], alts := [], laidByText := true, laidKinds := [.sentinel], laidTests := true, laidLooks := .later }
def ImageInverseUptoCardSaid : Prop := Claim7.holds Tryz.pinned (.plain (OpenSpec.upto imageInverseSpec)) imageInverseUptoCard

/-- THE SECOND FORM's CARD OF 'leaseholdlaw28.ImageCanonical'. -/
def imageCanonicalUptoCard : Claim7 := { stood := { row := imageCanonicalUptoRow, standIns := [], harness := (true, "14b90d980fcb9410ae76693793fa94d8d8ef37c2f061f30064cafc3f69b04630"), looks := true }, kinds := [], alts := [], laidByText := true, laidKinds := [.sentinel], laidTests := true, laidLooks := .later }
def ImageCanonicalUptoCardSaid : Prop := Claim7.holds Tryz.pinned (.plain (OpenSpec.upto imageCanonicalSpec)) imageCanonicalUptoCard

/-- THE SECOND FORM's CARD OF 'leaseholdlaw28.ImageDamaged'. -/
def imageDamagedUptoCard : Claim7 := { stood := { row := imageDamagedUptoRow, standIns := [], harness := (true, "14b90d980fcb9410ae76693793fa94d8d8ef37c2f061f30064cafc3f69b04630"), looks := true }, kinds := [], alts := [], laidByText := true, laidKinds := [.sentinel], laidTests := true, laidLooks := .later }
def ImageDamagedUptoCardSaid : Prop := Claim7.holds Tryz.pinned (.plain (OpenSpec.upto imageDamagedSpec)) imageDamagedUptoCard

/-- THE SECOND FORM's CARD OF 'leaseholdlaw28.ImageTruncated'. -/
def imageTruncatedUptoCard : Claim7 := { stood := { row := imageTruncatedUptoRow, standIns := [], harness := (true, "14b90d980fcb9410ae76693793fa94d8d8ef37c2f061f30064cafc3f69b04630"), looks := true }, kinds := [], alts := [], laidByText := true, laidKinds := [.sentinel], laidTests := true, laidLooks := .later }
def ImageTruncatedUptoCardSaid : Prop := Claim7.holds Tryz.pinned (.plain (OpenSpec.upto imageTruncatedSpec)) imageTruncatedUptoCard

/-- THE SECOND FORM's CARD OF 'leaseholdlaw28.ImageEqual'. -/
def imageEqualUptoCard : Claim7 := { stood := { row := imageEqualUptoRow, standIns := [], harness := (true, "14b90d980fcb9410ae76693793fa94d8d8ef37c2f061f30064cafc3f69b04630"), looks := true }, kinds := [], alts := [], laidByText := true, laidKinds := [.sentinel], laidTests := true, laidLooks := .later }
def ImageEqualUptoCardSaid : Prop := Claim7.holds Tryz.pinned (.plain (OpenSpec.upto imageEqualSpec)) imageEqualUptoCard
end Rows
end Go.Proofs.YtfkgdgfmkocloaaGreatDoor
