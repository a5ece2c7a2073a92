/-
  DERIVED. GIVEN WITH THE SEED: THE CARDS: each row of YtidbpicbmklccaaDoorRows.lean that lists a variable, with what it lists TIED to the program's text (the seventh form; the later family's looks); each row that meets fmt, with fmt's text TOLD by the authors' own Lean function (tested against real Go, not proved from fmt's source: count such statements apart). THE CARD IS WHAT COUNTS. Prove the row's statement (the work); the ties are given (YtidbpicbmklccaaDoorTie.lean); close each card by the builder's one call (the guide's Derived/Test/ToyasCard.lean, 'card_holds'). Laid BY PROGRAM, IN A SANDBOX (cutbox-door.mjs). By AI agents, Wed Nov 11 2026. No macro, syntax, notation, axiom, sorry.
-/
import Derived.Test.YtidbpicbmklccaaDoorRows
import GoSem.ClaimSeven
namespace Go.Proofs.YtidbpicbmklccaaDoor
namespace Rows

/-- THE TIED CARD OF 'leaseholdlaw21.IfaceMatchesReference'. -/
def ifaceMatchesReferenceCard : Claim7 := { stood := { row := ifaceMatchesReferenceRow, standIns := [], harness := (true, "b04b463fe91dc409482939dd08ed447f933450aaf141f4cbaa6a8f2bf53cac12"), looks := true }, kinds := [], alts := [], laidByText := true, laidKinds := [.sentinel, .sentinel], laidTests := true, laidLooks := .later }
def IfaceMatchesReferenceCardSaid : Prop := Claim7.holds Tryd.pinned (.plain (OpenSpec.ofChange ifaceMatchesReferenceSpec)) ifaceMatchesReferenceCard

/-- THE TIED CARD OF 'leaseholdlaw21.IfaceCodes'. -/
def ifaceCodesCard : Claim7 := { stood := { row := ifaceCodesRow, standIns := [], harness := (true, "b04b463fe91dc409482939dd08ed447f933450aaf141f4cbaa6a8f2bf53cac12"), looks := true }, kinds := [], alts := [], laidByText := true, laidKinds := [.sentinel, .sentinel], laidTests := true, laidLooks := .later }
def IfaceCodesCardSaid : Prop := Claim7.holds Tryd.pinned (.plain (OpenSpec.ofChange ifaceCodesSpec)) ifaceCodesCard

/-- THE TIED CARD OF 'leaseholdlaw21.IfaceDamage'. -/
def ifaceDamageCard : Claim7 := { stood := { row := ifaceDamageRow, standIns := [], harness := (true, "b04b463fe91dc409482939dd08ed447f933450aaf141f4cbaa6a8f2bf53cac12"), looks := true }, kinds := [], alts := [], laidByText := true, laidKinds := [.sentinel, .sentinel], laidTests := true, laidLooks := .later }
def IfaceDamageCardSaid : Prop := Claim7.holds Tryd.pinned (.plain (OpenSpec.ofChange ifaceDamageSpec)) ifaceDamageCard

/-- THE SECOND FORM's CARD OF 'leaseholdlaw21.IfaceMatchesReference'. -/
def ifaceMatchesReferenceUptoCard : Claim7 := { stood := { row := ifaceMatchesReferenceUptoRow, standIns := [], harness := (true, "b04b463fe91dc409482939dd08ed447f933450aaf141f4cbaa6a8f2bf53cac12"), looks := true }, kinds := [], alts := [], laidByText := true, laidKinds := [.sentinel, .sentinel], laidTests := true, laidLooks := .later }
def IfaceMatchesReferenceUptoCardSaid : Prop := Claim7.holds Tryd.pinned (.plain (OpenSpec.upto ifaceMatchesReferenceSpec)) ifaceMatchesReferenceUptoCard

/-- THE SECOND FORM's CARD OF 'leaseholdlaw21.IfaceCodes'. -/
def ifaceCodesUptoCard : Claim7 := { stood := { row := ifaceCodesUptoRow, standIns := [], harness := (true, "b04b463fe91dc409482939dd08ed447f933450aaf141f4cbaa6a8f2bf53cac12"), looks := true }, kinds := [], alts := [], laidByText := true, laidKinds := [.sentinel, .sentinel], laidTests := true, laidLooks := .later }
def IfaceCodesUptoCardSaid : Prop := Claim7.holds Tryd.pinned (.plain (OpenSpec.upto ifaceCodesSpec)) ifaceCodesUptoCard

/-- THE SECOND FORM's CARD OF 'leaseholdlaw21.IfaceDamage'. -/
def ifaceDamageUptoCard : Claim7 := { stood := { row := ifaceDamageUptoRow, standIns := [], harness := (true, "b04b463fe91dc409482939dd08ed447f933450aaf141f4cbaa6a8f2bf53cac12"), looks := true }, kinds := [], alts := [], laidByText := true, laidKinds := [.sentinel, .sentinel], laidTests := true, laidLooks := .later }
def IfaceDamageUptoCardSaid : Prop := Claim7.holds Tryd.pinned (.plain (OpenSpec.upto ifaceDamageSpec)) ifaceDamageUptoCard
end Rows
end Go.Proofs.YtidbpicbmklccaaDoor
