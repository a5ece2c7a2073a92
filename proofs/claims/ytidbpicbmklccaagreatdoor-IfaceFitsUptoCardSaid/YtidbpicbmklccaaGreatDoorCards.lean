/-
  DERIVED. GIVEN WITH THE SEED: THE CARDS: each row of YtidbpicbmklccaaGreatDoorRows.lean that lists a variable, with what it lists TIED to the program's text (the seventh form; the later family's looks); each row that meets fmt, with fmt's text TOLD by the authors' own Lean function (tested against real Go, not proved from fmt's source: count such statements apart). THE CARD IS WHAT COUNTS. Prove the row's statement (the work); the ties are given (YtidbpicbmklccaaGreatDoorTie.lean); close each card by the builder's one call (the guide's Derived/Test/ToyasCard.lean, 'card_holds'). Laid BY PROGRAM, IN A SANDBOX (cutbox-door.mjs). By AI agents, Wed Nov 11 2026. No macro, syntax, notation, axiom, sorry.
-/
import Derived.Test.YtidbpicbmklccaaGreatDoorRows
import GoSem.ClaimSeven
namespace Go.Proofs.YtidbpicbmklccaaGreatDoor
namespace Rows

/-- THE TIED CARD OF 'leaseholdlaw21.IfaceOffers'. -/
def ifaceOffersCard : Claim7 := { stood := { row := ifaceOffersRow, standIns := [], harness := (true, "057dc0d8d0c53283badb189913dbf6e9ccdbe2e1d26992e7a5032137240976c2"), looks := true }, kinds := [], alts := [], laidByText := true, laidKinds := [.sentinel, .sentinel], laidTests := true, laidLooks := .later }
def IfaceOffersCardSaid : Prop := Claim7.holds Tryz.pinned (.plain (OpenSpec.ofChange ifaceOffersSpec)) ifaceOffersCard

/-- THE TIED CARD OF 'leaseholdlaw21.IfaceFits'. -/
def ifaceFitsCard : Claim7 := { stood := { row := ifaceFitsRow, standIns := [], harness := (true, "057dc0d8d0c53283badb189913dbf6e9ccdbe2e1d26992e7a5032137240976c2"), looks := true }, kinds := [], alts := [], laidByText := true, laidKinds := [.sentinel, .sentinel], laidTests := true, laidLooks := .later }
def IfaceFitsCardSaid : Prop := Claim7.holds Tryz.pinned (.plain (OpenSpec.ofChange ifaceFitsSpec)) ifaceFitsCard

/-- THE SECOND FORM's CARD OF 'leaseholdlaw21.IfaceOffers'. -/
def ifaceOffersUptoCard : Claim7 := { stood := { row := ifaceOffersUptoRow, standIns := [], harness := (true, "057dc0d8d0c53283badb189913dbf6e9ccdbe2e1d26992e7a5032137240976c2"), looks := true }, kinds := [], alts := [], laidByText := true, laidKinds := [.sentinel, .sentinel], laidTests := true, laidLooks := .later }
def IfaceOffersUptoCardSaid : Prop := Claim7.holds Tryz.pinned (.plain (OpenSpec.upto ifaceOffersSpec)) ifaceOffersUptoCard

/-- THE SECOND FORM's CARD OF 'leaseholdlaw21.IfaceFits'. -/
def ifaceFitsUptoCard : Claim7 := { stood := { row := ifaceFitsUptoRow, standIns := [], harness := (true, "057dc0d8d0c53283badb189913dbf6e9ccdbe2e1d26992e7a5032137240976c2"), looks := true }, kinds := [], alts := [], laidByText := true, laidKinds := [.sentinel, .sentinel], laidTests := true, laidLooks := .later }
def IfaceFitsUptoCardSaid : Prop := Claim7.holds Tryz.pinned (.plain (OpenSpec.upto ifaceFitsSpec)) ifaceFitsUptoCard
end Rows
end Go.Proofs.YtidbpicbmklccaaGreatDoor
