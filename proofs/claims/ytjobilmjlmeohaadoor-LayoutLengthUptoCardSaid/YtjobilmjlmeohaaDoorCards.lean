/-
  DERIVED. GIVEN WITH THE SEED: THE CARDS: each row of YtjobilmjlmeohaaDoorRows.lean that lists a variable, with what it lists TIED to the program's text (the seventh form; the later family's looks); each row that meets fmt, with fmt's text TOLD by the authors' own Lean function (tested against real Go, not proved from fmt's source: count such statements apart). THE CARD IS WHAT COUNTS. Prove the row's statement (the work); the ties are given (YtjobilmjlmeohaaDoorTie.lean); close each card by the builder's one call (the guide's Derived/Test/ToyasCard.lean, 'card_holds'). Laid BY PROGRAM, IN A SANDBOX (cutbox-door.mjs). By AI agents, Wed Nov 11 2026. No macro, syntax, notation, axiom, sorry.
-/
import Derived.Test.YtjobilmjlmeohaaDoorRows
import GoSem.ClaimSeven
namespace Go.Proofs.YtjobilmjlmeohaaDoor
namespace Rows

/-- THE TIED CARD OF 'leaseholdlaw23.LayoutWords'. -/
def layoutWordsCard : Claim7 := { stood := { row := layoutWordsRow, standIns := [], harness := (true, "08a9b4ab211284d3e5792d9bd9c07889fa755a0cee1cca06890c183020bad324"), looks := false }, kinds := [], alts := [], laidByText := true, laidKinds := [.mapped], laidTests := true, laidLooks := .later }
def LayoutWordsCardSaid : Prop := Claim7.holds Tryd.pinned (.plain (OpenSpec.ofChange layoutWordsSpec)) layoutWordsCard

/-- THE TIED CARD OF 'leaseholdlaw23.LayoutInverse'. -/
def layoutInverseCard : Claim7 := { stood := { row := layoutInverseRow, standIns := [], harness := (true, "08a9b4ab211284d3e5792d9bd9c07889fa755a0cee1cca06890c183020bad324"), looks := false }, kinds := [], alts := [], laidByText := true, laidKinds := [.mapped], laidTests := true, laidLooks := .later }
def LayoutInverseCardSaid : Prop := Claim7.holds Tryd.pinned (.plain (OpenSpec.ofChange layoutInverseSpec)) layoutInverseCard

/-- THE TIED CARD OF 'leaseholdlaw23.LayoutOptions'. -/
def layoutOptionsCard : Claim7 := { stood := { row := layoutOptionsRow, standIns := [], harness := (true, "08a9b4ab211284d3e5792d9bd9c07889fa755a0cee1cca06890c183020bad324"), looks := false }, kinds := [], alts := [], laidByText := true, laidKinds := [.mapped], laidTests := true, laidLooks := .later }
def LayoutOptionsCardSaid : Prop := Claim7.holds Tryd.pinned (.plain (OpenSpec.ofChange layoutOptionsSpec)) layoutOptionsCard

/-- THE TIED CARD OF 'leaseholdlaw23.LayoutLength'. -/
def layoutLengthCard : Claim7 := { stood := { row := layoutLengthRow, standIns := [], harness := (true, "08a9b4ab211284d3e5792d9bd9c07889fa755a0cee1cca06890c183020bad324"), looks := false }, kinds := [], alts := [], laidByText := true, laidKinds := [.mapped], laidTests := true, laidLooks := .later }
def LayoutLengthCardSaid : Prop := Claim7.holds Tryd.pinned (.plain (OpenSpec.ofChange layoutLengthSpec)) layoutLengthCard

/-- THE TIED CARD OF 'leaseholdlaw23.LayoutMore'. -/
def layoutMoreCard : Claim7 := { stood := { row := layoutMoreRow, standIns := [], harness := (true, "08a9b4ab211284d3e5792d9bd9c07889fa755a0cee1cca06890c183020bad324"), looks := false }, kinds := [], alts := [], laidByText := true, laidKinds := [.mapped], laidTests := true, laidLooks := .later }
def LayoutMoreCardSaid : Prop := Claim7.holds Tryd.pinned (.plain (OpenSpec.ofChange layoutMoreSpec)) layoutMoreCard

/-- THE SECOND FORM's CARD OF 'leaseholdlaw23.LayoutWords'. -/
def layoutWordsUptoCard : Claim7 := { stood := { row := layoutWordsUptoRow, standIns := [], harness := (true, "08a9b4ab211284d3e5792d9bd9c07889fa755a0cee1cca06890c183020bad324"), looks := false }, kinds := [], alts := [], laidByText := true, laidKinds := [.mapped], laidTests := true, laidLooks := .later }
def LayoutWordsUptoCardSaid : Prop := Claim7.holds Tryd.pinned (.plain (OpenSpec.upto layoutWordsSpec)) layoutWordsUptoCard

/-- THE SECOND FORM's CARD OF 'leaseholdlaw23.LayoutInverse'. -/
def layoutInverseUptoCard : Claim7 := { stood := { row := layoutInverseUptoRow, standIns := [], harness := (true, "08a9b4ab211284d3e5792d9bd9c07889fa755a0cee1cca06890c183020bad324"), looks := false }, kinds := [], alts := [], laidByText := true, laidKinds := [.mapped], laidTests := true, laidLooks := .later }
def LayoutInverseUptoCardSaid : Prop := Claim7.holds Tryd.pinned (.plain (OpenSpec.upto layoutInverseSpec)) layoutInverseUptoCard

/-- THE SECOND FORM's CARD OF 'leaseholdlaw23.LayoutOptions'. -/
def layoutOptionsUptoCard : Claim7 := { stood := { row := layoutOptionsUptoRow, standIns := [], harness := (true, "08a9b4ab211284d3e5792d9bd9c07889fa755a0cee1cca06890c183020bad324"), looks := false }, kinds := [], alts := [], laidByText := true, laidKinds := [.mapped], laidTests := true, laidLooks := .later }
def LayoutOptionsUptoCardSaid : Prop := Claim7.holds Tryd.pinned (.plain (OpenSpec.upto layoutOptionsSpec)) layoutOptionsUptoCard

/-- THE SECOND FORM's CARD OF 'leaseholdlaw23.LayoutLength'. -/
def layoutLengthUptoCard : Claim7 := { stood := { row := layoutLengthUptoRow, standIns := [], harness := (true, "08a9b4ab211284d3e5792d9bd9c07889fa755a0cee1cca06890c183020bad324"), looks := false }, kinds := [], alts := [], laidByText := true, laidKinds := [.mapped], laidTests := true, laidLooks := .later }
def LayoutLengthUptoCardSaid : Prop := Claim7.holds Tryd.pinned (.plain (OpenSpec.upto layoutLengthSpec)) layoutLengthUptoCard

/-- THE SECOND FORM's CARD OF 'leaseholdlaw23.LayoutMore'. -/
def layoutMoreUptoCard : Claim7 := { stood := { row := layoutMoreUptoRow, standIns := [], harness := (true, "08a9b4ab211284d3e5792d9bd9c07889fa755a0cee1cca06890c183020bad324"), looks := false }, kinds := [], alts := [], laidByText := true, laidKinds := [.mapped], laidTests := true, laidLooks := .later }
def LayoutMoreUptoCardSaid : Prop := Claim7.holds Tryd.pinned (.plain (OpenSpec.upto layoutMoreSpec)) layoutMoreUptoCard
end Rows
end Go.Proofs.YtjobilmjlmeohaaDoor
