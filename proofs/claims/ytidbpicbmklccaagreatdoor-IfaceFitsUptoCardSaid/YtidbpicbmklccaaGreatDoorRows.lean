/-
  NARROWER THAN 'FOR EVERY INPUT', by the rows' own cells (each row's printed sentence says how): IfaceOffers: loops, laid · IfaceFits: loops, laid.
  DERIVED. THE GIVEN ROWS OF THIS SEAT. 2 by the template 'for every input the law returns true; each argument reads behind the call as it read before'; 0 by the template 'total and deterministic' (their statements: YtidbpicbmklccaaGreatDoorTotals.lean).
  GIVEN WITH THE SEED: the statements are not yours to turn. If you find one false, say at which input.
  Laid BY PROGRAM, IN A SANDBOX (cutbox-rows.mjs): the forced cells as the released guide's own fill.sh prints them over the translation 9b1c2b9d5a035ca8… (all of the seat's roots in one cut). By AI agents, Wed Nov 11 2026. No macro, syntax, notation, axiom, sorry.
-/
import Derived.Test.YtidbpicbmklccaaGreatDoorChecked
import GoSem.Claim
import GoSem.ClaimJoined
import GoSem.ClaimMapViews
import Derived.JoinedTies
import Derived.KernelRfl
namespace Go.Proofs.YtidbpicbmklccaaGreatDoor
/- THE CELL 'sum', in the pinned program and in every row, IS THE sha256 OF THE DUMP (.gsa) THAT YtidbpicbmklccaaGreatDoorProg.lean LOADS. Nothing in Lean hashes anything: it is a label: what it is worth is what the hold of that sum in a sandbox is worth. -/
noncomputable def Tryz.pinned : Pinned := { name := "ytidbpicbmklccaagreatdoor", sum := "9b1c2b9d5a035ca8b197c57119a351d53df67aa4d28b822c4c5f41caf27229c9", checked := Tryz.checked }
namespace Rows
def none {H : Type} : Left H := { results := [], args := [] }

/- WHAT THE LISTED PACKAGE-LEVEL VARIABLES READ AS WHEN THE CALL BEGINS. Each datum BY PROGRAM (the guide's laid-datum.mjs) off the statement by which the dump's own 'gosem.cut.vars' lays the variable. In a bare row this is a premise. The card (YtidbpicbmklccaaGreatDoorCards.lean) ties it to the program's text. -/
def laid_io_EOF {H : Type} : DataW H := .iface "*errors.errorString" (.ptr (.agg [.lit (.string [69, 79, 70])]))
def laid_bytes_ErrTooLarge {H : Type} : DataW H := .iface "*errors.errorString" (.ptr (.agg [.lit (.string [98, 121, 116, 101, 115, 46, 66, 117, 102, 102, 101, 114, 58, 32, 116, 111, 111, 32, 108, 97, 114, 103, 101])]))

/-- 'leaseholdlaw21.IfaceOffers': WHATEVER THE INPUT: true; the input reads as it did. -/
def ifaceOffersSpec : ChangeSpec := { name := "ifaceOffers", fn := fun _ => fun
  | [d1, d2, d3, d4] => { results := [.lit (.bool true)], args := [d1, d2, d3, d4] }
  | _ => none }
def ifaceOffersRow : OpenClaim := { program := "ytidbpicbmklccaagreatdoor", sum := "9b1c2b9d5a035ca8b197c57119a351d53df67aa4d28b822c4c5f41caf27229c9", func := "leasehold/leaseholdlaw21.IfaceOffers", spec := "ifaceOffers", unfollowed := true, recurses := true, named := ["bytes.ErrTooLarge", "io.EOF"], loops := true, apart := false, laid := [("io.EOF", laid_io_EOF), ("bytes.ErrTooLarge", laid_bytes_ErrTooLarge)] }
def IfaceOffersSaid : Prop := ifaceOffersRow.holds Tryz.pinned (OpenSpec.ofChange ifaceOffersSpec)

/-- ITS FALSE NEIGHBOUR: 'it returns false'. Refute it at one input. -/
def ifaceOffersWrong : ChangeSpec := { name := "ifaceOffers", fn := fun _ => fun
  | [d1, d2, d3, d4] => { results := [.lit (.bool false)], args := [d1, d2, d3, d4] }
  | _ => none }
def IfaceOffersWrongFalsely : Prop := ifaceOffersRow.holds Tryz.pinned (OpenSpec.ofChange ifaceOffersWrong)

/-- 'leaseholdlaw21.IfaceFits': WHATEVER THE INPUT: true; the input reads as it did. -/
def ifaceFitsSpec : ChangeSpec := { name := "ifaceFits", fn := fun _ => fun
  | [d1, d2, d3] => { results := [.lit (.bool true)], args := [d1, d2, d3] }
  | _ => none }
def ifaceFitsRow : OpenClaim := { program := "ytidbpicbmklccaagreatdoor", sum := "9b1c2b9d5a035ca8b197c57119a351d53df67aa4d28b822c4c5f41caf27229c9", func := "leasehold/leaseholdlaw21.IfaceFits", spec := "ifaceFits", unfollowed := true, recurses := true, named := ["bytes.ErrTooLarge", "io.EOF"], loops := true, apart := false, laid := [("io.EOF", laid_io_EOF), ("bytes.ErrTooLarge", laid_bytes_ErrTooLarge)] }
def IfaceFitsSaid : Prop := ifaceFitsRow.holds Tryz.pinned (OpenSpec.ofChange ifaceFitsSpec)

/-- ITS FALSE NEIGHBOUR: 'it returns false'. Refute it at one input. -/
def ifaceFitsWrong : ChangeSpec := { name := "ifaceFits", fn := fun _ => fun
  | [d1, d2, d3] => { results := [.lit (.bool false)], args := [d1, d2, d3] }
  | _ => none }
def IfaceFitsWrongFalsely : Prop := ifaceFitsRow.holds Tryz.pinned (OpenSpec.ofChange ifaceFitsWrong)

/- THE SECOND FORM. 'bulk': how many values and letters a reading holds, each counted each time it is reached (what is shared counts as often as it is met; a slice's spare places count too). A statement '..UptoSaid' is the law's where the arguments, and the package variables that the reading takes, are together of bulk at most 1048576: NARROWER than '..Said'. Prove '..Said' where nothing that the law and all that it calls make is longer than what came in: it says more and counts as full. Else prove '..UptoSaid'. A law counts once. -/
mutual
def uptoBulk {H : Type} : DataW H → Nat
  | .lit (.string bytes) => bytes.length + 1
  | .lit _ => 1
  | .nil => 1
  | .ptr d => uptoBulk d + 1
  | .slice elems spare => uptoBulkAll elems + uptoBulkAll spare + 1
  | .agg parts => uptoBulkAll parts + 1
  | .iface _ d => uptoBulk d + 1
  | .map entries => uptoBulkEntries entries + 1
  | .held _ => 1
def uptoBulkAll {H : Type} : List (DataW H) → Nat
  | [] => 0
  | d :: r => uptoBulk d + uptoBulkAll r
def uptoBulkEntries {H : Type} : List (Lit × DataW H) → Nat
  | [] => 0
  | x :: r => uptoBulkEntry x + uptoBulkEntries r
def uptoBulkEntry {H : Type} : Lit × DataW H → Nat
  | (.string bytes, d) => bytes.length + uptoBulk d + 1
  | (_, d) => uptoBulk d + 1
 end
def uptoSmall : (H : Type) → List (DataW H) → Bool := fun _ ds => decide (uptoBulkAll ds ≤ 1048576)
def OpenSpec.upto (s : _root_.Go.ChangeSpec) : _root_.Go.OpenSpec := { _root_.Go.OpenSpec.ofChange s with cond := some uptoSmall }

/-- 'leaseholdlaw21.IfaceOffers', WHERE WHAT IT READS IS OF BULK AT MOST 1048576: true; the input reads as it did. -/
def ifaceOffersUptoRow : OpenClaim := { program := "ytidbpicbmklccaagreatdoor", sum := "9b1c2b9d5a035ca8b197c57119a351d53df67aa4d28b822c4c5f41caf27229c9", func := "leasehold/leaseholdlaw21.IfaceOffers", spec := "ifaceOffers", unfollowed := true, recurses := true, named := ["bytes.ErrTooLarge", "io.EOF"], loops := true, apart := false, laid := [("io.EOF", laid_io_EOF), ("bytes.ErrTooLarge", laid_bytes_ErrTooLarge)], narrowed := true }
def IfaceOffersUptoSaid : Prop := ifaceOffersUptoRow.holds Tryz.pinned (OpenSpec.upto ifaceOffersSpec)

/-- 'leaseholdlaw21.IfaceFits', WHERE WHAT IT READS IS OF BULK AT MOST 1048576: true; the input reads as it did. -/
def ifaceFitsUptoRow : OpenClaim := { program := "ytidbpicbmklccaagreatdoor", sum := "9b1c2b9d5a035ca8b197c57119a351d53df67aa4d28b822c4c5f41caf27229c9", func := "leasehold/leaseholdlaw21.IfaceFits", spec := "ifaceFits", unfollowed := true, recurses := true, named := ["bytes.ErrTooLarge", "io.EOF"], loops := true, apart := false, laid := [("io.EOF", laid_io_EOF), ("bytes.ErrTooLarge", laid_bytes_ErrTooLarge)], narrowed := true }
def IfaceFitsUptoSaid : Prop := ifaceFitsUptoRow.holds Tryz.pinned (OpenSpec.upto ifaceFitsSpec)

end Rows
end Go.Proofs.YtidbpicbmklccaaGreatDoor
