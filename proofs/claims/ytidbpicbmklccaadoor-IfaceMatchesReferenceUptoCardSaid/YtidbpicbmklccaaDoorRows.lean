/-
  NARROWER THAN 'FOR EVERY INPUT', by the rows' own cells (each row's printed sentence says how): IfaceMatchesReference: loops, laid · IfaceCodes: laid · IfaceDamage: laid.
  DERIVED. THE GIVEN ROWS OF THIS SEAT. 3 by the template 'for every input the law returns true; each argument reads behind the call as it read before'; 0 by the template 'total and deterministic' (their statements: YtidbpicbmklccaaDoorTotals.lean).
  GIVEN WITH THE SEED: the statements are not yours to turn. If you find one false, say at which input.
  Laid BY PROGRAM, IN A SANDBOX (cutbox-rows.mjs): the forced cells as the released guide's own fill.sh prints them over the translation d0ca47676539739a… (all of the seat's roots in one cut). By AI agents, Wed Nov 11 2026. No macro, syntax, notation, axiom, sorry.
-/
import Derived.Test.YtidbpicbmklccaaDoorChecked
import GoSem.Claim
import GoSem.ClaimJoined
import GoSem.ClaimMapViews
import Derived.JoinedTies
import Derived.KernelRfl
namespace Go.Proofs.YtidbpicbmklccaaDoor
/- THE CELL 'sum', in the pinned program and in every row, IS THE sha256 OF THE DUMP (.gsa) THAT YtidbpicbmklccaaDoorProg.lean LOADS. Nothing in Lean hashes anything: it is a label: what it is worth is what the hold of that sum in a sandbox is worth. -/
noncomputable def Tryd.pinned : Pinned := { name := "ytidbpicbmklccaadoor", sum := "d0ca47676539739a96070b4a8f06672e770632b89a7bc3920e7aa750b4b4908d", checked := Tryd.checked }
namespace Rows
def none {H : Type} : Left H := { results := [], args := [] }

/- WHAT THE LISTED PACKAGE-LEVEL VARIABLES READ AS WHEN THE CALL BEGINS. Each datum BY PROGRAM (the guide's laid-datum.mjs) off the statement by which the dump's own 'gosem.cut.vars' lays the variable. In a bare row this is a premise. The card (YtidbpicbmklccaaDoorCards.lean) ties it to the program's text. -/
def laid_io_EOF {H : Type} : DataW H := .iface "*errors.errorString" (.ptr (.agg [.lit (.string [69, 79, 70])]))
def laid_bytes_ErrTooLarge {H : Type} : DataW H := .iface "*errors.errorString" (.ptr (.agg [.lit (.string [98, 121, 116, 101, 115, 46, 66, 117, 102, 102, 101, 114, 58, 32, 116, 111, 111, 32, 108, 97, 114, 103, 101])]))

/-- 'leaseholdlaw21.IfaceMatchesReference': WHATEVER THE INPUT: true; the input reads as it did. -/
def ifaceMatchesReferenceSpec : ChangeSpec := { name := "ifaceMatchesReference", fn := fun _ => fun
  | [d1, d2, d3, d4, d5, d6] => { results := [.lit (.bool true)], args := [d1, d2, d3, d4, d5, d6] }
  | _ => none }
def ifaceMatchesReferenceRow : OpenClaim := { program := "ytidbpicbmklccaadoor", sum := "d0ca47676539739a96070b4a8f06672e770632b89a7bc3920e7aa750b4b4908d", func := "leasehold/leaseholdlaw21.IfaceMatchesReference", spec := "ifaceMatchesReference", unfollowed := true, recurses := true, named := ["bytes.ErrTooLarge", "io.EOF"], loops := true, apart := false, laid := [("io.EOF", laid_io_EOF), ("bytes.ErrTooLarge", laid_bytes_ErrTooLarge)] }
def IfaceMatchesReferenceSaid : Prop := ifaceMatchesReferenceRow.holds Tryd.pinned (OpenSpec.ofChange ifaceMatchesReferenceSpec)

/-- ITS FALSE NEIGHBOUR: 'it returns false'. Refute it at one input. -/
def ifaceMatchesReferenceWrong : ChangeSpec := { name := "ifaceMatchesReference", fn := fun _ => fun
  | [d1, d2, d3, d4, d5, d6] => { results := [.lit (.bool false)], args := [d1, d2, d3, d4, d5, d6] }
  | _ => none }
def IfaceMatchesReferenceWrongFalsely : Prop := ifaceMatchesReferenceRow.holds Tryd.pinned (OpenSpec.ofChange ifaceMatchesReferenceWrong)

/-- 'leaseholdlaw21.IfaceCodes': WHATEVER THE INPUT: true; the input reads as it did. -/
def ifaceCodesSpec : ChangeSpec := { name := "ifaceCodes", fn := fun _ => fun
  | [d1, d2] => { results := [.lit (.bool true)], args := [d1, d2] }
  | _ => none }
def ifaceCodesRow : OpenClaim := { program := "ytidbpicbmklccaadoor", sum := "d0ca47676539739a96070b4a8f06672e770632b89a7bc3920e7aa750b4b4908d", func := "leasehold/leaseholdlaw21.IfaceCodes", spec := "ifaceCodes", unfollowed := true, recurses := true, named := ["bytes.ErrTooLarge", "io.EOF"], apart := false, laid := [("io.EOF", laid_io_EOF), ("bytes.ErrTooLarge", laid_bytes_ErrTooLarge)] }
def IfaceCodesSaid : Prop := ifaceCodesRow.holds Tryd.pinned (OpenSpec.ofChange ifaceCodesSpec)

/-- ITS FALSE NEIGHBOUR: 'it returns false'. Refute it at one input. -/
def ifaceCodesWrong : ChangeSpec := { name := "ifaceCodes", fn := fun _ => fun
  | [d1, d2] => { results := [.lit (.bool false)], args := [d1, d2] }
  | _ => none }
def IfaceCodesWrongFalsely : Prop := ifaceCodesRow.holds Tryd.pinned (OpenSpec.ofChange ifaceCodesWrong)

/-- 'leaseholdlaw21.IfaceDamage': WHATEVER THE INPUT: true; the input reads as it did. -/
def ifaceDamageSpec : ChangeSpec := { name := "ifaceDamage", fn := fun _ => fun
  | [d1, d2, d3] => { results := [.lit (.bool true)], args := [d1, d2, d3] }
  | _ => none }
def ifaceDamageRow : OpenClaim := { program := "ytidbpicbmklccaadoor", sum := "d0ca47676539739a96070b4a8f06672e770632b89a7bc3920e7aa750b4b4908d", func := "leasehold/leaseholdlaw21.IfaceDamage", spec := "ifaceDamage", unfollowed := true, recurses := true, named := ["bytes.ErrTooLarge", "io.EOF"], apart := false, laid := [("io.EOF", laid_io_EOF), ("bytes.ErrTooLarge", laid_bytes_ErrTooLarge)] }
def IfaceDamageSaid : Prop := ifaceDamageRow.holds Tryd.pinned (OpenSpec.ofChange ifaceDamageSpec)

/-- ITS FALSE NEIGHBOUR: 'it returns false'. Refute it at one input. -/
def ifaceDamageWrong : ChangeSpec := { name := "ifaceDamage", fn := fun _ => fun
  | [d1, d2, d3] => { results := [.lit (.bool false)], args := [d1, d2, d3] }
  | _ => none }
def IfaceDamageWrongFalsely : Prop := ifaceDamageRow.holds Tryd.pinned (OpenSpec.ofChange ifaceDamageWrong)

/- THE SECOND FORM. 'bulk': how many values and letters a reading holds, each counted each time it is reached (what is shared counts as often as it is met; a slice's spare places count too). A statement '..UptoSaid' is the law's where the arguments, and the package variables that the reading takes, are together of bulk at most 1048576: NARROWER than '..Said'. Prove '..Said' where nothing that the law and all that it calls make is longer than what came in: it says more and counts as full. Else prove '..UptoSaid'. A law counts once. -/
mutual
def uptoBulk {H : Type} : DataW H → Nat
  | .lit (.string bytes) => bytes.length + 1
  | .lit _ => 1
  | .nil => 1
  | .ptr d => uptoBulk d + 1
  | .slice elems spare => uptoBulkAll elems + uptoBulkAll spare + 1
  | .agg parts => uptoBulkAll parts + 1
  | .iface _ d => uptoBulk d + 1
  | .map entries => uptoBulkEntries entries + 1
  | .held _ => 1
def uptoBulkAll {H : Type} : List (DataW H) → Nat
  | [] => 0
  | d :: r => uptoBulk d + uptoBulkAll r
def uptoBulkEntries {H : Type} : List (Lit × DataW H) → Nat
  | [] => 0
  | x :: r => uptoBulkEntry x + uptoBulkEntries r
def uptoBulkEntry {H : Type} : Lit × DataW H → Nat
  | (.string bytes, d) => bytes.length + uptoBulk d + 1
  | (_, d) => uptoBulk d + 1
 end
def uptoSmall : (H : Type) → List (DataW H) → Bool := fun _ ds => decide (uptoBulkAll ds ≤ 1048576)
def OpenSpec.upto (s : _root_.Go.ChangeSpec) : _root_.Go.OpenSpec := { _root_.Go.OpenSpec.ofChange s with cond := some uptoSmall }

/-- 'leaseholdlaw21.IfaceMatchesReference', WHERE WHAT IT READS IS OF BULK AT MOST 1048576: true; the input reads as it did. -/
def ifaceMatchesReferenceUptoRow : OpenClaim := { program := "ytidbpicbmklccaadoor", sum := "d0ca47676539739a96070b4a8f06672e770632b89a7bc3920e7aa750b4b4908d", func := "leasehold/leaseholdlaw21.IfaceMatchesReference", spec := "ifaceMatchesReference", unfollowed := true, recurses := true, named := ["bytes.ErrTooLarge", "io.EOF"], loops := true, apart := false, laid := [("io.EOF", laid_io_EOF), ("bytes.ErrTooLarge", laid_bytes_ErrTooLarge)], narrowed := true }
def IfaceMatchesReferenceUptoSaid : Prop := ifaceMatchesReferenceUptoRow.holds Tryd.pinned (OpenSpec.upto ifaceMatchesReferenceSpec)

/-- 'leaseholdlaw21.IfaceCodes', WHERE WHAT IT READS IS OF BULK AT MOST 1048576: true; the input reads as it did. -/
def ifaceCodesUptoRow : OpenClaim := { program := "ytidbpicbmklccaadoor", sum := "d0ca47676539739a96070b4a8f06672e770632b89a7bc3920e7aa750b4b4908d", func := "leasehold/leaseholdlaw21.IfaceCodes", spec := "ifaceCodes", unfollowed := true, recurses := true, named := ["bytes.ErrTooLarge", "io.EOF"], apart := false, laid := [("io.EOF", laid_io_EOF), ("bytes.ErrTooLarge", laid_bytes_ErrTooLarge)], narrowed := true }
def IfaceCodesUptoSaid : Prop := ifaceCodesUptoRow.holds Tryd.pinned (OpenSpec.upto ifaceCodesSpec)

/-- 'leaseholdlaw21.IfaceDamage', WHERE WHAT IT READS IS OF BULK AT MOST 1048576: true; the input reads as it did. -/
def ifaceDamageUptoRow : OpenClaim := { program := "ytidbpicbmklccaadoor", sum := "d0ca47676539739a96070b4a8f06672e770632b89a7bc3920e7aa750b4b4908d", func := "leasehold/leaseholdlaw21.IfaceDamage", spec := "ifaceDamage", unfollowed := true, recurses := true, named := ["bytes.ErrTooLarge", "io.EOF"], apart := false, laid := [("io.EOF", laid_io_EOF), ("bytes.ErrTooLarge", laid_bytes_ErrTooLarge)], narrowed := true }
def IfaceDamageUptoSaid : Prop := ifaceDamageUptoRow.holds Tryd.pinned (OpenSpec.upto ifaceDamageSpec)

end Rows
end Go.Proofs.YtidbpicbmklccaaDoor
