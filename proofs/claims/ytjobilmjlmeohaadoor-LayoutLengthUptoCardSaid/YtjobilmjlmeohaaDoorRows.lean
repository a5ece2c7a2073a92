/-
  NARROWER THAN 'FOR EVERY INPUT', by the rows' own cells (each row's printed sentence says how): LayoutWords: loops, laid · LayoutInverse: loops, laid · LayoutOptions: loops, laid · LayoutLength: loops, laid · LayoutMore: loops, laid.
  DERIVED. THE GIVEN ROWS OF THIS SEAT. 5 by the template 'for every input the law returns true; each argument reads behind the call as it read before'; 0 by the template 'total and deterministic' (their statements: YtjobilmjlmeohaaDoorTotals.lean).
  GIVEN WITH THE SEED: the statements are not yours to turn. If you find one false, say at which input.
  Laid BY PROGRAM, IN A SANDBOX (cutbox-rows.mjs): the forced cells as the released guide's own fill.sh prints them over the translation 43ca4ae692b917cb… (all of the seat's roots in one cut). By AI agents, Wed Nov 11 2026. No macro, syntax, notation, axiom, sorry.
-/
import Derived.Test.YtjobilmjlmeohaaDoorChecked
import GoSem.Claim
import GoSem.ClaimJoined
import GoSem.ClaimMapViews
import Derived.JoinedTies
import Derived.KernelRfl
namespace Go.Proofs.YtjobilmjlmeohaaDoor
/- THE CELL 'sum', in the pinned program and in every row, IS THE sha256 OF THE DUMP (.gsa) THAT YtjobilmjlmeohaaDoorProg.lean LOADS. Nothing in Lean hashes anything: it is a label: what it is worth is what the hold of that sum in a sandbox is worth. -/
noncomputable def Tryd.pinned : Pinned := { name := "ytjobilmjlmeohaadoor", sum := "43ca4ae692b917cb16a062aee9ac4b2d1e2fa58fc6c3912eec9f06221e7d2944", checked := Tryd.checked }
namespace Rows
def none {H : Type} : Left H := { results := [], args := [] }

/- WHAT THE LISTED PACKAGE-LEVEL VARIABLES READ AS WHEN THE CALL BEGINS. Each datum BY PROGRAM (the guide's laid-datum.mjs) off the statement by which the dump's own 'gosem.cut.vars' lays the variable. In a bare row this is a premise. The card (YtjobilmjlmeohaaDoorCards.lean) ties it to the program's text. -/
def laid_leasehold_layout_values {H : Type} : DataW H := .map [(.int .i64 3, .lit (.int .i64 3)), (.int .i64 4, .lit (.int .i64 4)), (.int .i64 6, .lit (.int .i64 5))]

/-- 'leaseholdlaw23.LayoutWords': WHATEVER THE INPUT: true; the input reads as it did. -/
def layoutWordsSpec : ChangeSpec := { name := "layoutWords", fn := fun _ => fun
  | [d1, d2, d3] => { results := [.lit (.bool true)], args := [d1, d2, d3] }
  | _ => none }
def layoutWordsRow : OpenClaim := { program := "ytjobilmjlmeohaadoor", sum := "43ca4ae692b917cb16a062aee9ac4b2d1e2fa58fc6c3912eec9f06221e7d2944", func := "leasehold/leaseholdlaw23.LayoutWords", spec := "layoutWords", unfollowed := true, recurses := true, named := ["leasehold/layout.values"], loops := true, apart := false, laid := [("leasehold/layout.values", laid_leasehold_layout_values)] }
def LayoutWordsSaid : Prop := layoutWordsRow.holds Tryd.pinned (OpenSpec.ofChange layoutWordsSpec)

/-- ITS FALSE NEIGHBOUR: 'it returns false'. Refute it at one input. -/
def layoutWordsWrong : ChangeSpec := { name := "layoutWords", fn := fun _ => fun
  | [d1, d2, d3] => { results := [.lit (.bool false)], args := [d1, d2, d3] }
  | _ => none }
def LayoutWordsWrongFalsely : Prop := layoutWordsRow.holds Tryd.pinned (OpenSpec.ofChange layoutWordsWrong)

/-- 'leaseholdlaw23.LayoutInverse': WHATEVER THE INPUT: true; the input reads as it did. -/
def layoutInverseSpec : ChangeSpec := { name := "layoutInverse", fn := fun _ => fun
  | [d1, d2, d3, d4] => { results := [.lit (.bool true)], args := [d1, d2, d3, d4] }
  | _ => none }
def layoutInverseRow : OpenClaim := { program := "ytjobilmjlmeohaadoor", sum := "43ca4ae692b917cb16a062aee9ac4b2d1e2fa58fc6c3912eec9f06221e7d2944", func := "leasehold/leaseholdlaw23.LayoutInverse", spec := "layoutInverse", unfollowed := true, recurses := true, named := ["leasehold/layout.values"], loops := true, apart := false, laid := [("leasehold/layout.values", laid_leasehold_layout_values)] }
def LayoutInverseSaid : Prop := layoutInverseRow.holds Tryd.pinned (OpenSpec.ofChange layoutInverseSpec)

/-- ITS FALSE NEIGHBOUR: 'it returns false'. Refute it at one input. -/
def layoutInverseWrong : ChangeSpec := { name := "layoutInverse", fn := fun _ => fun
  | [d1, d2, d3, d4] => { results := [.lit (.bool false)], args := [d1, d2, d3, d4] }
  | _ => none }
def LayoutInverseWrongFalsely : Prop := layoutInverseRow.holds Tryd.pinned (OpenSpec.ofChange layoutInverseWrong)

/-- 'leaseholdlaw23.LayoutOptions': WHATEVER THE INPUT: true; the input reads as it did. -/
def layoutOptionsSpec : ChangeSpec := { name := "layoutOptions", fn := fun _ => fun
  | [d1, d2, d3, d4, d5] => { results := [.lit (.bool true)], args := [d1, d2, d3, d4, d5] }
  | _ => none }
def layoutOptionsRow : OpenClaim := { program := "ytjobilmjlmeohaadoor", sum := "43ca4ae692b917cb16a062aee9ac4b2d1e2fa58fc6c3912eec9f06221e7d2944", func := "leasehold/leaseholdlaw23.LayoutOptions", spec := "layoutOptions", unfollowed := true, recurses := true, named := ["leasehold/layout.values"], loops := true, apart := false, laid := [("leasehold/layout.values", laid_leasehold_layout_values)] }
def LayoutOptionsSaid : Prop := layoutOptionsRow.holds Tryd.pinned (OpenSpec.ofChange layoutOptionsSpec)

/-- ITS FALSE NEIGHBOUR: 'it returns false'. Refute it at one input. -/
def layoutOptionsWrong : ChangeSpec := { name := "layoutOptions", fn := fun _ => fun
  | [d1, d2, d3, d4, d5] => { results := [.lit (.bool false)], args := [d1, d2, d3, d4, d5] }
  | _ => none }
def LayoutOptionsWrongFalsely : Prop := layoutOptionsRow.holds Tryd.pinned (OpenSpec.ofChange layoutOptionsWrong)

/-- 'leaseholdlaw23.LayoutLength': WHATEVER THE INPUT: true; the input reads as it did. -/
def layoutLengthSpec : ChangeSpec := { name := "layoutLength", fn := fun _ => fun
  | [d1, d2, d3, d4] => { results := [.lit (.bool true)], args := [d1, d2, d3, d4] }
  | _ => none }
def layoutLengthRow : OpenClaim := { program := "ytjobilmjlmeohaadoor", sum := "43ca4ae692b917cb16a062aee9ac4b2d1e2fa58fc6c3912eec9f06221e7d2944", func := "leasehold/leaseholdlaw23.LayoutLength", spec := "layoutLength", unfollowed := true, recurses := true, named := ["leasehold/layout.values"], loops := true, apart := false, laid := [("leasehold/layout.values", laid_leasehold_layout_values)] }
def LayoutLengthSaid : Prop := layoutLengthRow.holds Tryd.pinned (OpenSpec.ofChange layoutLengthSpec)

/-- ITS FALSE NEIGHBOUR: 'it returns false'. Refute it at one input. -/
def layoutLengthWrong : ChangeSpec := { name := "layoutLength", fn := fun _ => fun
  | [d1, d2, d3, d4] => { results := [.lit (.bool false)], args := [d1, d2, d3, d4] }
  | _ => none }
def LayoutLengthWrongFalsely : Prop := layoutLengthRow.holds Tryd.pinned (OpenSpec.ofChange layoutLengthWrong)

/-- 'leaseholdlaw23.LayoutMore': WHATEVER THE INPUT: true; the input reads as it did. -/
def layoutMoreSpec : ChangeSpec := { name := "layoutMore", fn := fun _ => fun
  | [d1, d2, d3, d4] => { results := [.lit (.bool true)], args := [d1, d2, d3, d4] }
  | _ => none }
def layoutMoreRow : OpenClaim := { program := "ytjobilmjlmeohaadoor", sum := "43ca4ae692b917cb16a062aee9ac4b2d1e2fa58fc6c3912eec9f06221e7d2944", func := "leasehold/leaseholdlaw23.LayoutMore", spec := "layoutMore", unfollowed := true, recurses := true, named := ["leasehold/layout.values"], loops := true, apart := false, laid := [("leasehold/layout.values", laid_leasehold_layout_values)] }
def LayoutMoreSaid : Prop := layoutMoreRow.holds Tryd.pinned (OpenSpec.ofChange layoutMoreSpec)

/-- ITS FALSE NEIGHBOUR: 'it returns false'. Refute it at one input. -/
def layoutMoreWrong : ChangeSpec := { name := "layoutMore", fn := fun _ => fun
  | [d1, d2, d3, d4] => { results := [.lit (.bool false)], args := [d1, d2, d3, d4] }
  | _ => none }
def LayoutMoreWrongFalsely : Prop := layoutMoreRow.holds Tryd.pinned (OpenSpec.ofChange layoutMoreWrong)

/- THE SECOND FORM. 'bulk': how many values and letters a reading holds, each counted each time it is reached (what is shared counts as often as it is met; a slice's spare places count too). A statement '..UptoSaid' is the law's where the arguments, and the package variables that the reading takes, are together of bulk at most 1048576: NARROWER than '..Said'. Prove '..Said' where nothing that the law and all that it calls make is longer than what came in: it says more and counts as full. Else prove '..UptoSaid'. A law counts once. -/
mutual
def uptoBulk {H : Type} : DataW H → Nat
  | .lit (.string bytes) => bytes.length + 1
  | .lit _ => 1
  | .nil => 1
  | .ptr d => uptoBulk d + 1
  | .slice elems spare => uptoBulkAll elems + uptoBulkAll spare + 1
  | .agg parts => uptoBulkAll parts + 1
  | .iface _ d => uptoBulk d + 1
  | .map entries => uptoBulkEntries entries + 1
  | .held _ => 1
def uptoBulkAll {H : Type} : List (DataW H) → Nat
  | [] => 0
  | d :: r => uptoBulk d + uptoBulkAll r
def uptoBulkEntries {H : Type} : List (Lit × DataW H) → Nat
  | [] => 0
  | x :: r => uptoBulkEntry x + uptoBulkEntries r
def uptoBulkEntry {H : Type} : Lit × DataW H → Nat
  | (.string bytes, d) => bytes.length + uptoBulk d + 1
  | (_, d) => uptoBulk d + 1
 end
def uptoSmall : (H : Type) → List (DataW H) → Bool := fun _ ds => decide (uptoBulkAll ds ≤ 1048576)
def OpenSpec.upto (s : _root_.Go.ChangeSpec) : _root_.Go.OpenSpec := { _root_.Go.OpenSpec.ofChange s with cond := some uptoSmall }

/-- 'leaseholdlaw23.LayoutWords', WHERE WHAT IT READS IS OF BULK AT MOST 1048576: true; the input reads as it did. -/
def layoutWordsUptoRow : OpenClaim := { program := "ytjobilmjlmeohaadoor", sum := "43ca4ae692b917cb16a062aee9ac4b2d1e2fa58fc6c3912eec9f06221e7d2944", func := "leasehold/leaseholdlaw23.LayoutWords", spec := "layoutWords", unfollowed := true, recurses := true, named := ["leasehold/layout.values"], loops := true, apart := false, laid := [("leasehold/layout.values", laid_leasehold_layout_values)], narrowed := true }
def LayoutWordsUptoSaid : Prop := layoutWordsUptoRow.holds Tryd.pinned (OpenSpec.upto layoutWordsSpec)

/-- 'leaseholdlaw23.LayoutInverse', WHERE WHAT IT READS IS OF BULK AT MOST 1048576: true; the input reads as it did. -/
def layoutInverseUptoRow : OpenClaim := { program := "ytjobilmjlmeohaadoor", sum := "43ca4ae692b917cb16a062aee9ac4b2d1e2fa58fc6c3912eec9f06221e7d2944", func := "leasehold/leaseholdlaw23.LayoutInverse", spec := "layoutInverse", unfollowed := true, recurses := true, named := ["leasehold/layout.values"], loops := true, apart := false, laid := [("leasehold/layout.values", laid_leasehold_layout_values)], narrowed := true }
def LayoutInverseUptoSaid : Prop := layoutInverseUptoRow.holds Tryd.pinned (OpenSpec.upto layoutInverseSpec)

/-- 'leaseholdlaw23.LayoutOptions', WHERE WHAT IT READS IS OF BULK AT MOST 1048576: true; the input reads as it did. -/
def layoutOptionsUptoRow : OpenClaim := { program := "ytjobilmjlmeohaadoor", sum := "43ca4ae692b917cb16a062aee9ac4b2d1e2fa58fc6c3912eec9f06221e7d2944", func := "leasehold/leaseholdlaw23.LayoutOptions", spec := "layoutOptions", unfollowed := true, recurses := true, named := ["leasehold/layout.values"], loops := true, apart := false, laid := [("leasehold/layout.values", laid_leasehold_layout_values)], narrowed := true }
def LayoutOptionsUptoSaid : Prop := layoutOptionsUptoRow.holds Tryd.pinned (OpenSpec.upto layoutOptionsSpec)

/-- 'leaseholdlaw23.LayoutLength', WHERE WHAT IT READS IS OF BULK AT MOST 1048576: true; the input reads as it did. -/
def layoutLengthUptoRow : OpenClaim := { program := "ytjobilmjlmeohaadoor", sum := "43ca4ae692b917cb16a062aee9ac4b2d1e2fa58fc6c3912eec9f06221e7d2944", func := "leasehold/leaseholdlaw23.LayoutLength", spec := "layoutLength", unfollowed := true, recurses := true, named := ["leasehold/layout.values"], loops := true, apart := false, laid := [("leasehold/layout.values", laid_leasehold_layout_values)], narrowed := true }
def LayoutLengthUptoSaid : Prop := layoutLengthUptoRow.holds Tryd.pinned (OpenSpec.upto layoutLengthSpec)

/-- 'leaseholdlaw23.LayoutMore', WHERE WHAT IT READS IS OF BULK AT MOST 1048576: true; the input reads as it did. -/
def layoutMoreUptoRow : OpenClaim := { program := "ytjobilmjlmeohaadoor", sum := "43ca4ae692b917cb16a062aee9ac4b2d1e2fa58fc6c3912eec9f06221e7d2944", func := "leasehold/leaseholdlaw23.LayoutMore", spec := "layoutMore", unfollowed := true, recurses := true, named := ["leasehold/layout.values"], loops := true, apart := false, laid := [("leasehold/layout.values", laid_leasehold_layout_values)], narrowed := true }
def LayoutMoreUptoSaid : Prop := layoutMoreUptoRow.holds Tryd.pinned (OpenSpec.upto layoutMoreSpec)

end Rows
end Go.Proofs.YtjobilmjlmeohaaDoor
