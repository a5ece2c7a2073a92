/- Bytes and small numbers among the arguments. -/
import Derived.Test.YtgapnemcomkomaaTlEntry
import Derived.Test.YtgapnemcomkomaaFrApi2
set_option linter.unusedVariables false
set_option linter.unusedSimpArgs false
namespace Go.Fr.T
open Go Go.RowKit Go.Fr Go.Fr.Api
def bG (b : UInt8) : G := .int .u8 b.toNat
def isK (P : Program) (t : TypeId) (k : IntKind) : Bool := match P.underlying t with | some (.int k') => decide (k' = k) | _ => false
def isB (P : Program) (t : TypeId) : Bool := match P.underlying t with | some .bool => true | _ => false
theorem isK_ok {P : Program} {t : TypeId} {k : IntKind} (h : isK P t k = true) {n : Nat} {g : G} (hg : Ok P n t g) : ∃ x, g = .int k x ∧ (Lit.int k x).wf = true := by
  simp only [isK] at h
  split at h
  · rename_i k' hu
    have e := of_decide_eq_true h
    subst e
    cases n with
    | zero => exact hg.elim
    | succ n => simp only [Ok, hu] at hg; exact hg
  · cases h
theorem isB_ok {P : Program} {t : TypeId} (h : isB P t = true) {n : Nat} {g : G} (hg : Ok P n t g) : ∃ x, g = .bool x := by
  simp only [isB] at h
  split at h
  · rename_i hu; exact ok_bool hu hg
  · cases h
theorem u8_ok {P : Program} {t : TypeId} (h : isK P t .u8 = true) {n : Nat} {g : G} (hg : Ok P n t g) : ∃ b : UInt8, g = bG b := by
  obtain ⟨x, rfl, hx⟩ := isK_ok h hg
  simp only [Lit.wf, Bool.and_eq_true, decide_eq_true_eq] at hx
  have h1 : 0 ≤ x := hx.1
  have h2 : x ≤ 255 := hx.2
  refine ⟨UInt8.ofNat x.toNat, ?_⟩
  simp only [bG, UInt8.toNat_ofNat']
  congr 1
  omega
theorem u16_ok {P : Program} {t : TypeId} (h : isK P t .u16 = true) {n : Nat} {g : G} (hg : Ok P n t g) : ∃ x : Int, g = .int .u16 x ∧ 0 ≤ x ∧ x ≤ 65535 := by
  obtain ⟨x, rfl, hx⟩ := isK_ok h hg
  simp only [Lit.wf, Bool.and_eq_true, decide_eq_true_eq] at hx
  exact ⟨x, rfl, hx.1, hx.2⟩
theorem i64_ok {P : Program} {t : TypeId} (h : isK P t .i64 = true) {n : Nat} {g : G} (hg : Ok P n t g) : ∃ x : Int, g = .int .i64 x ∧ -9223372036854775808 ≤ x ∧ x ≤ 9223372036854775807 := by
  obtain ⟨x, rfl, hx⟩ := isK_ok h hg
  exact ⟨x, rfl, wf_i64 hx⟩
theorem bytes_ok {P : Program} {t e : TypeId} (hs : isSl P t e 1 = true) (h : isK P e .u8 = true) {n : Nat} {g : G} (hg : Ok P n t g) : ∃ bs : List UInt8, g = .sl 1 (bs.map bG) :=
  isSl_ok hs hg fun _ _ _ hx => u8_ok h hx
theorem argC_bytes (bs : List UInt8) : argC (.sl 1 (bs.map bG)) = .sl (bcells bs) := by
  simp only [argC, gcss_of (f := bG) (h := fun b => [bcell b]) (fun _ => rfl), bcells]
theorem argC_u8 (b : UInt8) : argC (bG b) = bcell b := rfl
theorem bulk_map {α : Type} {f : α → G} (l : List α) : l.length ≤ G.bulkAll (l.map f) := by
  induction l with
  | nil => simp
  | cons x l ih =>
    simp only [List.map_cons, G.bulkAll, List.length_cons]
    have : 1 ≤ (f x).bulk := by cases f x <;> simp only [G.bulk] <;> omega
    omega
theorem bulk_sl {α : Type} {f : α → G} (l : List α) {sz : Nat} : l.length + 1 ≤ (G.sl sz (l.map f)).bulk := by
  have := bulk_map (f := f) l
  simp only [G.bulk]; omega
/-- the arguments, one by one -/
theorem okA_cons {P : Program} {t : TypeId} {ts : List TypeId} {gs : List G} (h : OkA P (t :: ts) gs) : ∃ g r n, gs = g :: r ∧ Ok P n t g ∧ OkA P ts r := by
  cases gs with
  | nil => exact h.elim
  | cons g r => obtain ⟨⟨n, h1⟩, h2⟩ := h; exact ⟨g, r, n, rfl, h1, h2⟩
theorem okA_nil {P : Program} {gs : List G} (h : OkA P [] gs) : gs = [] := by
  cases gs with
  | nil => rfl
  | cons g r => exact h.elim
end Go.Fr.T
