/- What is of a type of the program's is such a record. -/
import Derived.Test.YtgapnemcomkomaaFrApi
set_option linter.unusedVariables false
set_option linter.unusedSimpArgs false
namespace Go.Fr
open Go Go.RowKit
namespace Api
section
variable {P : Program}
def OkL (P : Program) (n : Nat) : List TypeId → List G → Prop
  | [], [] => True
  | t :: ts, x :: l => Ok P n t x ∧ OkL P n ts l
  | _, _ => False
theorem okL_of {n : Nat} : ∀ {fl : List Field} {l : List G}, l.length = fl.length → (∀ (i : Nat) (f : Field) (x : G), fl[i]? = some f → l[i]? = some x → Ok P n f.type x) → OkL P n (fl.map (·.type)) l
  | [], [], _, _ => trivial
  | [], x :: l, h, _ => by simp at h
  | f :: fl, [], h, _ => by simp at h
  | f :: fl, x :: l, h, hk => ⟨hk 0 f x (by simp) (by simp), okL_of (by simpa using h) fun i f' x' hf hx => hk (i + 1) f' x' (by simpa using hf) (by simpa using hx)⟩
theorem ok_int {n : Nat} {t : TypeId} {g : G} {k : IntKind} (h : P.underlying t = some (.int k)) (hg : Ok P n t g) : ∃ x, g = .int k x := by
  cases n with
  | zero => exact hg.elim
  | succ n => simp only [Ok, h] at hg; obtain ⟨x, h1, _⟩ := hg; exact ⟨x, h1⟩
theorem ok_bool {n : Nat} {t : TypeId} {g : G} (h : P.underlying t = some .bool) (hg : Ok P n t g) : ∃ x, g = .bool x := by
  cases n with
  | zero => exact hg.elim
  | succ n => simp only [Ok, h] at hg; exact hg
theorem ok_str {n : Nat} {t : TypeId} {g : G} (h : P.underlying t = some .string) (hg : Ok P n t g) : ∃ x, g = .str x := by
  cases n with
  | zero => exact hg.elim
  | succ n => simp only [Ok, h] at hg; exact hg
theorem ok_list {α : Type} {f : α → G} : ∀ {l : List G}, (∀ x ∈ l, ∃ y, x = f y) → ∃ l' : List α, l = l'.map f
  | [], _ => ⟨[], rfl⟩
  | x :: l, h => by
    obtain ⟨y, rfl⟩ := h x (by simp)
    obtain ⟨l', rfl⟩ := ok_list (l := l) (fun z hz => h z (by simp [hz]))
    exact ⟨y :: l', rfl⟩
theorem ok_sl' {n : Nat} {t e : TypeId} {g : G} {sz : Nat} {α : Type} {f : α → G} (h : P.underlying t = some (.slice e)) (hsz : P.cellsOf e = sz) (hg : Ok P n t g) (he : ∀ m x, m < n → Ok P m e x → ∃ y, x = f y) : ∃ l : List α, g = .sl sz (l.map f) := by
  cases n with
  | zero => exact hg.elim
  | succ n =>
    simp only [Ok, h] at hg
    obtain ⟨l, rfl, hl⟩ := hg
    obtain ⟨l', rfl⟩ := ok_list (f := f) (fun x hx => he n x (by omega) (hl x hx))
    exact ⟨l', by rw [hsz]⟩
theorem ok_st {n : Nat} {t : TypeId} {g : G} {fs : Array Field} {ts : List TypeId} (h : P.underlying t = some (.struct fs)) (hts : fs.toList.map (·.type) = ts) (hg : Ok P n t g) : ∃ m l, m < n ∧ g = .st l ∧ OkL P m ts l := by
  cases n with
  | zero => exact hg.elim
  | succ n =>
    simp only [Ok, h] at hg
    obtain ⟨l, rfl, hl, hk⟩ := hg
    subst hts
    exact ⟨n, l, by omega, rfl, okL_of (by simpa using hl) fun i f x hf hx => hk i f x (by simpa using hf) hx⟩

def isSt (P : Program) (t : TypeId) (ts : List TypeId) : Bool := match P.underlying t with | some (.struct fs) => decide (fs.toList.map (·.type) = ts) | _ => false
def isSl (P : Program) (t e sz : Nat) : Bool := match P.underlying t with | some (.slice e') => Nat.beq e' e && Nat.beq (P.cellsOf e) sz | _ => false
def isI (P : Program) (t : TypeId) : Bool := match P.underlying t with | some (.int .i64) => true | _ => false
def isS (P : Program) (t : TypeId) : Bool := match P.underlying t with | some .string => true | _ => false
theorem isSt_ok {t : TypeId} {ts : List TypeId} (h : isSt P t ts = true) {n : Nat} {g : G} (hg : Ok P n t g) : ∃ m l, m < n ∧ g = .st l ∧ OkL P m ts l := by
  simp only [isSt] at h
  split at h
  · rename_i fs hu; exact ok_st hu (by simpa using h) hg
  · cases h
theorem isSl_ok {t e sz : Nat} (h : isSl P t e sz = true) {n : Nat} {g : G} {α : Type} {f : α → G} (hg : Ok P n t g) (he : ∀ m x, m < n → Ok P m e x → ∃ y, x = f y) : ∃ l : List α, g = .sl sz (l.map f) := by
  simp only [isSl] at h
  split at h
  · rename_i e' hu
    simp only [Bool.and_eq_true] at h
    have h1 := Nat.eq_of_beq_eq_true h.1
    have h2 := Nat.eq_of_beq_eq_true h.2
    subst h1
    exact ok_sl' hu h2 hg he
  · cases h
theorem isI_ok {t : TypeId} (h : isI P t = true) {n : Nat} {g : G} (hg : Ok P n t g) : ∃ x, g = I x := by
  simp only [isI] at h
  split at h
  · rename_i hu; exact ok_int hu hg
  · cases h
theorem isS_ok {t : TypeId} (h : isS P t = true) {n : Nat} {g : G} (hg : Ok P n t g) : ∃ x, g = .str x := by
  simp only [isS] at h
  split at h
  · rename_i hu; exact ok_str hu hg
  · cases h

theorem okL1 {n : Nat} {t1 : TypeId} {l : List G} (h : OkL P n [t1] l) : ∃ a, l = [a] ∧ Ok P n t1 a := by
  match l, h with
  | [a], h => exact ⟨a, rfl, h.1⟩
theorem okL_cons {n : Nat} {t1 : TypeId} {ts : List TypeId} {l : List G} (h : OkL P n (t1 :: ts) l) : ∃ a r, l = a :: r ∧ Ok P n t1 a ∧ OkL P n ts r := by
  match l, h with
  | a :: r, h => exact ⟨a, r, rfl, h.1, h.2⟩
theorem okL_nil {n : Nat} {l : List G} (h : OkL P n [] l) : l = [] := by
  match l, h with
  | [], _ => rfl

theorem ok_ty {t ti ts : TypeId} (hi : isI P ti = true) (ht : isSt P t [ti, ti, ts] = true) (hs : isSl P ts t 3 = true) : ∀ (n : Nat) (g : G), Ok P n t g → ∃ x : Ty, g = x.g := by
  intro n
  induction n using Nat.strongRecOn with
  | _ n ih =>
    intro g hg
    obtain ⟨m, l, hm, rfl, hl⟩ := isSt_ok ht hg
    obtain ⟨a, l, rfl, ha, hl⟩ := okL_cons hl
    obtain ⟨b, l, rfl, hb, hl⟩ := okL_cons hl
    obtain ⟨c, rfl, hc⟩ := okL1 hl
    obtain ⟨k, rfl⟩ := isI_ok hi ha
    obtain ⟨i, rfl⟩ := isI_ok hi hb
    obtain ⟨xs, rfl⟩ := isSl_ok hs hc (f := Ty.g) (fun m' x hm' hx => ih m' (by omega) x hx)
    exact ⟨.mk k i xs, by simp [Ty.g, Ty.gs_map]⟩
theorem ok_ints {tis ti : TypeId} (hi : isI P ti = true) (hs : isSl P tis ti 1 = true) {n : Nat} {g : G} (hg : Ok P n tis g) : ∃ x : List Int, g = .sl 1 (x.map I) :=
  isSl_ok hs hg fun _ _ _ h => isI_ok hi h
theorem ok_strs {tss tstr : TypeId} (hi : isS P tstr = true) (hs : isSl P tss tstr 1 = true) {n : Nat} {g : G} (hg : Ok P n tss g) : ∃ x : List ByteArray, g = .sl 1 (x.map .str) :=
  isSl_ok hs hg fun _ _ _ h => isS_ok hi h
theorem ok_bound {t ti : TypeId} (hi : isI P ti = true) (ht : isSt P t [ti, ti] = true) {n : Nat} {g : G} (hg : Ok P n t g) : ∃ x : Bound, g = x.g := by
  obtain ⟨m, l, hm, rfl, hl⟩ := isSt_ok ht hg
  obtain ⟨a, l, rfl, ha, hl⟩ := okL_cons hl
  obtain ⟨b, rfl, hb⟩ := okL1 hl
  obtain ⟨k, rfl⟩ := isI_ok hi ha
  obtain ⟨i, rfl⟩ := isI_ok hi hb
  exact ⟨⟨k, i⟩, rfl⟩

/-- the numbers of the types, and what they must be -/
structure Ids where
  int : TypeId
  str : TypeId
  ints : TypeId
  strs : TypeId
  intss : TypeId
  ty : TypeId
  tys : TypeId
  bound : TypeId
  bounds : TypeId
  term : TypeId
  ins : TypeId
  inss : TypeId
  block : TypeId
  blocks : TypeId
  func : TypeId
  funcs : TypeId
  variant : TypeId
  variants : TypeId
  data : TypeId
  datas : TypeId
  impl : TypeId
  impls : TypeId
  prog : TypeId
def Ids.tyOk (P : Program) (d : Ids) : Bool := isI P d.int && isSt P d.ty [d.int, d.int, d.tys] && isSl P d.tys d.ty 3
def Ids.funcOk (P : Program) (d : Ids) : Bool := d.tyOk P && isS P d.str && isSl P d.ints d.int 1 && isSt P d.bound [d.int, d.int] && isSl P d.bounds d.bound 2 && isSt P d.term [d.int, d.int, d.ints] &&
  isSt P d.ins [d.int, d.int, d.int, d.int, d.int, d.ints, d.tys] && isSl P d.inss d.ins 7 && isSt P d.block [d.inss, d.term] && isSl P d.blocks d.block 4 &&
  isSt P d.func [d.str, d.int, d.int, d.bounds, d.int, d.ty, d.tys, d.blocks, d.ints]
def Ids.progOk (P : Program) (d : Ids) : Bool := d.funcOk P && isSl P d.strs d.str 1 && isSl P d.intss d.ints 1 && isSt P d.variant [d.str, d.tys] && isSl P d.variants d.variant 2 && isSt P d.data [d.str, d.int, d.int, d.variants, d.int] &&
  isSl P d.datas d.data 5 && isSt P d.impl [d.int, d.int, d.int, d.bounds, d.ty, d.int] && isSl P d.impls d.impl 8 && isSl P d.funcs d.func 11 && isSt P d.prog [d.strs, d.intss, d.datas, d.strs, d.ints, d.impls, d.funcs, d.int]

theorem Ids.func_of {d : Ids} (h : d.progOk P = true) : d.funcOk P = true := by
  simp only [Ids.progOk, Bool.and_eq_true] at h
  exact h.1.1.1.1.1.1.1.1.1.1
theorem Ids.ty_of {d : Ids} (h : d.funcOk P = true) : d.tyOk P = true := by
  simp only [Ids.funcOk, Bool.and_eq_true] at h
  exact h.1.1.1.1.1.1.1.1.1.1
theorem Ids.ty' {d : Ids} (h : d.tyOk P = true) {n : Nat} {g : G} (hg : Ok P n d.ty g) : ∃ x : Ty, g = x.g := by
  simp only [Ids.tyOk, Bool.and_eq_true] at h
  exact ok_ty h.1.1 h.1.2 h.2 n g hg
theorem Ids.i {d : Ids} (h : d.tyOk P = true) {n : Nat} {g : G} (hg : Ok P n d.int g) : ∃ x : Int, g = I x := by
  simp only [Ids.tyOk, Bool.and_eq_true] at h
  exact isI_ok h.1.1 hg
theorem Ids.tysOk {d : Ids} (h : d.tyOk P = true) {n : Nat} {g : G} (hg : Ok P n d.tys g) : ∃ x : List Ty, g = .sl 3 (x.map Ty.g) := by
  have h' := h
  simp only [Ids.tyOk, Bool.and_eq_true] at h'
  exact isSl_ok h'.2 hg fun m x _ hx => Ids.ty' h hx
theorem Ids.bnd {d : Ids} (h : d.funcOk P = true) {n : Nat} {g : G} (hg : Ok P n d.bound g) : ∃ x : Bound, g = x.g := by
  have hf := h
  have ht := Ids.ty_of hf
  have hf' := hf
  simp only [Ids.funcOk, Bool.and_eq_true] at hf'
  obtain ⟨⟨⟨⟨⟨⟨⟨⟨⟨⟨_, k1⟩, k2⟩, k3⟩, k4⟩, k5⟩, k6⟩, k7⟩, k8⟩, k9⟩, k10⟩ := hf'
  obtain ⟨m, l0, hm, rfl, hl0⟩ := isSt_ok k3 hg
  obtain ⟨g0, l1, rfl, e0, hl1⟩ := okL_cons hl0
  obtain ⟨v0, rfl⟩ := Ids.i ht e0
  obtain ⟨g1, rfl, e1⟩ := okL1 hl1
  obtain ⟨v1, rfl⟩ := Ids.i ht e1
  exact ⟨⟨v0, v1⟩, rfl⟩
theorem Ids.trm {d : Ids} (h : d.funcOk P = true) {n : Nat} {g : G} (hg : Ok P n d.term g) : ∃ x : Term, g = x.g := by
  have hf := h
  have ht := Ids.ty_of hf
  have hf' := hf
  simp only [Ids.funcOk, Bool.and_eq_true] at hf'
  obtain ⟨⟨⟨⟨⟨⟨⟨⟨⟨⟨_, k1⟩, k2⟩, k3⟩, k4⟩, k5⟩, k6⟩, k7⟩, k8⟩, k9⟩, k10⟩ := hf'
  obtain ⟨m, l0, hm, rfl, hl0⟩ := isSt_ok k5 hg
  obtain ⟨g0, l1, rfl, e0, hl1⟩ := okL_cons hl0
  obtain ⟨v0, rfl⟩ := Ids.i ht e0
  obtain ⟨g1, l2, rfl, e1, hl2⟩ := okL_cons hl1
  obtain ⟨v1, rfl⟩ := Ids.i ht e1
  obtain ⟨g2, rfl, e2⟩ := okL1 hl2
  obtain ⟨v2, rfl⟩ := isSl_ok k2 e2 (f := I) fun m x _ hx => Ids.i ht hx
  exact ⟨⟨v0, v1, v2⟩, rfl⟩
theorem Ids.ins' {d : Ids} (h : d.funcOk P = true) {n : Nat} {g : G} (hg : Ok P n d.ins g) : ∃ x : Ins, g = x.g := by
  have hf := h
  have ht := Ids.ty_of hf
  have hf' := hf
  simp only [Ids.funcOk, Bool.and_eq_true] at hf'
  obtain ⟨⟨⟨⟨⟨⟨⟨⟨⟨⟨_, k1⟩, k2⟩, k3⟩, k4⟩, k5⟩, k6⟩, k7⟩, k8⟩, k9⟩, k10⟩ := hf'
  obtain ⟨m, l0, hm, rfl, hl0⟩ := isSt_ok k6 hg
  obtain ⟨g0, l1, rfl, e0, hl1⟩ := okL_cons hl0
  obtain ⟨v0, rfl⟩ := Ids.i ht e0
  obtain ⟨g1, l2, rfl, e1, hl2⟩ := okL_cons hl1
  obtain ⟨v1, rfl⟩ := Ids.i ht e1
  obtain ⟨g2, l3, rfl, e2, hl3⟩ := okL_cons hl2
  obtain ⟨v2, rfl⟩ := Ids.i ht e2
  obtain ⟨g3, l4, rfl, e3, hl4⟩ := okL_cons hl3
  obtain ⟨v3, rfl⟩ := Ids.i ht e3
  obtain ⟨g4, l5, rfl, e4, hl5⟩ := okL_cons hl4
  obtain ⟨v4, rfl⟩ := Ids.i ht e4
  obtain ⟨g5, l6, rfl, e5, hl6⟩ := okL_cons hl5
  obtain ⟨v5, rfl⟩ := isSl_ok k2 e5 (f := I) fun m x _ hx => Ids.i ht hx
  obtain ⟨g6, rfl, e6⟩ := okL1 hl6
  obtain ⟨v6, rfl⟩ := Ids.tysOk ht e6
  exact ⟨⟨v0, v1, v2, v3, v4, v5, v6⟩, rfl⟩
theorem Ids.blk {d : Ids} (h : d.funcOk P = true) {n : Nat} {g : G} (hg : Ok P n d.block g) : ∃ x : Block, g = x.g := by
  have hf := h
  have ht := Ids.ty_of hf
  have hf' := hf
  simp only [Ids.funcOk, Bool.and_eq_true] at hf'
  obtain ⟨⟨⟨⟨⟨⟨⟨⟨⟨⟨_, k1⟩, k2⟩, k3⟩, k4⟩, k5⟩, k6⟩, k7⟩, k8⟩, k9⟩, k10⟩ := hf'
  obtain ⟨m, l0, hm, rfl, hl0⟩ := isSt_ok k8 hg
  obtain ⟨g0, l1, rfl, e0, hl1⟩ := okL_cons hl0
  obtain ⟨v0, rfl⟩ := isSl_ok k7 e0 (f := Ins.g) fun m x _ hx => Ids.ins' hf hx
  obtain ⟨g1, rfl, e1⟩ := okL1 hl1
  obtain ⟨v1, rfl⟩ := Ids.trm hf e1
  exact ⟨⟨v0, v1⟩, rfl⟩
theorem Ids.fn {d : Ids} (h : d.funcOk P = true) {n : Nat} {g : G} (hg : Ok P n d.func g) : ∃ x : Fun, g = x.g := by
  have hf := h
  have ht := Ids.ty_of hf
  have hf' := hf
  simp only [Ids.funcOk, Bool.and_eq_true] at hf'
  obtain ⟨⟨⟨⟨⟨⟨⟨⟨⟨⟨_, k1⟩, k2⟩, k3⟩, k4⟩, k5⟩, k6⟩, k7⟩, k8⟩, k9⟩, k10⟩ := hf'
  obtain ⟨m, l0, hm, rfl, hl0⟩ := isSt_ok k10 hg
  obtain ⟨g0, l1, rfl, e0, hl1⟩ := okL_cons hl0
  obtain ⟨v0, rfl⟩ := isS_ok k1 e0
  obtain ⟨g1, l2, rfl, e1, hl2⟩ := okL_cons hl1
  obtain ⟨v1, rfl⟩ := Ids.i ht e1
  obtain ⟨g2, l3, rfl, e2, hl3⟩ := okL_cons hl2
  obtain ⟨v2, rfl⟩ := Ids.i ht e2
  obtain ⟨g3, l4, rfl, e3, hl4⟩ := okL_cons hl3
  obtain ⟨v3, rfl⟩ := isSl_ok k4 e3 (f := Bound.g) fun m x _ hx => Ids.bnd hf hx
  obtain ⟨g4, l5, rfl, e4, hl5⟩ := okL_cons hl4
  obtain ⟨v4, rfl⟩ := Ids.i ht e4
  obtain ⟨g5, l6, rfl, e5, hl6⟩ := okL_cons hl5
  obtain ⟨v5, rfl⟩ := Ids.ty' ht e5
  obtain ⟨g6, l7, rfl, e6, hl7⟩ := okL_cons hl6
  obtain ⟨v6, rfl⟩ := Ids.tysOk ht e6
  obtain ⟨g7, l8, rfl, e7, hl8⟩ := okL_cons hl7
  obtain ⟨v7, rfl⟩ := isSl_ok k9 e7 (f := Block.g) fun m x _ hx => Ids.blk hf hx
  obtain ⟨g8, rfl, e8⟩ := okL1 hl8
  obtain ⟨v8, rfl⟩ := isSl_ok k2 e8 (f := I) fun m x _ hx => Ids.i ht hx
  exact ⟨⟨v0, v1, v2, v3, v4, v5, v6, v7, v8⟩, rfl⟩
theorem Ids.var' {d : Ids} (h : d.progOk P = true) {n : Nat} {g : G} (hg : Ok P n d.variant g) : ∃ x : Variant, g = x.g := by
  have h0 := h
  have hf := Ids.func_of h
  have ht := Ids.ty_of hf
  have hf' := hf
  simp only [Ids.funcOk, Bool.and_eq_true] at hf'
  obtain ⟨⟨⟨⟨⟨⟨⟨⟨⟨⟨_, k1⟩, k2⟩, k3⟩, k4⟩, k5⟩, k6⟩, k7⟩, k8⟩, k9⟩, k10⟩ := hf'
  simp only [Ids.progOk, Bool.and_eq_true] at h
  obtain ⟨⟨⟨⟨⟨⟨⟨⟨⟨⟨h, p1⟩, p2⟩, p3⟩, p4⟩, p5⟩, p6⟩, p7⟩, p8⟩, p9⟩, p10⟩ := h
  obtain ⟨m, l0, hm, rfl, hl0⟩ := isSt_ok p3 hg
  obtain ⟨g0, l1, rfl, e0, hl1⟩ := okL_cons hl0
  obtain ⟨v0, rfl⟩ := isS_ok k1 e0
  obtain ⟨g1, rfl, e1⟩ := okL1 hl1
  obtain ⟨v1, rfl⟩ := Ids.tysOk ht e1
  exact ⟨⟨v0, v1⟩, rfl⟩
theorem Ids.dat {d : Ids} (h : d.progOk P = true) {n : Nat} {g : G} (hg : Ok P n d.data g) : ∃ x : Data, g = x.g := by
  have h0 := h
  have hf := Ids.func_of h
  have ht := Ids.ty_of hf
  have hf' := hf
  simp only [Ids.funcOk, Bool.and_eq_true] at hf'
  obtain ⟨⟨⟨⟨⟨⟨⟨⟨⟨⟨_, k1⟩, k2⟩, k3⟩, k4⟩, k5⟩, k6⟩, k7⟩, k8⟩, k9⟩, k10⟩ := hf'
  simp only [Ids.progOk, Bool.and_eq_true] at h
  obtain ⟨⟨⟨⟨⟨⟨⟨⟨⟨⟨h, p1⟩, p2⟩, p3⟩, p4⟩, p5⟩, p6⟩, p7⟩, p8⟩, p9⟩, p10⟩ := h
  obtain ⟨m, l0, hm, rfl, hl0⟩ := isSt_ok p5 hg
  obtain ⟨g0, l1, rfl, e0, hl1⟩ := okL_cons hl0
  obtain ⟨v0, rfl⟩ := isS_ok k1 e0
  obtain ⟨g1, l2, rfl, e1, hl2⟩ := okL_cons hl1
  obtain ⟨v1, rfl⟩ := Ids.i ht e1
  obtain ⟨g2, l3, rfl, e2, hl3⟩ := okL_cons hl2
  obtain ⟨v2, rfl⟩ := Ids.i ht e2
  obtain ⟨g3, l4, rfl, e3, hl4⟩ := okL_cons hl3
  obtain ⟨v3, rfl⟩ := isSl_ok p4 e3 (f := Variant.g) fun m x _ hx => Ids.var' h0 hx
  obtain ⟨g4, rfl, e4⟩ := okL1 hl4
  obtain ⟨v4, rfl⟩ := Ids.i ht e4
  exact ⟨⟨v0, v1, v2, v3, v4⟩, rfl⟩
theorem Ids.imp {d : Ids} (h : d.progOk P = true) {n : Nat} {g : G} (hg : Ok P n d.impl g) : ∃ x : Impl, g = x.g := by
  have h0 := h
  have hf := Ids.func_of h
  have ht := Ids.ty_of hf
  have hf' := hf
  simp only [Ids.funcOk, Bool.and_eq_true] at hf'
  obtain ⟨⟨⟨⟨⟨⟨⟨⟨⟨⟨_, k1⟩, k2⟩, k3⟩, k4⟩, k5⟩, k6⟩, k7⟩, k8⟩, k9⟩, k10⟩ := hf'
  simp only [Ids.progOk, Bool.and_eq_true] at h
  obtain ⟨⟨⟨⟨⟨⟨⟨⟨⟨⟨h, p1⟩, p2⟩, p3⟩, p4⟩, p5⟩, p6⟩, p7⟩, p8⟩, p9⟩, p10⟩ := h
  obtain ⟨m, l0, hm, rfl, hl0⟩ := isSt_ok p7 hg
  obtain ⟨g0, l1, rfl, e0, hl1⟩ := okL_cons hl0
  obtain ⟨v0, rfl⟩ := Ids.i ht e0
  obtain ⟨g1, l2, rfl, e1, hl2⟩ := okL_cons hl1
  obtain ⟨v1, rfl⟩ := Ids.i ht e1
  obtain ⟨g2, l3, rfl, e2, hl3⟩ := okL_cons hl2
  obtain ⟨v2, rfl⟩ := Ids.i ht e2
  obtain ⟨g3, l4, rfl, e3, hl4⟩ := okL_cons hl3
  obtain ⟨v3, rfl⟩ := isSl_ok k4 e3 (f := Bound.g) fun m x _ hx => Ids.bnd hf hx
  obtain ⟨g4, l5, rfl, e4, hl5⟩ := okL_cons hl4
  obtain ⟨v4, rfl⟩ := Ids.ty' ht e4
  obtain ⟨g5, rfl, e5⟩ := okL1 hl5
  obtain ⟨v5, rfl⟩ := Ids.i ht e5
  exact ⟨⟨v0, v1, v2, v3, v4, v5⟩, rfl⟩
theorem Ids.prg {d : Ids} (h : d.progOk P = true) {n : Nat} {g : G} (hg : Ok P n d.prog g) : ∃ x : Prog, g = x.g := by
  have h0 := h
  have hf := Ids.func_of h
  have ht := Ids.ty_of hf
  have hf' := hf
  simp only [Ids.funcOk, Bool.and_eq_true] at hf'
  obtain ⟨⟨⟨⟨⟨⟨⟨⟨⟨⟨_, k1⟩, k2⟩, k3⟩, k4⟩, k5⟩, k6⟩, k7⟩, k8⟩, k9⟩, k10⟩ := hf'
  simp only [Ids.progOk, Bool.and_eq_true] at h
  obtain ⟨⟨⟨⟨⟨⟨⟨⟨⟨⟨h, p1⟩, p2⟩, p3⟩, p4⟩, p5⟩, p6⟩, p7⟩, p8⟩, p9⟩, p10⟩ := h
  obtain ⟨m, l0, hm, rfl, hl0⟩ := isSt_ok p10 hg
  obtain ⟨g0, l1, rfl, e0, hl1⟩ := okL_cons hl0
  obtain ⟨v0, rfl⟩ := isSl_ok p1 e0 (f := G.str) fun m x _ hx => isS_ok k1 hx
  obtain ⟨g1, l2, rfl, e1, hl2⟩ := okL_cons hl1
  obtain ⟨v1, rfl⟩ := isSl_ok p2 e1 (f := fun (l : List Int) => G.sl 1 (l.map I)) fun m x _ hx => isSl_ok k2 hx (f := I) fun m x _ hx => Ids.i ht hx
  obtain ⟨g2, l3, rfl, e2, hl3⟩ := okL_cons hl2
  obtain ⟨v2, rfl⟩ := isSl_ok p6 e2 (f := Data.g) fun m x _ hx => Ids.dat h0 hx
  obtain ⟨g3, l4, rfl, e3, hl4⟩ := okL_cons hl3
  obtain ⟨v3, rfl⟩ := isSl_ok p1 e3 (f := G.str) fun m x _ hx => isS_ok k1 hx
  obtain ⟨g4, l5, rfl, e4, hl5⟩ := okL_cons hl4
  obtain ⟨v4, rfl⟩ := isSl_ok k2 e4 (f := I) fun m x _ hx => Ids.i ht hx
  obtain ⟨g5, l6, rfl, e5, hl6⟩ := okL_cons hl5
  obtain ⟨v5, rfl⟩ := isSl_ok p8 e5 (f := Impl.g) fun m x _ hx => Ids.imp h0 hx
  obtain ⟨g6, l7, rfl, e6, hl7⟩ := okL_cons hl6
  obtain ⟨v6, rfl⟩ := isSl_ok p9 e6 (f := Fun.g) fun m x _ hx => Ids.fn hf hx
  obtain ⟨g7, rfl, e7⟩ := okL1 hl7
  obtain ⟨v7, rfl⟩ := Ids.i ht e7
  exact ⟨⟨v0, v1, v2, v3, v4, v5, v6, v7⟩, rfl⟩
end
end Api
end Go.Fr
