/- From the reading of an argument to data in frozen memory. -/
import Derived.Test.YtgapnemcomkomaaFrRep
import Derived.ChangeArms
import Derived.DataReads
set_option linter.unusedVariables false
set_option linter.unusedSimpArgs false
namespace Go.Fr
open Go Go.RowKit

mutual
def G.bulk : G → Nat
  | .int _ _ => 1
  | .bool _ => 1
  | .str s => s.size + 1
  | .sl _ l => G.bulkAll l + 1
  | .st l => G.bulkAll l + 1
def G.bulkAll : List G → Nat
  | [] => 0
  | x :: l => G.bulk x + G.bulkAll l
end
mutual
def bulkD {H : Type} : DataW H → Nat
  | .lit (.string bytes) => bytes.length + 1
  | .lit _ => 1
  | .nil => 1
  | .ptr d => bulkD d + 1
  | .slice elems spare => bulkDAll elems + bulkDAll spare + 1
  | .agg parts => bulkDAll parts + 1
  | .iface _ d => bulkD d + 1
  | .map entries => bulkDEntries entries + 1
  | .held _ => 1
def bulkDAll {H : Type} : List (DataW H) → Nat
  | [] => 0
  | d :: r => bulkD d + bulkDAll r
def bulkDEntries {H : Type} : List (Lit × DataW H) → Nat
  | [] => 0
  | x :: r => bulkDEntry x + bulkDEntries r
def bulkDEntry {H : Type} : Lit × DataW H → Nat
  | (.string bytes, d) => bytes.length + bulkD d + 1
  | (_, d) => bulkD d + 1
end

/-- of a type -/
def Ok (P : Program) : Nat → TypeId → G → Prop
  | 0, _, _ => False
  | n + 1, t, g => match P.underlying t with
    | some .bool => ∃ b, g = .bool b
    | some (.int k) => ∃ x, g = .int k x ∧ (Lit.int k x).wf = true
    | some .string => ∃ s, g = .str s
    | some (.slice e) => ∃ l, g = .sl (P.cellsOf e) l ∧ ∀ x ∈ l, Ok P n e x
    | some (.struct fs) => ∃ l, g = .st l ∧ l.length = fs.size ∧ ∀ (i : Nat) (f : Field) (x : G), fs[i]? = some f → l[i]? = some x → Ok P n f.type x
    | _ => False

def contig (P : Program) : Nat → List Field → Nat → Bool
  | o, [], n => Nat.beq o n
  | o, f :: fs, n => Nat.beq f.offset o && contig P (o + P.cellsOf f.type) fs n
def flatT (P : Program) (S : List TypeId) (t : TypeId) : Bool :=
  match P.underlying t with
  | some .bool => true
  | some (.int _) => true
  | some .string => true
  | some (.slice e) => mem? S e && Nat.blt 0 (P.cellsOf e)
  | some (.struct fs) => contig P 0 fs.toList (P.cellsOf t) && fs.toList.all fun f => mem? S f.type
  | _ => false
def flat (P : Program) (S : List TypeId) : Bool := S.all (flatT P S)

theorem choose_list {Q : Nat → G → Prop} : ∀ (n : Nat), (∀ i, i < n → ∃ g, Q i g) → ∃ l : List G, l.length = n ∧ ∀ i g, l[i]? = some g → Q i g
  | 0, _ => ⟨[], rfl, fun i g h => by simp at h⟩
  | n + 1, h => by
    obtain ⟨l, h1, h2⟩ := choose_list n (fun i hi => h i (by omega))
    obtain ⟨g, hg⟩ := h n (by omega)
    refine ⟨l ++ [g], by simp [h1], fun i x hx => ?_⟩
    by_cases hi : i < l.length
    · rw [List.getElem?_append_left hi] at hx; exact h2 i x hx
    · rw [List.getElem?_append_right (by omega)] at hx
      have : i - l.length = 0 := by
        cases e : i - l.length with
        | zero => rfl
        | succ k => rw [e] at hx; simp at hx
      rw [this] at hx
      simp only [List.getElem?_cons_zero, Option.some.injEq] at hx
      subst hx
      have : i = n := by omega
      subst this
      exact hg
theorem bulkAll_le {H : Type} : ∀ {l : List G} {ds : List (DataW H)}, l.length = ds.length → (∀ (i : Nat) g d, l[i]? = some g → ds[i]? = some d → g.bulk ≤ bulkD d) → G.bulkAll l ≤ bulkDAll ds
  | [], _, _, _ => by simp [G.bulkAll]
  | x :: l, [], h, _ => by simp at h
  | x :: l, d :: ds, h, hb => by
    simp only [G.bulkAll, bulkDAll]
    have h1 := hb 0 x d (by simp) (by simp)
    have h2 := bulkAll_le (l := l) (ds := ds) (by simpa using h) (fun i g d' hg hd => hb (i + 1) g d' (by simpa using hg) (by simpa using hd))
    omega

section
variable {H : Type} {enc : TypeId × Value → H} {P : Program} {w : World} {base : Nat} {spare : Nat → Bool} {held : Bool}

/-- the heap as it stands -/
def frzOf (w : World) : Frz := fun b => w.heap[b]?

theorem fcells_of {a : Addr} {n : Nat} {cs : List Value} (h : w.cells? base a n = some cs) (hn : 0 < n) : cs.length = n ∧ FCells (frzOf w) (some a) 0 cs := by
  obtain ⟨_, hlen, hc⟩ := World.cells?_some h
  refine ⟨hlen, ?_⟩
  have h0 := hc 0 hn
  rw [List.getElem?_eq_getElem (by omega)] at h0
  have hspot : a.spot = none := by simpa [Addr.add] using World.cell?_spot h0
  have hblk : ∃ arr t fr, w.heap[a.block]? = some (.cells arr t fr) := by
    simp only [World.cell?, Addr.add] at h0
    split at h0
    · rename_i c t fr e; exact ⟨c, t, fr, e⟩
    · cases h0
  obtain ⟨arr, t, fr, hb⟩ := hblk
  refine ⟨a, arr, t, fr, rfl, hb, hspot, fun i v hv => ?_⟩
  have hi : i < n := by rw [← hlen]; exact (List.getElem?_eq_some_iff.1 hv).1
  have := hc i hi
  obtain ⟨b, o, sp⟩ := a
  simp only at hspot
  subst hspot
  rw [hv, add_none] at this
  simp only [World.cell?] at this
  simp only at hb
  rw [hb] at this
  simpa using this
theorem fcells_shift {F : Frz} {a : Addr} {n : Nat} {cs : List Value} (hs : a.spot = none) (h : FCells F (some (a.add n)) 0 cs) : FCells F (some a) n cs := by
  obtain ⟨b, o, sp⟩ := a
  simp only at hs
  subst hs
  rw [add_none] at h
  obtain ⟨ad, arr, t, fr, e, hb, hsp, hc⟩ := h
  injection e with e
  subst e
  exact ⟨_, arr, t, fr, rfl, hb, rfl, fun i v hv => by have := hc i v hv; simpa [Nat.add_assoc] using this⟩
theorem fcells_spot {F : Frz} {a : Addr} {cs : List Value} (h : FCells F (some a) 0 cs) : a.spot = none := by
  obtain ⟨ad, arr, t, fr, e, hb, hsp, hc⟩ := h
  injection e with e
  subst e
  exact hsp

theorem trod_rd {S : List TypeId} (hS : flat P S = true) : ∀ (fuel : Nat) (t : TypeId) (cs : List Value) (x : DataW H × List MemPlace), t ∈ S → DataW.trod enc P w base spare held fuel t cs = some x →
    ∃ g, Ok P fuel t g ∧ Rd (frzOf w) g cs ∧ g.bulk ≤ bulkD x.1 := by
  intro fuel
  induction fuel with
  | zero => intro t cs x _ h; simp [DataW.trod] at h
  | succ n ih =>
    intro t cs x ht h
    have hf := List.all_eq_true.1 hS t ht
    simp only [flatT] at hf
    split at hf
    · rename_i hu
      obtain ⟨b, rfl, rfl⟩ := DataW.trod_bool hu h
      exact ⟨.bool b, by simp [Ok, hu], by simp [Rd], by simp [G.bulk, bulkD]⟩
    · rename_i k hu
      obtain ⟨m, rfl, rfl, hw⟩ := DataW.trod_int hu h
      exact ⟨.int k m, by simp [Ok, hu, hw], by simp [Rd, hw], by simp [G.bulk, bulkD]⟩
    · rename_i hu
      obtain ⟨s, rfl, rfl, hw⟩ := DataW.trod_string hu h
      exact ⟨.str s, by simp [Ok, hu], by simp [Rd], by simp [G.bulk, bulkD]⟩
    · rename_i e hu
      simp only [Bool.and_eq_true] at hf
      have he : e ∈ S := mem?_eq.1 hf.1
      have hpos : 0 < P.cellsOf e := by simpa using hf.2
      rcases DataW.trod_slice hu h with ⟨rfl, rfl⟩ | ⟨a, len, cap, elems, rest, m, e1, rfl, rfl, hb, hl, hm, hlen, hel, _, _⟩
      · refine ⟨.sl (P.cellsOf e) [], by simp [Ok, hu], ?_, by simp [G.bulk, G.bulkAll, bulkD]⟩
        rw [Rd_sl]
        exact ⟨none, 0, rfl, by simp, by simp, fun _ => ⟨rfl, rfl⟩, fun j x hx => by simp at hx⟩
      · obtain rfl : m = n := by omega
        have hspot : 0 < len → a.spot = none := by
          intro h0
          have h1 := hel 0 h0
          rw [List.getElem?_eq_getElem (by omega)] at h1
          obtain ⟨es, h2, h3⟩ := Option.bind_eq_some_iff.1 h1
          have := fcells_spot (fcells_of h2 hpos).2
          simpa [Addr.add] using this
        obtain ⟨l, hl1, hl2⟩ := choose_list (Q := fun i g => Ok P m e g ∧ (∃ es, es.length = P.cellsOf e ∧ FCells (frzOf w) (some a) (i * P.cellsOf e) es ∧ Rd (frzOf w) g es) ∧ ∀ y, elems[i]? = some y → g.bulk ≤ bulkD y.1) len (by
          intro i hi
          have h1 := hel i hi
          rw [List.getElem?_eq_getElem (by omega)] at h1
          obtain ⟨es, h2, h3⟩ := Option.bind_eq_some_iff.1 h1
          obtain ⟨g, g1, g2, g3⟩ := ih e es _ he h3
          obtain ⟨g4, g5⟩ := fcells_of h2 hpos
          refine ⟨g, g1, ⟨es, g4, fcells_shift (hspot (by omega)) g5, g2⟩, fun y hy => ?_⟩
          rw [List.getElem?_eq_getElem (by omega)] at hy
          injection hy with hy
          subst hy
          exact g3)
        refine ⟨.sl (P.cellsOf e) l, ?_, ?_, ?_⟩
        · simp only [Ok, hu]
          refine ⟨l, rfl, fun x hx => ?_⟩
          obtain ⟨i, hi⟩ := List.mem_iff_getElem?.1 hx
          exact (hl2 i x hi).1
        · rw [Rd_sl]
          exact ⟨some a, cap, by rw [hl1], by omega, hm, fun e => (by cases e), fun j x hx => (hl2 j x hx).2.1⟩
        · simp only [G.bulk, bulkD]
          have := bulkAll_le (l := l) (ds := elems.map (·.1)) (by simp [hl1, hlen]) (fun i g d hg hd => by
            simp only [List.getElem?_map, Option.map_eq_some_iff] at hd
            obtain ⟨y, hy, rfl⟩ := hd
            exact (hl2 i g hg).2.2 y hy)
          omega
    · rename_i fs hu
      simp only [Bool.and_eq_true] at hf
      obtain ⟨hcont, hall⟩ := hf
      obtain ⟨xs, m, e1, rfl, hlen, hxl, hfs⟩ := DataW.trod_struct hu h
      obtain rfl : m = n := by omega
      have key : ∀ (fl : List Field) (ys : List (DataW H × List MemPlace)) (o : Nat), contig P o fl (P.cellsOf t) = true → ys.length = fl.length → (∀ f ∈ fl, f.type ∈ S) →
          (∀ (i : Nat) f, fl[i]? = some f → DataW.trod enc P w base spare held m f.type ((cs.drop f.offset).take (P.cellsOf f.type)) = ys[i]?) →
          ∃ l, l.length = fl.length ∧ (∀ (i : Nat) f g, fl[i]? = some f → l[i]? = some g → Ok P m f.type g) ∧ RdAll (frzOf w) l (cs.drop o) ∧ G.bulkAll l ≤ bulkDAll (ys.map (·.1)) := by
        intro fl
        induction fl with
        | nil =>
          intro ys o hc _ _ _
          simp only [contig] at hc
          have := Nat.eq_of_beq_eq_true hc
          refine ⟨[], rfl, fun i f g h => by simp at h, ?_, by simp [G.bulkAll]⟩
          simp only [RdAll]
          rw [List.drop_eq_nil_iff]; omega
        | cons f fl ihf =>
          intro ys o hc hy hmem hfs
          simp only [contig, Bool.and_eq_true] at hc
          have hoff := Nat.eq_of_beq_eq_true hc.1
          match ys, hy with
          | y :: ys, hy =>
            have h0 := hfs 0 f (by simp)
            simp only [List.getElem?_cons_zero] at h0
            obtain ⟨g, g1, g2, g3⟩ := ih f.type _ _ (hmem f (by simp)) h0
            obtain ⟨l, l1, l2, l3, l4⟩ := ihf ys (o + P.cellsOf f.type) hc.2 (by simpa using hy) (fun f' hf' => hmem f' (by simp [hf'])) (fun i f' hf' => by
              have := hfs (i + 1) f' (by simpa using hf')
              simpa using this)
            refine ⟨g :: l, by simp [l1], fun i f' g' hf' hg' => ?_, ?_, ?_⟩
            · cases i with
              | zero => simp only [List.getElem?_cons_zero, Option.some.injEq] at hf' hg'; subst hf'; subst hg'; exact g1
              | succ i => exact l2 i f' g' (by simpa using hf') (by simpa using hg')
            · simp only [RdAll]
              refine ⟨(cs.drop o).take (P.cellsOf f.type), cs.drop (o + P.cellsOf f.type), ?_, by rw [← hoff]; exact g2, l3⟩
              rw [← List.drop_drop, List.take_append_drop]
            · simp only [G.bulkAll, List.map_cons, bulkDAll]; omega
      obtain ⟨l, l1, l2, l3, l4⟩ := key fs.toList xs 0 hcont (by simp [hxl]) (fun f hf => mem?_eq.1 (List.all_eq_true.1 hall f hf)) (fun i f hi => hfs i f (by simpa using hi))
      refine ⟨.st l, ?_, ?_, ?_⟩
      · simp only [Ok, hu]
        exact ⟨l, rfl, by simpa using l1, fun i f x hi hx => l2 i f x (by simpa using hi) hx⟩
      · simp only [Rd]; simpa using l3
      · simp only [G.bulk, bulkD]; omega
    · cases hf
end
end Go.Fr
