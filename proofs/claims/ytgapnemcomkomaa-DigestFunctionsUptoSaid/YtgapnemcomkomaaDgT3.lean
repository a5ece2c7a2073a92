/- Digest: the writer's lists (printed by dglist.py). -/
import Derived.Test.YtgapnemcomkomaaDgT2
set_option linter.unusedVariables false
set_option linter.unusedSimpArgs false
namespace Go.Fr.Try
open Go Go.RowKit Go.Proofs Go.Fr Go.Fr.T Go.Fr.Api

def encL {α : Type} (enc : α → List UInt8) (l : List α) : List UInt8 := encI l.length ++ l.flatMap enc
/-- the writer, and the box that a closure holds it by -/
def WrC (p : C) (bs : List UInt8) : List TO := [.box 114 [.rw 1001, p], .row 5 1 (bcells bs), .box 77 [.own 1000 0]]
def WrCL (p : C) (bs : List UInt8) : TL := [(1000, .box 114 [.rw 1001, p]), (1001, .row 5 1 (bcells bs)), (1002, .box 77 [.own 1000 0])]

set_option maxRecDepth 10000 in
theorem t87 {po : Option Prog} {p : C} (hp : PC po p) (bs : List UInt8) (l : List Int) (enc : Int → List UInt8) (hc : ∀ x ∈ l, ∀ s : List UInt8, (s ++ enc x).length ≤ 2 ^ 46 → CallsT P 88 [IC x, .own 1002 0] (WrC p s) (Ret (WrC p (s ++ enc x)) (.tup [])))
    (hb : (bs ++ encL enc l).length ≤ 2 ^ 46) : CallsT P 87 [.own 1000 0, .sl (ics l), .fn 88 [] [.own 1002 0]] (WrC p bs) (Ret (WrC p (bs ++ encL enc l)) (.tup [])) := by
  refine callsT_facts Try.func87 facts87 rfl fun hw _ => ?_
  have hn : l.length ≤ 9223372036854775807 := by have := wf_len hw.2.1; simpa [ics] using this
  have hp' := hp
  cases hp
  all_goals
    refine callO [1000, 1001] [1000, 1001] (t55 hp' bs [((ics l).length : Int)] ?_) rfl rfl rfl rfl rfl fun _ _ => ?_
    · simp only [encL, List.length_append, ics, List.length_map, encIs, List.flatMap_cons, List.flatMap_nil, List.append_nil] at hb ⊢; omega
    refine loopN l.length 15 [] (bs ++ encI l.length) (fun _ => []) (fun s => WrCL _ s) (fun k s => s ++ (l.drop k).flatMap enc = bs ++ encL enc l) (by simp [encL]) (same_keys rfl) trivial ⟨.inl ⟨_, rfl, .inl ⟨rfl, rfl⟩⟩, .inl ⟨_, rfl, .inl ⟨?_, rfl⟩⟩, .inl ⟨_, rfl, .inl ⟨rfl, rfl⟩⟩, trivial⟩ (fun _ => rfl) (fun _ => rfl) ?_
    · show TO.row 5 1 (bcells (bs ++ encIs [((ics l).length : Int)])) = _
      simp [encIs, ics]
    rintro k s hk hinv _ _ _
    refine brn_p (fun hlt => ?_) (fun hge => ?_)
    · have hlt : k < l.length := by simpa [ics] using hlt
      obtain ⟨x, hx, hd⟩ := drop_cons hlt
      rw [hd, List.flatMap_cons] at hinv
      have hsz : (s ++ enc x).length ≤ 2 ^ 46 := by
        rw [← hinv] at hb
        simp only [List.length_append] at hb ⊢
        omega
      refine idxI hx ?_
      refine callO [1000, 1001, 1002] [1000, 1001, 1002] (hc x (List.mem_of_getElem? hx) s hsz) rfl rfl rfl rfl rfl fun _ _ => ?_
      refine Fit.in64 (by omega) (by omega) ?_
      exact ⟨(k + 1, s ++ enc x), ⟨hlt, by rw [← hinv]; simp⟩, ⟨nextI, trivial⟩, ⟨.inl ⟨_, rfl, .inl ⟨rfl, rfl⟩⟩, .inl ⟨_, rfl, .inl ⟨rfl, rfl⟩⟩, .inl ⟨_, rfl, .inl ⟨rfl, rfl⟩⟩, trivial⟩, nextM hlt⟩
    · have hge : ¬ k < l.length := by simpa [ics] using hge
      rw [drop_end hge] at hinv
      refine retO [1000, 1001, 1002] rfl rfl ?_ rfl
      simp only [List.flatMap_nil, List.append_nil] at hinv
      subst hinv
      rfl

set_option maxRecDepth 10000 in
theorem t81 {po : Option Prog} {p : C} (hp : PC po p) (bs : List UInt8) (l : List Bound) (enc : Bound → List UInt8) (hc : ∀ x ∈ l, ∀ s : List UInt8, (s ++ enc x).length ≤ 2 ^ 46 → CallsT P 82 [.agg (boundC x), .own 1002 0] (WrC p s) (Ret (WrC p (s ++ enc x)) (.tup [])))
    (hb : (bs ++ encL enc l).length ≤ 2 ^ 46) : CallsT P 81 [.own 1000 0, .sl (l.map boundC), .fn 82 [] [.own 1002 0]] (WrC p bs) (Ret (WrC p (bs ++ encL enc l)) (.tup [])) := by
  refine callsT_facts Try.func81 facts81 rfl fun hw _ => ?_
  have hn : l.length ≤ 9223372036854775807 := by have := wf_len hw.2.1; simpa [ics] using this
  have hp' := hp
  cases hp
  all_goals
    refine callO [1000, 1001] [1000, 1001] (t55 hp' bs [((l.map boundC).length : Int)] ?_) rfl rfl rfl rfl rfl fun _ _ => ?_
    · simp only [encL, List.length_append, List.length_map, List.length_map, encIs, List.flatMap_cons, List.flatMap_nil, List.append_nil] at hb ⊢; omega
    refine loopN l.length 15 [] (bs ++ encI l.length) (fun _ => []) (fun s => WrCL _ s) (fun k s => s ++ (l.drop k).flatMap enc = bs ++ encL enc l) (by simp [encL]) (same_keys rfl) trivial ⟨.inl ⟨_, rfl, .inl ⟨rfl, rfl⟩⟩, .inl ⟨_, rfl, .inl ⟨?_, rfl⟩⟩, .inl ⟨_, rfl, .inl ⟨rfl, rfl⟩⟩, trivial⟩ (fun _ => rfl) (fun _ => rfl) ?_
    · show TO.row 5 1 (bcells (bs ++ encIs [((l.map boundC).length : Int)])) = _
      simp [encIs, ics]
    rintro k s hk hinv _ _ _
    refine brn_p (fun hlt => ?_) (fun hge => ?_)
    · have hlt : k < l.length := by simpa [ics] using hlt
      obtain ⟨x, hx, hd⟩ := drop_cons hlt
      rw [hd, List.flatMap_cons] at hinv
      have hsz : (s ++ enc x).length ≤ 2 ^ 46 := by
        rw [← hinv] at hb
        simp only [List.length_append] at hb ⊢
        omega
      refine idxT hx rfl rfl ?_
      refine callO [1000, 1001, 1002] [1000, 1001, 1002] (hc x (List.mem_of_getElem? hx) s hsz) rfl rfl rfl rfl rfl fun _ _ => ?_
      refine Fit.in64 (by omega) (by omega) ?_
      exact ⟨(k + 1, s ++ enc x), ⟨hlt, by rw [← hinv]; simp⟩, ⟨nextI, trivial⟩, ⟨.inl ⟨_, rfl, .inl ⟨rfl, rfl⟩⟩, .inl ⟨_, rfl, .inl ⟨rfl, rfl⟩⟩, .inl ⟨_, rfl, .inl ⟨rfl, rfl⟩⟩, trivial⟩, nextM hlt⟩
    · have hge : ¬ k < l.length := by simpa [ics] using hge
      rw [drop_end hge] at hinv
      refine retO [1000, 1001, 1002] rfl rfl ?_ rfl
      simp only [List.flatMap_nil, List.append_nil] at hinv
      subst hinv
      rfl

set_option maxRecDepth 10000 in
theorem t58 {po : Option Prog} {p : C} (hp : PC po p) (bs : List UInt8) (l : List Ty) (enc : Ty → List UInt8) (hc : ∀ x ∈ l, ∀ s : List UInt8, (s ++ enc x).length ≤ 2 ^ 46 → CallsT P 45 [.own 1000 0, .agg (tyC x)] (Wr p s) (Ret (Wr p (s ++ enc x)) (.tup [])))
    (hb : (bs ++ encL enc l).length ≤ 2 ^ 46) : CallsT P 58 [.own 1000 0, .sl (l.map tyC), .fn 45 [.own 1000 0] []] (Wr p bs) (Ret (Wr p (bs ++ encL enc l)) (.tup [])) := by
  refine callsT_facts Try.func58 facts58 rfl fun hw _ => ?_
  have hn : l.length ≤ 9223372036854775807 := by have := wf_len hw.2.1; simpa [ics] using this
  have hp' := hp
  cases hp
  all_goals
    refine callO [1000, 1001] [1000, 1001] (t55 hp' bs [((l.map tyC).length : Int)] ?_) rfl rfl rfl rfl rfl fun _ _ => ?_
    · simp only [encL, List.length_append, List.length_map, List.length_map, encIs, List.flatMap_cons, List.flatMap_nil, List.append_nil] at hb ⊢; omega
    refine loopN l.length 15 [] (bs ++ encI l.length) (fun _ => []) (fun s => WrL _ s) (fun k s => s ++ (l.drop k).flatMap enc = bs ++ encL enc l) (by simp [encL]) (same_keys rfl) trivial ⟨.inl ⟨_, rfl, .inl ⟨rfl, rfl⟩⟩, .inl ⟨_, rfl, .inl ⟨?_, rfl⟩⟩, trivial⟩ (fun _ => rfl) (fun _ => rfl) ?_
    · show TO.row 5 1 (bcells (bs ++ encIs [((l.map tyC).length : Int)])) = _
      simp [encIs, ics]
    rintro k s hk hinv _ _ _
    refine brn_p (fun hlt => ?_) (fun hge => ?_)
    · have hlt : k < l.length := by simpa [ics] using hlt
      obtain ⟨x, hx, hd⟩ := drop_cons hlt
      rw [hd, List.flatMap_cons] at hinv
      have hsz : (s ++ enc x).length ≤ 2 ^ 46 := by
        rw [← hinv] at hb
        simp only [List.length_append] at hb ⊢
        omega
      refine idxTy hx ?_
      refine callO [1000, 1001] [1000, 1001] (hc x (List.mem_of_getElem? hx) s hsz) rfl rfl ?_ rfl rfl fun _ _ => ?_
      · simp only [tyC_eq]; rfl
      refine Fit.in64 (by omega) (by omega) ?_
      exact ⟨(k + 1, s ++ enc x), ⟨hlt, by rw [← hinv]; simp⟩, ⟨nextI, trivial⟩, ⟨.inl ⟨_, rfl, .inl ⟨rfl, rfl⟩⟩, .inl ⟨_, rfl, .inl ⟨rfl, rfl⟩⟩, trivial⟩, nextM hlt⟩
    · have hge : ¬ k < l.length := by simpa [ics] using hge
      rw [drop_end hge] at hinv
      refine retO [1000, 1001] rfl rfl ?_ rfl
      simp only [List.flatMap_nil, List.append_nil] at hinv
      subst hinv
      rfl

set_option maxRecDepth 10000 in
theorem t74 {po : Option Prog} {p : C} (hp : PC po p) (bs : List UInt8) (l : List Ins) (enc : Ins → List UInt8) (hc : ∀ x ∈ l, ∀ s : List UInt8, (s ++ enc x).length ≤ 2 ^ 46 → CallsT P 75 [.agg (insC x), .own 1002 0] (WrC p s) (Ret (WrC p (s ++ enc x)) (.tup [])))
    (hb : (bs ++ encL enc l).length ≤ 2 ^ 46) : CallsT P 74 [.own 1000 0, .sl (l.map insC), .fn 75 [] [.own 1002 0]] (WrC p bs) (Ret (WrC p (bs ++ encL enc l)) (.tup [])) := by
  refine callsT_facts Try.func74 facts74 rfl fun hw _ => ?_
  have hn : l.length ≤ 9223372036854775807 := by have := wf_len hw.2.1; simpa [ics] using this
  have hp' := hp
  cases hp
  all_goals
    refine callO [1000, 1001] [1000, 1001] (t55 hp' bs [((l.map insC).length : Int)] ?_) rfl rfl rfl rfl rfl fun _ _ => ?_
    · simp only [encL, List.length_append, List.length_map, List.length_map, encIs, List.flatMap_cons, List.flatMap_nil, List.append_nil] at hb ⊢; omega
    refine loopN l.length 15 [] (bs ++ encI l.length) (fun _ => []) (fun s => WrCL _ s) (fun k s => s ++ (l.drop k).flatMap enc = bs ++ encL enc l) (by simp [encL]) (same_keys rfl) trivial ⟨.inl ⟨_, rfl, .inl ⟨rfl, rfl⟩⟩, .inl ⟨_, rfl, .inl ⟨?_, rfl⟩⟩, .inl ⟨_, rfl, .inl ⟨rfl, rfl⟩⟩, trivial⟩ (fun _ => rfl) (fun _ => rfl) ?_
    · show TO.row 5 1 (bcells (bs ++ encIs [((l.map insC).length : Int)])) = _
      simp [encIs, ics]
    rintro k s hk hinv _ _ _
    refine brn_p (fun hlt => ?_) (fun hge => ?_)
    · have hlt : k < l.length := by simpa [ics] using hlt
      obtain ⟨x, hx, hd⟩ := drop_cons hlt
      rw [hd, List.flatMap_cons] at hinv
      have hsz : (s ++ enc x).length ≤ 2 ^ 46 := by
        rw [← hinv] at hb
        simp only [List.length_append] at hb ⊢
        omega
      refine idxT hx rfl rfl ?_
      refine callO [1000, 1001, 1002] [1000, 1001, 1002] (hc x (List.mem_of_getElem? hx) s hsz) rfl rfl rfl rfl rfl fun _ _ => ?_
      refine Fit.in64 (by omega) (by omega) ?_
      exact ⟨(k + 1, s ++ enc x), ⟨hlt, by rw [← hinv]; simp⟩, ⟨nextI, trivial⟩, ⟨.inl ⟨_, rfl, .inl ⟨rfl, rfl⟩⟩, .inl ⟨_, rfl, .inl ⟨rfl, rfl⟩⟩, .inl ⟨_, rfl, .inl ⟨rfl, rfl⟩⟩, trivial⟩, nextM hlt⟩
    · have hge : ¬ k < l.length := by simpa [ics] using hge
      rw [drop_end hge] at hinv
      refine retO [1000, 1001, 1002] rfl rfl ?_ rfl
      simp only [List.flatMap_nil, List.append_nil] at hinv
      subst hinv
      rfl

set_option maxRecDepth 10000 in
theorem t72 {po : Option Prog} {p : C} (hp : PC po p) (bs : List UInt8) (l : List Block) (enc : Block → List UInt8) (hc : ∀ x ∈ l, ∀ s : List UInt8, (s ++ enc x).length ≤ 2 ^ 46 → CallsT P 73 [.agg (blockC x), .own 1002 0] (WrC p s) (Ret (WrC p (s ++ enc x)) (.tup [])))
    (hb : (bs ++ encL enc l).length ≤ 2 ^ 46) : CallsT P 72 [.own 1000 0, .sl (l.map blockC), .fn 73 [] [.own 1002 0]] (WrC p bs) (Ret (WrC p (bs ++ encL enc l)) (.tup [])) := by
  refine callsT_facts Try.func72 facts72 rfl fun hw _ => ?_
  have hn : l.length ≤ 9223372036854775807 := by have := wf_len hw.2.1; simpa [ics] using this
  have hp' := hp
  cases hp
  all_goals
    refine callO [1000, 1001] [1000, 1001] (t55 hp' bs [((l.map blockC).length : Int)] ?_) rfl rfl rfl rfl rfl fun _ _ => ?_
    · simp only [encL, List.length_append, List.length_map, List.length_map, encIs, List.flatMap_cons, List.flatMap_nil, List.append_nil] at hb ⊢; omega
    refine loopN l.length 15 [] (bs ++ encI l.length) (fun _ => []) (fun s => WrCL _ s) (fun k s => s ++ (l.drop k).flatMap enc = bs ++ encL enc l) (by simp [encL]) (same_keys rfl) trivial ⟨.inl ⟨_, rfl, .inl ⟨rfl, rfl⟩⟩, .inl ⟨_, rfl, .inl ⟨?_, rfl⟩⟩, .inl ⟨_, rfl, .inl ⟨rfl, rfl⟩⟩, trivial⟩ (fun _ => rfl) (fun _ => rfl) ?_
    · show TO.row 5 1 (bcells (bs ++ encIs [((l.map blockC).length : Int)])) = _
      simp [encIs, ics]
    rintro k s hk hinv _ _ _
    refine brn_p (fun hlt => ?_) (fun hge => ?_)
    · have hlt : k < l.length := by simpa [ics] using hlt
      obtain ⟨x, hx, hd⟩ := drop_cons hlt
      rw [hd, List.flatMap_cons] at hinv
      have hsz : (s ++ enc x).length ≤ 2 ^ 46 := by
        rw [← hinv] at hb
        simp only [List.length_append] at hb ⊢
        omega
      refine idxT hx rfl rfl ?_
      refine callO [1000, 1001, 1002] [1000, 1001, 1002] (hc x (List.mem_of_getElem? hx) s hsz) rfl rfl rfl rfl rfl fun _ _ => ?_
      refine Fit.in64 (by omega) (by omega) ?_
      exact ⟨(k + 1, s ++ enc x), ⟨hlt, by rw [← hinv]; simp⟩, ⟨nextI, trivial⟩, ⟨.inl ⟨_, rfl, .inl ⟨rfl, rfl⟩⟩, .inl ⟨_, rfl, .inl ⟨rfl, rfl⟩⟩, .inl ⟨_, rfl, .inl ⟨rfl, rfl⟩⟩, trivial⟩, nextM hlt⟩
    · have hge : ¬ k < l.length := by simpa [ics] using hge
      rw [drop_end hge] at hinv
      refine retO [1000, 1001, 1002] rfl rfl ?_ rfl
      simp only [List.flatMap_nil, List.append_nil] at hinv
      subst hinv
      rfl

set_option maxRecDepth 10000 in
theorem t66 {po : Option Prog} {p : C} (hp : PC po p) (bs : List UInt8) (l : List Fun) (enc : Fun → List UInt8) (hc : ∀ x ∈ l, ∀ s : List UInt8, (s ++ enc x).length ≤ 2 ^ 46 → CallsT P 34 [.own 1000 0, .agg (funC x)] (Wr p s) (Ret (Wr p (s ++ enc x)) (.tup [])))
    (hb : (bs ++ encL enc l).length ≤ 2 ^ 46) : CallsT P 66 [.own 1000 0, .sl (l.map funC), .fn 34 [.own 1000 0] []] (Wr p bs) (Ret (Wr p (bs ++ encL enc l)) (.tup [])) := by
  refine callsT_facts Try.func66 facts66 rfl fun hw _ => ?_
  have hn : l.length ≤ 9223372036854775807 := by have := wf_len hw.2.1; simpa [ics] using this
  have hp' := hp
  cases hp
  all_goals
    refine callO [1000, 1001] [1000, 1001] (t55 hp' bs [((l.map funC).length : Int)] ?_) rfl rfl rfl rfl rfl fun _ _ => ?_
    · simp only [encL, List.length_append, List.length_map, List.length_map, encIs, List.flatMap_cons, List.flatMap_nil, List.append_nil] at hb ⊢; omega
    refine loopN l.length 15 [] (bs ++ encI l.length) (fun _ => []) (fun s => WrL _ s) (fun k s => s ++ (l.drop k).flatMap enc = bs ++ encL enc l) (by simp [encL]) (same_keys rfl) trivial ⟨.inl ⟨_, rfl, .inl ⟨rfl, rfl⟩⟩, .inl ⟨_, rfl, .inl ⟨?_, rfl⟩⟩, trivial⟩ (fun _ => rfl) (fun _ => rfl) ?_
    · show TO.row 5 1 (bcells (bs ++ encIs [((l.map funC).length : Int)])) = _
      simp [encIs, ics]
    rintro k s hk hinv _ _ _
    refine brn_p (fun hlt => ?_) (fun hge => ?_)
    · have hlt : k < l.length := by simpa [ics] using hlt
      obtain ⟨x, hx, hd⟩ := drop_cons hlt
      rw [hd, List.flatMap_cons] at hinv
      have hsz : (s ++ enc x).length ≤ 2 ^ 46 := by
        rw [← hinv] at hb
        simp only [List.length_append] at hb ⊢
        omega
      refine idxT hx rfl rfl ?_
      refine callO [1000, 1001] [1000, 1001] (hc x (List.mem_of_getElem? hx) s hsz) rfl rfl rfl rfl rfl fun _ _ => ?_
      refine Fit.in64 (by omega) (by omega) ?_
      exact ⟨(k + 1, s ++ enc x), ⟨hlt, by rw [← hinv]; simp⟩, ⟨nextI, trivial⟩, ⟨.inl ⟨_, rfl, .inl ⟨rfl, rfl⟩⟩, .inl ⟨_, rfl, .inl ⟨rfl, rfl⟩⟩, trivial⟩, nextM hlt⟩
    · have hge : ¬ k < l.length := by simpa [ics] using hge
      rw [drop_end hge] at hinv
      refine retO [1000, 1001] rfl rfl ?_ rfl
      simp only [List.flatMap_nil, List.append_nil] at hinv
      subst hinv
      rfl

set_option maxRecDepth 10000 in
theorem t56 {po : Option Prog} {p : C} (hp : PC po p) (bs : List UInt8) (l : List Variant) (enc : Variant → List UInt8) (hc : ∀ x ∈ l, ∀ s : List UInt8, (s ++ enc x).length ≤ 2 ^ 46 → CallsT P 57 [.agg (variantC x), .own 1002 0] (WrC p s) (Ret (WrC p (s ++ enc x)) (.tup [])))
    (hb : (bs ++ encL enc l).length ≤ 2 ^ 46) : CallsT P 56 [.own 1000 0, .sl (l.map variantC), .fn 57 [] [.own 1002 0]] (WrC p bs) (Ret (WrC p (bs ++ encL enc l)) (.tup [])) := by
  refine callsT_facts Try.func56 facts56 rfl fun hw _ => ?_
  have hn : l.length ≤ 9223372036854775807 := by have := wf_len hw.2.1; simpa [ics] using this
  have hp' := hp
  cases hp
  all_goals
    refine callO [1000, 1001] [1000, 1001] (t55 hp' bs [((l.map variantC).length : Int)] ?_) rfl rfl rfl rfl rfl fun _ _ => ?_
    · simp only [encL, List.length_append, List.length_map, List.length_map, encIs, List.flatMap_cons, List.flatMap_nil, List.append_nil] at hb ⊢; omega
    refine loopN l.length 15 [] (bs ++ encI l.length) (fun _ => []) (fun s => WrCL _ s) (fun k s => s ++ (l.drop k).flatMap enc = bs ++ encL enc l) (by simp [encL]) (same_keys rfl) trivial ⟨.inl ⟨_, rfl, .inl ⟨rfl, rfl⟩⟩, .inl ⟨_, rfl, .inl ⟨?_, rfl⟩⟩, .inl ⟨_, rfl, .inl ⟨rfl, rfl⟩⟩, trivial⟩ (fun _ => rfl) (fun _ => rfl) ?_
    · show TO.row 5 1 (bcells (bs ++ encIs [((l.map variantC).length : Int)])) = _
      simp [encIs, ics]
    rintro k s hk hinv _ _ _
    refine brn_p (fun hlt => ?_) (fun hge => ?_)
    · have hlt : k < l.length := by simpa [ics] using hlt
      obtain ⟨x, hx, hd⟩ := drop_cons hlt
      rw [hd, List.flatMap_cons] at hinv
      have hsz : (s ++ enc x).length ≤ 2 ^ 46 := by
        rw [← hinv] at hb
        simp only [List.length_append] at hb ⊢
        omega
      refine idxT hx rfl rfl ?_
      refine callO [1000, 1001, 1002] [1000, 1001, 1002] (hc x (List.mem_of_getElem? hx) s hsz) rfl rfl rfl rfl rfl fun _ _ => ?_
      refine Fit.in64 (by omega) (by omega) ?_
      exact ⟨(k + 1, s ++ enc x), ⟨hlt, by rw [← hinv]; simp⟩, ⟨nextI, trivial⟩, ⟨.inl ⟨_, rfl, .inl ⟨rfl, rfl⟩⟩, .inl ⟨_, rfl, .inl ⟨rfl, rfl⟩⟩, .inl ⟨_, rfl, .inl ⟨rfl, rfl⟩⟩, trivial⟩, nextM hlt⟩
    · have hge : ¬ k < l.length := by simpa [ics] using hge
      rw [drop_end hge] at hinv
      refine retO [1000, 1001, 1002] rfl rfl ?_ rfl
      simp only [List.flatMap_nil, List.append_nil] at hinv
      subst hinv
      rfl

set_option maxRecDepth 10000 in
theorem t51 {po : Option Prog} {p : C} (hp : PC po p) (bs : List UInt8) (l : List Api.Data) (enc : Api.Data → List UInt8) (hc : ∀ x ∈ l, ∀ s : List UInt8, (s ++ enc x).length ≤ 2 ^ 46 → CallsT P 54 [.agg (dataC x), .own 1002 0] (WrC p s) (Ret (WrC p (s ++ enc x)) (.tup [])))
    (hb : (bs ++ encL enc l).length ≤ 2 ^ 46) : CallsT P 51 [.own 1000 0, .sl (l.map dataC), .fn 54 [] [.own 1002 0]] (WrC p bs) (Ret (WrC p (bs ++ encL enc l)) (.tup [])) := by
  refine callsT_facts Try.func51 facts51 rfl fun hw _ => ?_
  have hn : l.length ≤ 9223372036854775807 := by have := wf_len hw.2.1; simpa [ics] using this
  have hp' := hp
  cases hp
  all_goals
    refine callO [1000, 1001] [1000, 1001] (t55 hp' bs [((l.map dataC).length : Int)] ?_) rfl rfl rfl rfl rfl fun _ _ => ?_
    · simp only [encL, List.length_append, List.length_map, List.length_map, encIs, List.flatMap_cons, List.flatMap_nil, List.append_nil] at hb ⊢; omega
    refine loopN l.length 15 [] (bs ++ encI l.length) (fun _ => []) (fun s => WrCL _ s) (fun k s => s ++ (l.drop k).flatMap enc = bs ++ encL enc l) (by simp [encL]) (same_keys rfl) trivial ⟨.inl ⟨_, rfl, .inl ⟨rfl, rfl⟩⟩, .inl ⟨_, rfl, .inl ⟨?_, rfl⟩⟩, .inl ⟨_, rfl, .inl ⟨rfl, rfl⟩⟩, trivial⟩ (fun _ => rfl) (fun _ => rfl) ?_
    · show TO.row 5 1 (bcells (bs ++ encIs [((l.map dataC).length : Int)])) = _
      simp [encIs, ics]
    rintro k s hk hinv _ _ _
    refine brn_p (fun hlt => ?_) (fun hge => ?_)
    · have hlt : k < l.length := by simpa [ics] using hlt
      obtain ⟨x, hx, hd⟩ := drop_cons hlt
      rw [hd, List.flatMap_cons] at hinv
      have hsz : (s ++ enc x).length ≤ 2 ^ 46 := by
        rw [← hinv] at hb
        simp only [List.length_append] at hb ⊢
        omega
      refine idxT hx rfl rfl ?_
      refine callO [1000, 1001, 1002] [1000, 1001, 1002] (hc x (List.mem_of_getElem? hx) s hsz) rfl rfl rfl rfl rfl fun _ _ => ?_
      refine Fit.in64 (by omega) (by omega) ?_
      exact ⟨(k + 1, s ++ enc x), ⟨hlt, by rw [← hinv]; simp⟩, ⟨nextI, trivial⟩, ⟨.inl ⟨_, rfl, .inl ⟨rfl, rfl⟩⟩, .inl ⟨_, rfl, .inl ⟨rfl, rfl⟩⟩, .inl ⟨_, rfl, .inl ⟨rfl, rfl⟩⟩, trivial⟩, nextM hlt⟩
    · have hge : ¬ k < l.length := by simpa [ics] using hge
      rw [drop_end hge] at hinv
      refine retO [1000, 1001, 1002] rfl rfl ?_ rfl
      simp only [List.flatMap_nil, List.append_nil] at hinv
      subst hinv
      rfl

set_option maxRecDepth 10000 in
theorem t59 {po : Option Prog} {p : C} (hp : PC po p) (bs : List UInt8) (l : List Impl) (enc : Impl → List UInt8) (hc : ∀ x ∈ l, ∀ s : List UInt8, (s ++ enc x).length ≤ 2 ^ 46 → CallsT P 62 [.agg (implC x), .own 1002 0] (WrC p s) (Ret (WrC p (s ++ enc x)) (.tup [])))
    (hb : (bs ++ encL enc l).length ≤ 2 ^ 46) : CallsT P 59 [.own 1000 0, .sl (l.map implC), .fn 62 [] [.own 1002 0]] (WrC p bs) (Ret (WrC p (bs ++ encL enc l)) (.tup [])) := by
  refine callsT_facts Try.func59 facts59 rfl fun hw _ => ?_
  have hn : l.length ≤ 9223372036854775807 := by have := wf_len hw.2.1; simpa [ics] using this
  have hp' := hp
  cases hp
  all_goals
    refine callO [1000, 1001] [1000, 1001] (t55 hp' bs [((l.map implC).length : Int)] ?_) rfl rfl rfl rfl rfl fun _ _ => ?_
    · simp only [encL, List.length_append, List.length_map, List.length_map, encIs, List.flatMap_cons, List.flatMap_nil, List.append_nil] at hb ⊢; omega
    refine loopN l.length 15 [] (bs ++ encI l.length) (fun _ => []) (fun s => WrCL _ s) (fun k s => s ++ (l.drop k).flatMap enc = bs ++ encL enc l) (by simp [encL]) (same_keys rfl) trivial ⟨.inl ⟨_, rfl, .inl ⟨rfl, rfl⟩⟩, .inl ⟨_, rfl, .inl ⟨?_, rfl⟩⟩, .inl ⟨_, rfl, .inl ⟨rfl, rfl⟩⟩, trivial⟩ (fun _ => rfl) (fun _ => rfl) ?_
    · show TO.row 5 1 (bcells (bs ++ encIs [((l.map implC).length : Int)])) = _
      simp [encIs, ics]
    rintro k s hk hinv _ _ _
    refine brn_p (fun hlt => ?_) (fun hge => ?_)
    · have hlt : k < l.length := by simpa [ics] using hlt
      obtain ⟨x, hx, hd⟩ := drop_cons hlt
      rw [hd, List.flatMap_cons] at hinv
      have hsz : (s ++ enc x).length ≤ 2 ^ 46 := by
        rw [← hinv] at hb
        simp only [List.length_append] at hb ⊢
        omega
      refine idxT hx rfl rfl ?_
      refine callO [1000, 1001, 1002] [1000, 1001, 1002] (hc x (List.mem_of_getElem? hx) s hsz) rfl rfl rfl rfl rfl fun _ _ => ?_
      refine Fit.in64 (by omega) (by omega) ?_
      exact ⟨(k + 1, s ++ enc x), ⟨hlt, by rw [← hinv]; simp⟩, ⟨nextI, trivial⟩, ⟨.inl ⟨_, rfl, .inl ⟨rfl, rfl⟩⟩, .inl ⟨_, rfl, .inl ⟨rfl, rfl⟩⟩, .inl ⟨_, rfl, .inl ⟨rfl, rfl⟩⟩, trivial⟩, nextM hlt⟩
    · have hge : ¬ k < l.length := by simpa [ics] using hge
      rw [drop_end hge] at hinv
      refine retO [1000, 1001, 1002] rfl rfl ?_ rfl
      simp only [List.flatMap_nil, List.append_nil] at hinv
      subst hinv
      rfl

end Go.Fr.Try
