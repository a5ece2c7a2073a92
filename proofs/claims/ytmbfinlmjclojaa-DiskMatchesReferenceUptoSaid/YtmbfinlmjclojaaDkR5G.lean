/- Part of the proofs of the statements of this seat. -/
import Derived.Test.YtmbfinlmjclojaaDkM1G
import Derived.Test.YtmbfinlmjclojaaDkCode3
import Derived.RangeFuncNested
import Derived.RangeFuncBound
import Derived.RangeFuncCalls
import Derived.RangeFuncLeaves
import Derived.RangeFuncWrites
import Derived.WalkKit
import Derived.OwnWalkIn
import Derived.TacticsInMore
import Derived.LoopNIn
import Derived.LoopIn
/- Disk: Apply. -/
set_option linter.unusedVariables false
set_option linter.unusedSimpArgs false
namespace Go.Fr.Try
open Go Go.RowKit Go.Proofs Go.Fr Go.Fr.T
/-- a write of a list of writes -/
theorem wr_at {F : Frz} {L : Loc} {l : List Wri} {a : Option Addr} {n c k : Nat} {x : Wri} (h : Rel F L (.sl (l.map wrC)) (.slice a n c)) (hx : l[k]? = some x) :
    ∃ a' c', FCells F a (k * 2) [.int .i64 x.1, .slice a' x.2.length c'] ∧ Rel F [] (.sl (bcells x.2)) (.slice a' x.2.length c') ∧ a ≠ none ∧ k < n := by
  obtain ⟨vs, h1, h2, h3, h4, h5, h6⟩ := sl_at (k := k) (es := wrC x) (sz := 2) h (by rw [List.getElem?_map, hx]; rfl) rfl
  simp only [wrC, Rels] at h3
  obtain ⟨v1, _, rfl, h8, v, vs', rfl, h7, rfl⟩ := h3
  simp only [Rel] at h8
  obtain ⟨rfl, _⟩ := h8
  obtain ⟨a', c', rfl, _⟩ := sl_bytes h7
  exact ⟨a', c', h2, h7, h5, h6⟩
theorem tgt_get {o6 o8 o27 : Own} {R : List Own} (k : Nat) : Loc.get ((6, o6) :: (8, o8) :: (27, o27) :: inpFrom 2000 R) k = if k = 6 then some o6 else if k = 8 then some o8 else if k = 27 then some o27 else if 2000 ≤ k then R[k - 2000]? else none := by
  by_cases h6 : k = 6
  · subst h6; rfl
  by_cases h8 : k = 8
  · subst h8; rfl
  by_cases h27 : k = 27
  · subst h27; rfl
  have e : ∀ a, k ≠ a → Nat.beq a k = false := fun a h => by
    cases hb : Nat.beq a k with
    | false => rfl
    | true => exact absurd (Nat.eq_of_beq_eq_true hb).symm h
  simp only [Loc.get, e 6 h6, e 8 h8, e 27 h27, if_neg h6, if_neg h8, if_neg h27, inpFrom_get]
theorem givesRen {o6 o8 o27 new : Own} {rows : List Own} {L : Loc} (h6 : L.get 6 = some o6) (h8 : L.get 8 = some o8) (h27 : L.get 27 = some o27) (h41 : L.get 41 = some new) {R : List Own} (hr : ∀ j o, rows[j]? = some o → L.get (2000 + j) = some o) (hR : R = rows ++ [new]) :
    L.givesR ((6, o6) :: (8, o8) :: (27, o27) :: inpFrom 2000 R) := by
  subst hR
  refine ⟨fun k => if k = 2000 + rows.length then 41 else k, fun k o h => .inl ?_, fun k k' h h' e => ?_⟩
  · rw [tgt_get] at h
    by_cases hk : k = 2000 + rows.length
    · subst hk
      rw [if_neg (by omega), if_neg (by omega), if_neg (by omega), if_pos (by omega), Nat.add_sub_cancel_left, List.getElem?_append_right (Nat.le_refl _), Nat.sub_self] at h
      simp only [if_true, h41]
      simpa using h
    · simp only [hk, if_false]
      split at h
      · rename_i e; subst e; rw [h6]; exact h
      split at h
      · rename_i e; subst e; rw [h8]; exact h
      split at h
      · rename_i e; subst e; rw [h27]; exact h
      split at h
      · rename_i h2
        have hlt := (List.getElem?_eq_some_iff.1 h).1
        rw [List.length_append, List.length_singleton] at hlt
        rw [List.getElem?_append_left (by omega)] at h
        have := hr _ _ h
        rwa [show 2000 + (k - 2000) = k by omega] at this
      · cases h
  · have h41' : ∀ k, (Loc.get ((6, o6) :: (8, o8) :: (27, o27) :: inpFrom 2000 (rows ++ [new])) k).isSome = true → k ≠ 41 := by
      rintro k h rfl
      rw [tgt_get] at h
      simp at h
    have a := h41' k h
    have b := h41' k' h'
    simp only at e
    split at e <;> split at e <;> omega
theorem givesSame {o6 o8 o27 : Own} {rows : List Own} {L : Loc} (h6 : L.get 6 = some o6) (h8 : L.get 8 = some o8) (h27 : L.get 27 = some o27) (hr : ∀ j o, rows[j]? = some o → L.get (2000 + j) = some o) :
    L.givesR ((6, o6) :: (8, o8) :: (27, o27) :: inpFrom 2000 rows) := by
  refine ⟨id, fun k o h => .inl ?_, fun k k' _ _ e => e⟩
  rw [tgt_get] at h
  show L.get k = _
  split at h
  · rename_i e; subst e; rw [h6]; exact h
  split at h
  · rename_i e; subst e; rw [h8]; exact h
  split at h
  · rename_i e; subst e; rw [h27]; exact h
  split at h
  · rename_i h2
    have := hr _ _ h
    rwa [show 2000 + (k - 2000) = k by omega] at this
  · cases h
theorem take_snoc' {α : Type} {d : List α} {k : Nat} {x : α} (hx : d[k]? = some x) : d.take (k + 1) = d.take k ++ [x] := by rw [List.take_add_one, hx]; rfl
theorem rep_flat {n : Nat} {v : Value} : (List.replicate n [v]).flatten = List.replicate n v := by
  induction n with
  | zero => rfl
  | succ n ih => simp [List.replicate_succ, ih]
/-- the cell of a page is written -/
theorem pg_splice {G : List (Nat × Nat)} {gc : Nat × Nat} {k n : Nat} {u : Value} (h : G.length = k) (hk : k < n) : splice (G.map pgV ++ List.replicate (n - k) u) (k * 1 + 0) [pgV gc] = (G ++ [gc]).map pgV ++ List.replicate (n - (k + 1)) u := by
  subst h
  simp only [splice, Nat.mul_one, Nat.add_zero, List.map_append, List.map_cons, List.map_nil, List.length_singleton]
  rw [List.take_left' (by simp)]
  congr 1
  rw [List.drop_append]
  simp only [List.length_map, List.drop_replicate]
  rw [List.drop_of_length_le (by simp)]
  simp only [List.nil_append]
  congr 1
  omega
theorem pgRow_eq {g c : Nat} {x : List UInt8} (h : x.length = 256) : Own.row (.slice (some ⟨g, 0, none⟩) x.length c) 5 1 x.length (bvals x) = pgRow (g, c) x := by rw [h]; rfl
theorem pg_spliceE {G : List (Nat × Nat)} {g c : Nat} {k n : Nat} {u : Value} {x : List UInt8} (hx : x.length = 256) (h : G.length = k) (hk : k < n) : splice (G.map pgV ++ List.replicate (n - k) u) (k * 1 + 0) [.slice (some ⟨g, 0, none⟩) x.length c] = (G ++ [(g, c)]).map pgV ++ List.replicate (n - (k + 1)) u := by
  rw [hx]; exact pg_splice (gc := (g, c)) h hk
theorem keeps_rows {L' : Loc} : ∀ (G : List (Nat × Nat)) (ps : List (List UInt8)) (k : Nat), Loc.keeps (inpFrom k (pgRows G ps)) L'
  | [], _, _ => trivial
  | _ :: _, [], _ => trivial
  | g :: G, p :: ps, k => keeps_rows G ps (k + 1)
theorem sub_range {L : Loc} : ∀ {rows : List Own} {b : Nat}, (∀ j o, rows[j]? = some o → L.get (b + j) = some o) → L.sub (List.range' b rows.length) = some rows
  | [], b, _ => rfl
  | o :: rows, b, h => by
    have h0 := h 0 o rfl
    have h1 := sub_range (L := L) (rows := rows) (b := b + 1) fun j o hj => by
      have := h (j + 1) o (by simpa using hj)
      rwa [show b + (j + 1) = b + 1 + j by omega] at this
    simp only [List.length_cons, List.range'_succ, Loc.sub, Nat.add_zero] at h0 ⊢
    rw [h0, h1]
theorem sub_cons {L : Loc} {k : Nat} {ks : List Nat} {o : Own} {l : List Own} (h : L.get k = some o) (h2 : L.sub ks = some l) : L.sub (k :: ks) = some (o :: l) := by
  simp only [Loc.sub, h, h2]
theorem pg_set {G : List (Nat × Nat)} {ps : List (List UInt8)} {i : Nat} {q : List UInt8} {j : Nat} {o : Own} (h : (pgRows G (ps.set i q))[j]? = some o) : (j = i ∧ ∃ gc, G[j]? = some gc ∧ o = pgRow gc q) ∨ (j ≠ i ∧ (pgRows G ps)[j]? = some o) := by
  by_cases e : j = i
  · subst e
    left
    refine ⟨rfl, ?_⟩
    simp only [pgRows, List.getElem?_zipWith, List.getElem?_set] at h
    cases hg : G[j]? with
    | none => rw [hg] at h; simp at h
    | some gc =>
      rw [hg] at h
      by_cases hj : j < ps.length
      · simp [hj] at h
        exact ⟨gc, rfl, h.symm⟩
      · simp [hj] at h
  · right
    refine ⟨e, ?_⟩
    have e' : i ≠ j := fun h => e h.symm
    simpa [pgRows, List.getElem?_zipWith, List.getElem?_set, e'] using h
theorem tgt_row {o6 o8 o27 : Own} {R : List Own} {j : Nat} {o : Own} (h : R[j]? = some o) : Loc.get ((6, o6) :: (8, o8) :: (27, o27) :: inpFrom 2000 R) (2000 + j) = some o := by
  rw [tgt_get, if_neg (by omega), if_neg (by omega), if_neg (by omega), if_pos (by omega), Nat.add_sub_cancel_left]; exact h
theorem get12 {o6 o8 o12 o27 : Own} {R : List Own} {j : Nat} : Loc.get ((6, o6) :: (8, o8) :: (12, o12) :: (27, o27) :: inpFrom 2000 R) (2000 + j) = Loc.get ((6, o6) :: (8, o8) :: (27, o27) :: inpFrom 2000 R) (2000 + j) := by
  have e : Nat.beq 12 (2000 + j) = false := by
    cases hb : Nat.beq 12 (2000 + j) with
    | false => rfl
    | true => have := Nat.eq_of_beq_eq_true hb; omega
  simp only [Loc.get, e]
theorem cell_at {G : List (Nat × Nat)} {i : Nat} {gc : Nat × Nat} (h : G[i]? = some gc) : ∀ (j : Nat) (u : Value), ([pgV gc] : List Value)[j]? = some u → (G.map pgV)[i * 1 + j]? = some u := by
  intro j u hu
  cases j with
  | zero => simp only [List.getElem?_cons_zero, Option.some.injEq] at hu; subst hu; simp [h]
  | succ j => simp at hu
theorem pg_over {gc : Nat × Nat} {pg bs : List UInt8} (h : pg.length = 256) : Own.row (pgV gc) 5 1 256 (splice (bvals pg) (0 * 1) (bvals (bs.take (pg.length - 0)))) = pgRow gc (overlay pg 0 bs) := by
  rw [splice_overlay]; rfl
/-- whether a write is torn -/
theorem reg14 {F : Frz} {L : Loc} {ρ1 : Env} {K : Kont} (t : Int) (k n m c' : Nat) (a' : Option Addr) (hn : n ≤ 9223372036854775807)
    (hA : k + 1 = n → 0 ≤ t → t < m → ∀ ρ', K F L (puts [2, 6, 8, 12, 13, 46, 67] [.v (.int .i64 t), .own 6 0, .own 8 0, .own 12 0, .v (.slice a' m c'), .v (.int .i64 k), .v (.bool true)] ρ'))
    (hB : ¬ (k + 1 = n ∧ 0 ≤ t ∧ t < m) → ∀ ρ', K F L (puts [2, 6, 8, 12, 13, 46, 67] [.v (.int .i64 t), .own 6 0, .own 8 0, .own 12 0, .v (.slice a' m c'), .v (.int .i64 k), .v (.bool false)] ρ')) :
    evalOps Try.prog [.op (some 57) (.bin .eql (.t 53) (.t 56)) none, .op (some 58) (.mov (.t 57)) none, .op (some 59) (.mov (.t 2)) (some (58, true)), .op (some 60) (.bin .geq (.t 59) (.c (.int .i64 0))) (some (58, true)), .op (some 61) (.pick (.t 58) (.t 60) (.c (.bool false))) none, .op (some 62) (.mov (.t 61)) none, .op (some 63) (.mov (.t 2)) (some (62, true)), .op (some 64) (.mov (.t 13)) (some (62, true)), .op (some 65) (.len (.t 64)) (some (62, true)), .op (some 66) (.bin .lss (.t 63) (.t 65)) (some (62, true)), .op (some 67) (.pick (.t 62) (.t 66) (.c (.bool false))) none] F L (puts [2, 6, 8, 12, 13, 46, 53, 56] [.v (.int .i64 t), .own 6 0, .own 8 0, .own 12 0, .v (.slice a' m c'), .v (.int .i64 k), .v (.int .i64 k), .v (.int .i64 ((n : Int) - 1))] ρ1) K := by
  refine brn_p (fun h1 => ?_) (fun h1 => ?_)
  · refine brn_p (fun h2 => ?_) (fun h2 => ?_)
    · by_cases h3 : t < (m : Int)
      · refine normK [2, 6, 8, 12, 13, 46, 67] [.v (.int .i64 t), .own 6 0, .own 8 0, .own 12 0, .v (.slice a' m c'), .v (.int .i64 k), .v (.bool true)] ⟨rfl, rfl, rfl, rfl, rfl, rfl, congrArg (fun b => SV.v (.bool b)) (decide_eq_true h3), trivial⟩ (hA (by omega) h2 h3)
      · refine normK [2, 6, 8, 12, 13, 46, 67] [.v (.int .i64 t), .own 6 0, .own 8 0, .own 12 0, .v (.slice a' m c'), .v (.int .i64 k), .v (.bool false)] ⟨rfl, rfl, rfl, rfl, rfl, rfl, congrArg (fun b => SV.v (.bool b)) (decide_eq_false h3), trivial⟩ (hB (by omega))
    · refine normK [2, 6, 8, 12, 13, 46, 67] [.v (.int .i64 t), .own 6 0, .own 8 0, .own 12 0, .v (.slice a' m c'), .v (.int .i64 k), .v (.bool false)] ⟨rfl, rfl, rfl, rfl, rfl, rfl, rfl, trivial⟩ (hB (by omega))
  · refine normK [2, 6, 8, 12, 13, 46, 67] [.v (.int .i64 t), .own 6 0, .own 8 0, .own 12 0, .v (.slice a' m c'), .v (.int .i64 k), .v (.bool false)] ⟨rfl, rfl, rfl, rfl, rfl, rfl, rfl, trivial⟩ (hB (by omega))
/-- what Apply hands back before its rows are given up -/
def ApplyR (ps : List (List UInt8)) : Frz → List Own → Value → Prop := fun F Lo v => ∃ ac : Nat × Nat, ∃ G : List (Nat × Nat), G.length = ps.length ∧
  Lo = .row (.slice (some ⟨ac.1, 0, none⟩) ps.length ac.2) 28 1 ps.length (G.map pgV) :: pgRows G ps ∧ v = .agg #[.slice (some ⟨ac.1, 0, none⟩) ps.length ac.2]
set_option maxRecDepth 10000 in
theorem a19 (d : List (List UInt8)) (l : List Wri) (t : Int) (hv : validD d = true) (hb : l.any (badW d) = false) (F : Frz) (vs : List Value) (hr : Rels F (inp []) [.agg (diskC d), .sl (l.map wrC), IC t] vs) :
    CallsA Try.prog 19 vs.toArray F [] (ApplyR (applyAll d (cutL l t))) := by
  have h35 := t35 d
  have h52 := t52 l 51 (diskC d) 0 (badW d) (fun w _ => t51 d w)
  rw [hv] at h35
  rw [hb] at h52
  obtain ⟨hd1, hd2, hpl⟩ := validD_iff.1 hv
  have hbw := badW_any hb
  simp only [Rels] at hr
  obtain ⟨v0, _, rfl, hv0, v1, _, rfl, hv1, v2, _, rfl, hv2, rfl⟩ := hr
  have hv0' := hv0
  simp only [Rel, diskC, Rels] at hv0'
  obtain ⟨cs, rfl, c0, _, rfl, hc0, rfl⟩ := hv0'
  have hc0 : Rel F [] (.sl (d.map pgC)) c0 := by simp only [Rel]; exact hc0
  obtain ⟨a0, cc0, rfl, hca, hcm, hcn⟩ := sl_form hc0
  obtain ⟨a1, cc1, rfl, hla, hlm, hln⟩ := sl_form hv1
  simp only [Rel] at hv2
  obtain ⟨rfl, hwt⟩ := hv2
  have hN : (d.map pgC).length = d.length := List.length_map _
  have hM : (l.map wrC).length = l.length := List.length_map _
  rw [hN] at hca hcm hc0 hv0 ⊢
  rw [hM] at hla hlm hv1 ⊢
  refine callsA2_facts (svs := [_, _, _]) rfl facts19 rfl rfl (vals_own [_, _, _]) ?_ ?_
  · rintro F1 G L v hle ⟨ac, gs, h1, h2, h3⟩; exact ⟨ac, gs, h1, h2, h3⟩
  intro g3 F1 hle1 hg3 g6
  have hg3 : F1 g3 = some (.cells [Value.slice a0 d.length cc0].toArray 24 (0, 0)) := hg3
  have hb3 : FCells F1 (some ⟨g3, 0, none⟩) 0 [.slice a0 d.length cc0] := lit_cells hg3
  refine LoadPt.mk ⟨[.slice a0 d.length cc0], rfl, .inl hb3, ?_⟩
  refine callTBool h35 ⟨_, _, rfl, hv0.mono hle1, rfl⟩ fun F2 hle2 => ?_
  have hfn : Rel F2 (inp []) (.fn 51 [] [.pt (diskC d) 0]) (.func (.func 51) #[] #[.pointer (some ⟨g3, 0, none⟩)]) := by
    have e02 := Frz.le_trans hle1 hle2
    have hc2 := hc0.mono e02
    simp only [Rel, Rels, diskC] at hc2 ⊢
    refine ⟨[], [_], rfl, rfl, _, _, rfl, ⟨g3, 0, [.slice a0 d.length cc0], rfl, ⟨0, _, _, _, hle2 _ _ hg3, rfl, fun i v hi => by simpa using hi⟩, rfl, _, _, rfl, hc2, rfl⟩, rfl⟩
  refine callTBool h52 ⟨_, _, rfl, hv1.mono (Frz.le_trans hle1 hle2), _, _, rfl, hfn, rfl⟩ fun F3 hle3 => ?_
  have e03 : F.le F3 := Frz.le_trans (Frz.le_trans hle1 hle2) hle3
  have e13 : F1.le F3 := Frz.le_trans hle2 hle3
  refine LoadPt.mk ⟨[.slice a0 d.length cc0], rfl, .inl (hb3.mono e13), ?_⟩
  refine MakePt.mk (by omega) rfl (by omega) (by simp only [maxLen]; omega) ?_
  intro g27 g8
  refine LoadPt.mk ⟨[.slice a0 d.length cc0], rfl, .inl (hb3.mono e13), ?_⟩
  refine loopNU d.length 32 [1, 2, 6, 8, 30, 31] [.v (.slice a1 l.length cc1), .v (.int .i64 t), .own 6 0, .own 8 0, .v (.slice a0 d.length cc0), .v (.int .i64 d.length)] ⟨rfl, rfl, rfl, rfl, rfl, rfl, trivial⟩ rfl [] ([] : List (Nat × Nat)) (fun _ _ => [])
    (fun k G => (6, .box g6 24 [.slice none 0 0]) :: (8, .box g8 24 [.slice (some ⟨g27, 0, none⟩) d.length d.length]) :: (27, .row (.slice (some ⟨g27, 0, none⟩) d.length d.length) 28 1 d.length (G.map pgV ++ List.replicate (d.length - k) (.slice none 0 0))) :: inpFrom 2000 (pgRows G (d.take k)))
    (fun k G F => G.length = k) rfl rfl trivial ?_ (fun _ _ => ⟨⟨_, rfl⟩, ⟨_, rfl⟩, trivial⟩) ?_
  · exact givesR_of ⟨.inl rfl, .inl rfl, .inl (congrArg (fun xs => some (Own.row (.slice (some ⟨g27, 0, none⟩) d.length d.length) 28 1 d.length xs)) rep_flat), trivial⟩
  intro k G F4 jk hle4 hk hG hre
  refine brn_p (fun hlt => ?_) (fun hge => ?_)
  · have hlt : k < d.length := by omega
    refine withGet hlt fun x hx hxm => ?_
    have hxl := hpl _ hxm
    have hA := pg_at (hc0.mono (Frz.le_trans e03 hle4)) hx
    have htk := take_snoc' hx
    refine exE hA fun a' hA => exE hA fun c' hA => ?_
    refine IdxPt.mk hA.2.2.1 (by omega) (by omega) ?_
    refine LoadPt.mk ⟨_, rfl, .inl hA.1, ?_⟩
    refine callTBRowD 41 (t53 _ (by omega)) ⟨_, _, rfl, hA.2.1.lift, rfl⟩ ?_ (by omega) fun g c F5 hle5 hm5 hc5 hre5 => ?_
    · rw [tgt_get]; rfl
    refine IdxPt.mk (by simp) (by omega) (by omega) ?_
    have hlen27 : (G.map pgV ++ List.replicate (d.length - k) (Value.slice none 0 0)).length = d.length := by simp [hG]; omega
    refine StorePt.mk ⟨27, .slice (some ⟨g27, 0, none⟩) d.length d.length, 28, 1, d.length, G.map pgV ++ List.replicate (d.length - k) (Value.slice none 0 0), ⟨g27, 0, none⟩, d.length, ?_, rfl, rfl, ?_, ?_, ?_⟩
    · rw [Loc.get_set, if_neg (by decide), tgt_get]; rfl
    · show (k : Int).toNat * 1 + 0 + 1 ≤ _
      rw [hlen27]; omega
    · intro u hu; cases hu with | head => rfl | tail _ h => cases h
    intro hre27
    refine Fit.in64 (by omega) (by omega) ?_
    refine ⟨(k + 1, G ++ [(g, c)]), ⟨hlt, by simp [hG]⟩, ⟨rfl, trivial⟩, ?_, nextM hlt⟩
    refine givesRen (rows := pgRows G (d.take k)) (new := pgRow (g, c) x) ?_ ?_ ?_ ?_ ?_ ?_
    · rw [Loc.get_set, if_neg (by decide), Loc.get_set, if_neg (by decide), tgt_get]; rfl
    · rw [Loc.get_set, if_neg (by decide), Loc.get_set, if_neg (by decide), tgt_get]; rfl
    · rw [Loc.get_set, if_pos rfl]
      exact congrArg (fun xs => some (Own.row (.slice (some ⟨g27, 0, none⟩) d.length d.length) 28 1 d.length xs)) (pg_spliceE hxl hG hlt)
    · rw [Loc.get_set, if_neg (by decide), Loc.get_set, if_pos rfl]
      exact congrArg some (pgRow_eq hxl)
    · intro j o hj
      rw [Loc.get_set, if_neg (by omega), Loc.get_set, if_neg (by omega), tgt_get, if_neg (by omega), if_neg (by omega), if_neg (by omega), if_pos (by omega), Nat.add_sub_cancel_left]
      exact hj
    · show pgRows (G ++ [(g, c)]) (d.take (k + 1)) = _
      rw [htk, pgRows_snoc (by rw [hG, List.length_take]; omega)]
  · have hk' : k = d.length := by omega
    have hGn : G.length = d.length := by omega
    have htd : d.take k = d := by rw [hk', List.take_length]
    have hget0 : ∀ w k, l[k]? = some w → (cutL l t)[k]? = some (w.1, if k + 1 = l.length then cutT w.2 t else w.2) := fun w k h => cutL_get l t k w h
    have hVl : ∀ k, (applyAll d ((cutL l t).take k)).length = d.length := fun k => applyAll_len _ _
    have hVp : ∀ k, ∀ p ∈ applyAll d ((cutL l t).take k), p.length = 256 := fun k => applyAll_page _ _ hpl
    have hVs : ∀ k w, (cutL l t)[k]? = some w → applyAll d ((cutL l t).take (k + 1)) = setP (applyAll d ((cutL l t).take k)) w := fun k w h => applyAll_snoc h
    have hV0 : applyAll d ((cutL l t).take 0) = d := rfl
    have hVe : applyAll d ((cutL l t).take l.length) = applyAll d (cutL l t) := by rw [← cutL_len l t, List.take_length]
    generalize cutL l t = cl at hget0 hVl hVp hVs hV0 hVe ⊢
    refine loopNU l.length 46 [1, 2, 6, 8, 44, 45] [.v (.slice a1 l.length cc1), .v (.int .i64 t), .own 6 0, .own 8 0, .v (.slice a1 l.length cc1), .v (.int .i64 l.length)] ⟨rfl, rfl, rfl, rfl, rfl, rfl, trivial⟩ rfl [] () (fun _ _ => [])
      (fun k _ => (6, .box g6 24 [.slice none 0 0]) :: (8, .box g8 24 [.slice (some ⟨g27, 0, none⟩) d.length d.length]) :: (27, .row (.slice (some ⟨g27, 0, none⟩) d.length d.length) 28 1 d.length (G.map pgV)) :: inpFrom 2000 (pgRows G (applyAll d (cl.take k))))
      (fun _ _ _ => True) trivial rfl trivial ?_ (fun _ _ => ⟨⟨_, rfl⟩, ⟨_, rfl⟩, keeps_rows _ _ _⟩) ?_
    · refine givesSame rfl rfl ?_ ?_
      · exact congrArg (fun xs => some (Own.row (.slice (some ⟨g27, 0, none⟩) d.length d.length) 28 1 d.length xs)) (by rw [hk', Nat.sub_self]; simp)
      · intro j o hj
        rw [tgt_get, if_neg (by omega), if_neg (by omega), if_neg (by omega), if_pos (by omega), Nat.add_sub_cancel_left, htd]
        rwa [hV0] at hj
    intro k _ F5 jk hle5 hk _ hre
    refine brn_p (fun hlt => ?_) (fun hge => ?_)
    · have hlt : k < l.length := by omega
      refine withGet hlt fun w hw hwm => ?_
      have hA := wr_at ((hv1.mono (Frz.le_trans (Frz.le_trans e03 hle4) hle5))) hw
      obtain ⟨hw1, hw2, hw3⟩ := hbw w hwm
      refine exE hA fun a' hA => exE hA fun c' hA => ?_
      refine IdxPt.mk hA.2.2.1 (by omega) (by omega) ?_
      refine LoadPt.mk ⟨_, rfl, .inl hA.1, ?_⟩
      refine matchNone (o := Loc.get ((6, .box g6 24 [.slice none 0 0]) :: (8, .box g8 24 [.slice (some ⟨g27, 0, none⟩) d.length d.length]) :: (27, .row (.slice (some ⟨g27, 0, none⟩) d.length d.length) 28 1 d.length (G.map pgV)) :: inpFrom 2000 (pgRows G (applyAll d (cl.take k)))) 12) ?_ ?_
      · rw [tgt_get]; rfl
      intro g12
      have hrw := hA.2.1
      have hcc := sl_cap hrw
      have hlm' : l.length ≤ 9223372036854775807 := by simp only [maxLen] at hlm; omega
      refine Fit.in64 (by omega) (by omega) ?_
      refine norm Try.prog ((6, .box g6 24 [.slice none 0 0]) :: (8, .box g8 24 [.slice (some ⟨g27, 0, none⟩) d.length d.length]) :: (12, .box g12 52 [.int .i64 w.1, .slice a' w.2.length c']) :: (27, .row (.slice (some ⟨g27, 0, none⟩) d.length d.length) 28 1 d.length (G.map pgV)) :: inpFrom 2000 (pgRows G (applyAll d (cl.take k)))) rfl
        [2, 6, 8, 12, 13, 46, 53, 56] [.v (.int .i64 t), .own 6 0, .own 8 0, .own 12 0, .v (.slice a' w.2.length c'), .v (.int .i64 k), .v (.int .i64 k), .v (.int .i64 ((l.length : Int) - 1))] ⟨rfl, rfl, rfl, rfl, rfl, rfl, rfl, rfl, trivial⟩ fun ρ1 => ?_
      refine reg14 t k l.length w.2.length c' a' hlm' ?_ ?_
      · intro h1 h2 h3 ρ2
        refine SlcPt.mk (by omega) (by omega) (by omega) ?_
        have hrs := rel_slc (L' := []) hrw (l := (0 : Int).toNat) (h := t.toNat) (by simp) (by omega)
        have hB : (if k + 1 = l.length then cutT w.2 t else w.2) = (w.2.drop (0 : Int).toNat).take (t.toNat - (0 : Int).toNat) := by
          rw [if_pos (by omega), cutT, if_pos ⟨h2, h3⟩]; rfl
        have hBl : ((w.2.drop (0 : Int).toNat).take (t.toNat - (0 : Int).toNat)).length = t.toNat := by
          rw [List.length_take, List.length_drop]; simp; omega
        have hcl := hget0 w k hw
        rw [hB] at hcl
        have hVs1 := hVs k _ hcl
        have hpi : w.1.toNat < (applyAll d (cl.take k)).length := by rw [hVl]; omega
        refine withGet hpi fun pg hpg hpgm => ?_
        have hpgl := hVp k pg hpgm
        have hgi : w.1.toNat < G.length := by omega
        refine withGet hgi fun gc hgc _ => ?_
        have hrow := pgRows_get hgc hpg
        refine IdxPt.mk (by simp) hw1 (by omega) ?_
        refine LoadPt.mk ⟨[pgV gc], rfl, .inr (.inl ⟨27, .slice (some ⟨g27, 0, none⟩) d.length d.length, 28, 1, d.length, G.map pgV, ⟨g27, 0, none⟩, d.length, rfl, rfl, rfl, cell_at hgc⟩), ?_⟩
        refine CopyPt.mk ⟨2000 + w.1.toNat, 256, pgV gc, 256, bvals pg, ⟨gc.1, 0, none⟩, gc.2, gc.2, 0, _, _, _, bvals (((w.2.drop (0 : Int).toNat).take (t.toNat - (0 : Int).toNat)).take (pg.length - 0)), ?_, rfl, rfl, by omega, rfl, ?_, ?_, bvals_ones _, ?_⟩
        · exact get12.trans (tgt_row hrow)
        · rw [bvals_len, List.length_take, hpgl]; rw [hBl]; show _ = min (t.toNat - 0) 256 * 1; omega
        · exact (src_bytes hrs).imp (fun h => bvals_take ▸ fcells_take h) (fun h => ⟨by have := h.1; show min (t.toNat - 0) 256 = 0; omega, by rw [bvals_take, h.2]; simp⟩)
        refine Fit.in64 (by omega) (by omega) ?_
        refine ⟨(k + 1, ()), ⟨hlt, trivial⟩, ⟨rfl, trivial⟩, ?_, nextM hlt⟩
        refine givesSame ?_ ?_ ?_ ?_
        · exact ((Loc.get_set _ _ _ _).trans (if_neg (by omega))).trans rfl
        · exact ((Loc.get_set _ _ _ _).trans (if_neg (by omega))).trans rfl
        · exact ((Loc.get_set _ _ _ _).trans (if_neg (by omega))).trans rfl
        · intro j o hj
          rw [hVs1, setP_get (w := (w.1, (w.2.drop (0 : Int).toNat).take (t.toNat - (0 : Int).toNat))) hpg] at hj
          rcases pg_set hj with ⟨rfl, gc', e1, rfl⟩ | ⟨hne, hj⟩
          · rw [hgc] at e1
            injection e1 with e1
            subst e1
            refine ((Loc.get_set _ _ _ _).trans (if_pos rfl)).trans ?_
            exact congrArg some (pg_over hpgl)
          · exact ((Loc.get_set _ _ _ _).trans (if_neg (by omega))).trans (get12.trans (tgt_row hj))
      · intro h1 ρ2
        have hB : (if k + 1 = l.length then cutT w.2 t else w.2) = w.2 := by
          split
          · rw [cutT, if_neg (by omega)]
          · rfl
        have hcl := hget0 w k hw
        rw [hB] at hcl
        have hVs1 := hVs k _ hcl
        have hpi : w.1.toNat < (applyAll d (cl.take k)).length := by rw [hVl]; omega
        refine withGet hpi fun pg hpg hpgm => ?_
        have hpgl := hVp k pg hpgm
        have hgi : w.1.toNat < G.length := by omega
        refine withGet hgi fun gc hgc _ => ?_
        have hrow := pgRows_get hgc hpg
        refine IdxPt.mk (by simp) hw1 (by omega) ?_
        refine LoadPt.mk ⟨[pgV gc], rfl, .inr (.inl ⟨27, .slice (some ⟨g27, 0, none⟩) d.length d.length, 28, 1, d.length, G.map pgV, ⟨g27, 0, none⟩, d.length, rfl, rfl, rfl, cell_at hgc⟩), ?_⟩
        refine CopyPt.mk ⟨2000 + w.1.toNat, 256, pgV gc, 256, bvals pg, ⟨gc.1, 0, none⟩, gc.2, gc.2, 0, _, _, _, bvals (w.2.take (pg.length - 0)), ?_, rfl, rfl, by omega, rfl, ?_, ?_, bvals_ones _, ?_⟩
        · exact get12.trans (tgt_row hrow)
        · rw [bvals_len, List.length_take, hpgl]; omega
        · exact (src_bytes hrw).imp (fun h => bvals_take ▸ fcells_take h) (fun h => ⟨by omega, by rw [bvals_take, h.2]; simp⟩)
        refine Fit.in64 (by omega) (by omega) ?_
        refine ⟨(k + 1, ()), ⟨hlt, trivial⟩, ⟨rfl, trivial⟩, ?_, nextM hlt⟩
        refine givesSame ?_ ?_ ?_ ?_
        · exact ((Loc.get_set _ _ _ _).trans (if_neg (by omega))).trans rfl
        · exact ((Loc.get_set _ _ _ _).trans (if_neg (by omega))).trans rfl
        · exact ((Loc.get_set _ _ _ _).trans (if_neg (by omega))).trans rfl
        · intro j o hj
          rw [hVs1, setP_get (w := (w.1, w.2)) hpg] at hj
          rcases pg_set hj with ⟨rfl, gc', e1, rfl⟩ | ⟨hne, hj⟩
          · rw [hgc] at e1
            injection e1 with e1
            subst e1
            refine ((Loc.get_set _ _ _ _).trans (if_pos rfl)).trans ?_
            exact congrArg some (pg_over hpgl)
          · exact ((Loc.get_set _ _ _ _).trans (if_neg (by omega))).trans (get12.trans (tgt_row hj))
    · have hk2 : k = l.length := by omega
      have hVk : applyAll d (cl.take k) = applyAll d cl := by rw [hk2, hVe]
      have hle : (applyAll d cl).length = d.length := applyAll_len _ _
      have hpl2 : (pgRows G (applyAll d (cl.take k))).length = d.length := by rw [pgRows_len (by rw [hVk, hle, hGn]), hVk, hle]
      have hrg := real_row (k := 27) hre rfl
      refine RetPt.mk ⟨27 :: List.range' 2000 d.length, .row (.slice (some ⟨g27, 0, none⟩) d.length d.length) 28 1 d.length (G.map pgV) :: pgRows G (applyAll d (cl.take k)), ?_, ?_, (g27, d.length), G, ?_, ?_, ?_⟩
      · refine sub_cons rfl ?_
        rw [← hpl2]
        refine sub_range fun j o hj => ?_
        exact tgt_row hj
      · refine List.nodup_cons.2 ⟨fun h => ?_, List.nodup_range'⟩
        have := List.mem_range'_1.1 h
        omega
      · rw [hle, hGn]
      · rw [hVk, hle]
      · rw [hle]; rfl
end Go.Fr.Try

/- Disk: Apply's contract. -/
set_option linter.unusedVariables false
set_option linter.unusedSimpArgs false
namespace Go.Fr.Try
open Go Go.RowKit Go.Proofs Go.Fr Go.Fr.T
theorem relRow_pages {F : Frz} : ∀ {G : List (Nat × Nat)} {ps : List (List UInt8)}, G.length = ps.length → (∀ (j : Nat) gc p, G[j]? = some gc → ps[j]? = some p → Rel F [] (.sl (bcells p)) (pgV gc)) → RelRow F 1 (ps.map pgC) (G.map pgV)
  | [], [], _, _ => by simp [RelRow]
  | gc :: G, p :: ps, h, k => by
    simp only [List.map_cons, RelRow, pgC]
    refine ⟨[pgV gc], _, rfl, rfl, rfl, ?_, relRow_pages (by simpa using h) fun j gc' p' h1 h2 => k (j + 1) gc' p' (by simpa using h1) (by simpa using h2)⟩
    simp only [Rels]
    exact ⟨_, _, rfl, k 0 gc p rfl rfl, rfl⟩
  | [], _ :: _, h, _ => by simp at h
  | _ :: _, [], h, _ => by simp at h
theorem agg_disk {F : Frz} {L : Loc} {d : List (List UInt8)} {v : Value} (h : Rel F [] (.sl (d.map pgC)) v) : Rel F L (.agg (diskC d)) (.agg #[v]) := by
  simp only [Rel, Rels, diskC] at h ⊢
  exact ⟨[_], rfl, _, _, rfl, h, rfl⟩
theorem applyR_rel {F : Frz} {w : World} {ps : List (List UInt8)} {Lo : List Own} {v : Value} (hpl : ∀ p ∈ ps, p.length = 256) (hm : ps.length ≤ maxLen) (hs : St F (inp Lo) w) (h : ApplyR ps F Lo v) :
    ∃ F2, St F2 [] w ∧ Step F (inp Lo) w F2 [] w ∧ Rel F2 (inp []) (.agg (diskC ps)) v := by
  obtain ⟨ac, G, hG, rfl, rfl⟩ := h
  have hmem : ∀ (j : Nat) gc p, G[j]? = some gc → ps[j]? = some p → pgRow gc p ∈ pgRows G ps := fun j gc p h1 h2 => List.mem_of_getElem? (pgRows_get h1 h2)
  obtain ⟨F2, h1, h2, h3, h4⟩ := freezeAll hs (by
    intro o ho
    rcases List.mem_cons.1 ho with rfl | ho
    · exact ⟨_, _, _, _, _, rfl⟩
    · simp only [pgRows] at ho
      obtain ⟨i, hi⟩ := List.getElem?_of_mem ho
      simp only [List.getElem?_zipWith] at hi
      cases e1 : G[i]? <;> cases e2 : ps[i]? <;> rw [e1, e2] at hi <;> simp at hi
      subst hi
      exact ⟨_, _, _, _, _, rfl⟩)
  refine ⟨F2, h2, h3, ?_⟩
  have hp : ∀ (j : Nat) gc p, G[j]? = some gc → ps[j]? = some p → Rel F2 [] (.sl (bcells p)) (pgV gc) := by
    intro j gc p e1 e2
    have hl := hpl p (List.mem_of_getElem? e2)
    have hf := h4 (pgV gc) 5 1 256 (bvals p) (List.mem_cons_of_mem _ (hmem j gc p e1 e2))
    rw [← hl] at hf
    have := frow_bytes (L := []) hf (by rw [hl]; simp [maxLen])
    exact this
  have hr := relRow_pages hG hp
  have hf := frow_rel (L := []) (h4 _ 28 1 ps.length (G.map pgV) (List.mem_cons_self ..)) hr (by simp) hm
  exact agg_disk hf
set_option maxRecDepth 10000 in
theorem n19 (d : List (List UInt8)) (l : List Wri) (t : Int) (hv : (validD d && !(l.any (badW d))) = false) (F : Frz) (vs : List Value) (hr : Rels F (inp []) [.agg (diskC d), .sl (l.map wrC), IC t] vs) :
    CallsA Try.prog 19 vs.toArray F [] (ResA [] (Ret [] (.agg (diskC [])))) := by
  have h35 := t35 d
  have h52 := t52 l 51 (diskC d) 0 (badW d) (fun w _ => t51 d w)
  simp only [Rels] at hr
  obtain ⟨v0, _, rfl, hv0, v1, _, rfl, hv1, v2, _, rfl, hv2, rfl⟩ := hr
  have hv0' := hv0
  simp only [Rel, diskC, Rels] at hv0'
  obtain ⟨cs, rfl, c0, _, rfl, hc0, rfl⟩ := hv0'
  have hc0 : Rel F [] (.sl (d.map pgC)) c0 := by simp only [Rel]; exact hc0
  obtain ⟨a0, cc0, rfl, hca, hcm, hcn⟩ := sl_form hc0
  obtain ⟨a1, cc1, rfl, hla, hlm, hln⟩ := sl_form hv1
  simp only [Rel] at hv2
  obtain ⟨rfl, hwt⟩ := hv2
  have hN : (d.map pgC).length = d.length := List.length_map _
  rw [hN] at hca hcm hc0 hv0 ⊢
  have hnil : ∀ {F : Frz}, Rel F (inp []) (.agg (diskC [])) (.agg #[.slice none 0 0]) := by
    intro F
    exact agg_disk (d := []) nil_sl
  generalize validD d = b1 at h35 hv
  generalize l.any (badW d) = b2 at h52 hv
  refine callsA2_facts (svs := [_, _, _]) rfl facts19 rfl rfl (vals_own [_, _, _]) ResA.mono' ?_
  intro g3 F1 hle1 hg3 g6
  have hg3 : F1 g3 = some (.cells [Value.slice a0 d.length cc0].toArray 24 (0, 0)) := hg3
  have hb3 : FCells F1 (some ⟨g3, 0, none⟩) 0 [.slice a0 d.length cc0] := lit_cells hg3
  refine LoadPt.mk ⟨[.slice a0 d.length cc0], rfl, .inl hb3, ?_⟩
  refine callTBool h35 ⟨_, _, rfl, hv0.mono hle1, rfl⟩ fun F2 hle2 => ?_
  refine brn_split (fun hb => ?_) (fun hb => ?_)
  · exact ⟨[], [], rfl, .nil, resVal' rfl hnil⟩
  have hfn : Rel F2 (inp []) (.fn 51 [] [.pt (diskC d) 0]) (.func (.func 51) #[] #[.pointer (some ⟨g3, 0, none⟩)]) := by
    have e02 := Frz.le_trans hle1 hle2
    have hc2 := hc0.mono e02
    simp only [Rel, Rels, diskC] at hc2 ⊢
    refine ⟨[], [_], rfl, rfl, _, _, rfl, ⟨g3, 0, [.slice a0 d.length cc0], rfl, ⟨0, _, _, _, hle2 _ _ hg3, rfl, fun i v hi => by simpa using hi⟩, rfl, _, _, rfl, hc2, rfl⟩, rfl⟩
  refine callTBool h52 ⟨_, _, rfl, hv1.mono (Frz.le_trans hle1 hle2), _, _, rfl, hfn, rfl⟩ fun F3 hle3 => ?_
  refine brn_split (fun hb2 => ?_) (fun hb2 => ?_)
  · exact ⟨[], [], rfl, .nil, resVal' rfl hnil⟩
  · exact absurd hv (by rw [hb2]; cases b1 <;> simp at hb ⊢)
theorem t19 (d : List (List UInt8)) (l : List Wri) (t : Int) : CallsT Try.prog 19 [.agg (diskC d), .sl (l.map wrC), IC t] [] (Ret [] (.agg (diskC (applyD d l t)))) := by
  refine ⟨fun F Li vs hl0 ht hr => ?_⟩
  have hLi : Li = [] := List.length_eq_zero_iff.1 hl0
  subst hLi
  by_cases hv : (validD d && !(l.any (badW d))) = true
  · have e : applyD d l t = applyAll d (cutL l t) := by unfold applyD; rw [if_pos hv]
    rw [e]
    simp only [Bool.and_eq_true, Bool.not_eq_true'] at hv
    have h := a19 d l t hv.1 hv.2 F vs hr
    have hd := validD_iff.1 hv.1
    refine ⟨h.ent, ResA.mono', fun w hs => Calls.mono (h.run w hs) ?_⟩
    rintro e w' ⟨v, F', Lo, rfl, h1, h2, h3⟩
    obtain ⟨F2, g1, g2, g3⟩ := applyR_rel (applyAll_page _ _ hd.2.2) (by rw [applyAll_len]; simp only [maxLen]; omega) h1 h3
    exact ⟨v, F2, [], rfl, g1, h2.trans g2, resVal' rfl g3⟩
  · have hv : (validD d && !(l.any (badW d))) = false := by simpa using hv
    have e : applyD d l t = [] := by unfold applyD; rw [hv]; rfl
    rw [e]
    exact n19 d l t hv F vs hr
end Go.Fr.Try

/- Disk: the iterator over the frames of a space. -/
set_option linter.unusedVariables false
set_option linter.unusedSimpArgs false
namespace Go.Fr.Try
open Go Go.RowKit Go.Proofs Go.Fr Go.Fr.T
/-- where records begin and end -/
def itemsL : Nat → List (List UInt8) → List (Nat × Nat)
  | _, [] => []
  | k, r :: rs => (k + 3, k + 3 + r.length) :: itemsL (k + 3 + r.length) rs
def items (s : List UInt8) (k : Nat) : List (Nat × Nat) := itemsL k (parse (s.drop k)).1
def partB (s : List UInt8) (i : Nat × Nat) : List UInt8 := (s.drop i.1).take (i.2 - i.1)
theorem items_hit {s : List UInt8} {k : Nat} {a b : UInt8} (h0 : s[k]? = some 1) (h1 : s[k + 1]? = some a) (h2 : s[k + 2]? = some b) (h : k + 3 + (a.toNat * 256 + b.toNat) ≤ s.length) :
    items s k = (k + 3, k + 3 + (a.toNat * 256 + b.toNat)) :: items s (k + 3 + (a.toNat * 256 + b.toNat)) := by
  have e : ((s.drop (k + 3)).take (a.toNat * 256 + b.toNat)).length = a.toNat * 256 + b.toNat := by rw [List.length_take, List.length_drop]; omega
  unfold items
  rw [parse_hit h0 h1 h2 h]
  simp only [itemsL, e]
theorem items_over {s : List UInt8} {k : Nat} {a b : UInt8} (h0 : s[k]? = some 1) (h1 : s[k + 1]? = some a) (h2 : s[k + 2]? = some b) (h : ¬ k + 3 + (a.toNat * 256 + b.toNat) ≤ s.length) : items s k = [] := by
  unfold items; rw [parse_over h0 h1 h2 h]; rfl
theorem items_miss {s : List UInt8} {k : Nat} {f : UInt8} (h0 : s[k]? = some f) (h1 : k + 3 ≤ s.length) (h : f ≠ 1) : items s k = [] := by
  unfold items; rw [parse_miss h0 h1 h]; rfl
theorem items_end {s : List UInt8} {k : Nat} (h1 : ¬ k + 3 ≤ s.length) : items s k = [] := by
  unfold items; rw [parse_end h1]; rfl
/-- the records, and where they end -/
theorem items_parse {s : List UInt8} : ∀ {n k : Nat}, s.length - k ≤ n → k ≤ s.length → (items s k).map (partB s) = (parse (s.drop k)).1 ∧ (items s k).foldl (fun _ i => i.2) k = k + (parse (s.drop k)).2 ∧ ∀ i ∈ items s k, i.1 ≤ i.2 ∧ i.2 ≤ s.length := by
  intro n
  induction n with
  | zero =>
    intro k h hk
    have : ¬ k + 3 ≤ s.length := by omega
    rw [items_end this, parse_end this]
    simp
  | succ n ih =>
    intro k h hk
    by_cases h3 : k + 3 ≤ s.length
    · have e0 : s[k]? = some s[k] := List.getElem?_eq_getElem (by omega)
      have e1 : s[k + 1]? = some s[k + 1] := List.getElem?_eq_getElem (by omega)
      have e2 : s[k + 2]? = some s[k + 2] := List.getElem?_eq_getElem (by omega)
      by_cases hf : s[k] = 1
      · rw [hf] at e0
        by_cases ho : k + 3 + (s[k + 1].toNat * 256 + s[k + 2].toNat) ≤ s.length
        · obtain ⟨i1, i2, i3⟩ := ih (k := k + 3 + (s[k + 1].toNat * 256 + s[k + 2].toNat)) (by omega) ho
          rw [items_hit e0 e1 e2 ho, parse_hit e0 e1 e2 ho]
          refine ⟨?_, ?_, ?_⟩
          · rw [List.map_cons, i1]
            congr 1
            simp only [partB, Nat.add_sub_cancel_left]
          · rw [List.foldl_cons, i2]
            simp only
            omega
          · intro i hi
            rcases List.mem_cons.1 hi with rfl | hi
            · exact ⟨by simp, ho⟩
            · exact i3 i hi
        · rw [items_over e0 e1 e2 ho, parse_over e0 e1 e2 ho]; simp
      · rw [items_miss e0 h3 hf, parse_miss e0 h3 hf]; simp
    · rw [items_end h3, parse_end h3]; simp
/-- a number of two bytes, in a part of the space -/
theorem val2 {F : Frz} {W : World} {b off c : Nat} {x y : UInt8} (hs : St F [] W) (hr : Rel F [] (.sl (bcells [x, y])) (.slice (some ⟨b, off, none⟩) 2 c)) :
    Calls Try.prog 56 #[.slice (some ⟨b, off, none⟩) 2 c] W fun e W' => e = .returned (.int .i64 ((x.toNat * 256 + y.toNat : Nat) : Int)) ∧ W.grownBy W' none ∧ St F [] W' := by
  have h56 := t56 [x, y] (by simp)
  refine Calls.mono ((valA (F := F) (vs := [.slice (some ⟨b, off, none⟩) 2 c]) h56 ⟨_, _, rfl, hr, rfl⟩).run W hs) ?_
  rintro e W' ⟨v, F', Lo, rfl, h1, h2, rfl, h3⟩
  simp only [Rel] at h3
  refine ⟨by rw [h3.1]; simp [valB], ⟨h2.os, h2.tape, h2.output, h2.size, fun k hk _ => h2.same k hk (fun ⟨j, o, e, _⟩ => (by cases e))⟩, ?_⟩
  exact ⟨fun b o h => h1.frz b o (h2.le b o h), fun k o e => (by cases e), fun k o g e => (by cases e), fun k k' o o' g e => (by cases e)⟩
end Go.Fr.Try

/- Disk: the iterator's contract. -/
set_option linter.unusedVariables false
set_option linter.unusedSimpArgs false
namespace Go.Fr.Try
open Go Go.RowKit Go.Proofs Go.Fr Go.Fr.T
theorem intv_le {n : Nat} (h : n ≤ 2 ^ 41) : (n : Int) ≤ 9223372036854775807 := by omega
theorem w64 {n : Int} (h1 : -9223372036854775808 ≤ n) (h2 : n ≤ 9223372036854775807) : (n + 9223372036854775808) % 18446744073709551616 - 9223372036854775808 = n := by omega
set_option maxRecDepth 100000 in
set_option maxHeartbeats 4000000 in
theorem frames1 (n l gb b off c : Nat) (s : List UInt8) (F : Frz) (hsl : s.length ≤ 2 ^ 40) (hcap : s.length ≤ c) (J Jx : List (Nat × Nat) → World → Prop) (Kp : World → World → Prop) (hKp : ∀ W W', Kp W W' → St F [] W → St F [] W') (W : World)
    (hJ : ∀ s W1 W2, J s W1 → W1.grownBy W2 none → J s W2)
    (hY : ∀ pre (x : Nat × Nat) W, x.1 ≤ x.2 → x.2 ≤ s.length → J pre W → pre.length < s.length → YieldAt Fence.wide (n - 1) Try.prog l #[.int .i64 (x.2 : Int), slcVal (some ⟨b, off, none⟩) c x.1 x.2 1] W fun e W' =>
      (e = .returned (.bool true) ∧ J (pre ++ [x]) W' ∧ Kp W W') ∨ (e = .returned (.bool false) ∧ Jx (pre ++ [x]) W'))
    (hF : St F [] W) (hg : F gb = some (.cells #[.slice (some ⟨b, off, none⟩) s.length c] 28 (0, 0))) (hs : Rel F [] (.sl (bcells s)) (.slice (some ⟨b, off, none⟩) s.length c)) (h0 : J [] W) :
    CallsIn Fence.wide n Try.prog 55 #[.func (.yield l) #[] #[], .pointer (some ⟨gb, 0, none⟩)] W fun e W' => (∃ v, e = .returned v) ∧
      ((∃ ys, ys = items s 0 ∧ J ys W') ∨ (∃ pre, True ∧ Jx pre W')) := by
  refine callsIn_of_wp Try.func55 rfl trivial ?_ rfl
  simp only [Try.ntmps55, List.size_toArray, List.length_cons, List.length_nil, Nat.reduceAdd, Nat.reduceSub, Array.replicate_succ, Array.replicate_zero, List.push_toArray, List.append_toArray, List.nil_append, List.cons_append]
  gi_wp2
  gi_loopw [3] (fun v wr => ∃ (k : Nat) (pre : List (Nat × Nat)), k ≤ s.length ∧ v = .int .i64 k ∧ items s 0 = pre ++ items s k ∧ 3 * pre.length ≤ k ∧ J pre wr ∧ St F [] wr)
    (fun v _ => s.length - (intOf v).toNat)
  case atStart => exact ⟨0, [], Nat.zero_le _, rfl, rfl, Nat.zero_le _, h0, hF⟩
  case round =>
    obtain ⟨k, pre, hk, rfl, hit, hpl, hJs, hst⟩ := hrel
    have hcg : wr.cell? ⟨gb, 0, none⟩ = some (.slice (some ⟨b, off, none⟩) s.length c) := by
      have := hst.frz _ _ hg
      simp [World.cell?, this]
    by_cases h3 : k + 3 ≤ s.length
    · have hby : ∀ j x, s[j]? = some x → wr.cell? ⟨b, off + j, none⟩ = some (.int .u8 x.toNat) := by
        intro j x hx
        have hc := (src_bytes hs).resolve_right (fun h => by omega)
        obtain ⟨ad, e1, e2, e3⟩ := hc.cell hst
        injection e1 with e1
        subst e1
        have := e3 j (bval x) (by simp [bvals, hx])
        rwa [Nat.zero_add, add_none] at this
      have e0 : s[k]? = some s[k] := List.getElem?_eq_getElem (by omega)
      have e1 : s[k + 1]? = some s[k + 1] := List.getElem?_eq_getElem (by omega)
      have e2 : s[k + 2]? = some s[k + 2] := List.getElem?_eq_getElem (by omega)
      have hb0 := hby _ _ e0
      generalize s[k] = x0 at e0 hb0
      generalize s[k + 1] = x1 at e1
      generalize s[k + 2] = x2 at e2
      have u1 := x1.toNat_lt
      have u2 := x2.toNat_lt
      by_cases hf : x0 = 1
      · subst hf
        have hb0 : wr.cell? ⟨b, off + k, none⟩ = some (.int .u8 1) := hb0
        have hr2 : Rel F [] (.sl (bcells [x1, x2])) (.slice (some ⟨b, off + (k + 1), none⟩) 2 (c - (k + 1))) := by
          have h := rel_slc (L' := []) hs (l := k + 1) (h := k + 3) (by omega) (by omega)
          have ep : (s.drop (k + 1)).take (k + 3 - (k + 1)) = [x1, x2] := by
            have hd : s.drop (k + 1) = x1 :: x2 :: s.drop (k + 3) := by
              obtain ⟨q1, rfl⟩ := List.getElem?_eq_some_iff.1 e1
              obtain ⟨q2, rfl⟩ := List.getElem?_eq_some_iff.1 e2
              rw [List.drop_eq_getElem_cons q1, List.drop_eq_getElem_cons q2]
            rw [hd, show k + 3 - (k + 1) = 2 by omega]; rfl
          rw [ep] at h
          have ev : slcVal (some ⟨b, off, none⟩) c (k + 1) (k + 3) 1 = .slice (some ⟨b, off + (k + 1), none⟩) 2 (c - (k + 1)) := by
            simp only [slcVal, if_neg (show ¬ c = k + 1 by omega), Option.map_some, add_none, Nat.mul_one, show k + 3 - (k + 1) = 2 by omega]
          rw [ev] at h
          exact h
        by_cases ho : k + 3 + (x1.toNat * 256 + x2.toNat) ≤ s.length
        · have hih := items_hit e0 e1 e2 ho
          have ecast : ((k + 3 + (x1.toNat * 256 + x2.toNat) : Nat) : Int) = (k : Int) + 3 + ((x1.toNat : Int) * 256 + (x2.toNat : Int)) := by omega
          by_cases hcc : c = k + 3
          · subst hcc
            rw [show k + 3 - (k + 1) = 2 by omega] at hr2
            have eq1 : slcVal (some ⟨b, off, none⟩) (k + 3) (k + 3) (k + 3 + (x1.toNat * 256 + x2.toNat)) 1 = .slice (some ⟨b, off, none⟩) (x1.toNat * 256 + x2.toNat) 0 := by
              simp only [slcVal, if_true, Nat.add_sub_cancel_left, Nat.sub_self]
            gi_wp2
            refine ⟨trivial, nofun, ?_⟩
            refine (callsIn_wide.2 (val2 hst hr2)).mono ?_
            rintro e w' ⟨rfl, hgr, hst'⟩
            have hJ' := hJ _ _ _ hJs hgr
            have hcg' : w'.cell? ⟨gb, 0, none⟩ = some (.slice (some ⟨b, off, none⟩) s.length (k + 3)) := by
              have := hst'.frz _ _ hg
              simp [World.cell?, this]
            obtain ⟨fn, tmps, assign, body, hy, hR⟩ := hY pre (k + 3, k + 3 + (x1.toNat * 256 + x2.toNat)) w' (by simp) ho hJ' (by omega)
            dsimp only at hy
            rw [ecast, eq1] at hy
            gi_wp2
            refine ⟨nofun, ?_⟩
            refine hR.mono ?_
            rintro e W3 (⟨rfl, hJ3, hk3⟩ | ⟨rfl, hJx3⟩)
            · gi_wp2
              go_roundw
              case rel => exact ⟨k + 3 + (x1.toNat * 256 + x2.toNat), pre ++ [(k + 3, k + 3 + (x1.toNat * 256 + x2.toNat))], ho, by simp, by rw [hit, hih, List.append_assoc]; rfl, by simp; omega, hJ3, hKp _ _ hk3 hst'⟩
              case measure => simp [intOf]; omega
            · gi_wp2
              refine bodyPost_ret (results_none rfl _ _ _) rfl ?_
              exact ⟨⟨_, rfl⟩, .inr ⟨_, trivial, hJx3⟩⟩
          · have eq1 : slcVal (some ⟨b, off, none⟩) c (k + 3) (k + 3 + (x1.toNat * 256 + x2.toNat)) 1 = .slice (some ⟨b, off + (k + 3), none⟩) (x1.toNat * 256 + x2.toNat) (c - (k + 3)) := by
              simp only [slcVal, if_neg hcc, Option.map_some, add_none, Nat.mul_one, Nat.add_sub_cancel_left]
            gi_wp2
            refine ⟨trivial, nofun, ?_⟩
            refine (callsIn_wide.2 (val2 hst hr2)).mono ?_
            rintro e w' ⟨rfl, hgr, hst'⟩
            have hJ' := hJ _ _ _ hJs hgr
            have hcg' : w'.cell? ⟨gb, 0, none⟩ = some (.slice (some ⟨b, off, none⟩) s.length c) := by
              have := hst'.frz _ _ hg
              simp [World.cell?, this]
            obtain ⟨fn, tmps, assign, body, hy, hR⟩ := hY pre (k + 3, k + 3 + (x1.toNat * 256 + x2.toNat)) w' (by simp) ho hJ' (by omega)
            dsimp only at hy
            rw [ecast, eq1] at hy
            gi_wp2
            refine ⟨nofun, ?_⟩
            refine hR.mono ?_
            rintro e W3 (⟨rfl, hJ3, hk3⟩ | ⟨rfl, hJx3⟩)
            · gi_wp2
              go_roundw
              case rel => exact ⟨k + 3 + (x1.toNat * 256 + x2.toNat), pre ++ [(k + 3, k + 3 + (x1.toNat * 256 + x2.toNat))], ho, by simp, by rw [hit, hih, List.append_assoc]; rfl, by simp; omega, hJ3, hKp _ _ hk3 hst'⟩
              case measure => simp [intOf]; omega
            · gi_wp2
              refine bodyPost_ret (results_none rfl _ _ _) rfl ?_
              exact ⟨⟨_, rfl⟩, .inr ⟨_, trivial, hJx3⟩⟩
        · have hih := items_over e0 e1 e2 ho
          gi_wp2
          refine ⟨trivial, nofun, ?_⟩
          refine (callsIn_wide.2 (val2 hst hr2)).mono ?_
          rintro e w' ⟨rfl, hgr, hst'⟩
          have hJ' := hJ _ _ _ hJs hgr
          have hcg' : w'.cell? ⟨gb, 0, none⟩ = some (.slice (some ⟨b, off, none⟩) s.length c) := by
            have := hst'.frz _ _ hg
            simp [World.cell?, this]
          gi_wp2
          refine ⟨fun _ h => (by cases h), ?_⟩
          gi_wp2
          refine bodyPost_ret (results_none rfl _ _ _) rfl ?_
          rw [hih, List.append_nil] at hit
          exact ⟨⟨_, rfl⟩, .inl ⟨pre, hit.symm, hJ'⟩⟩
      · have hih := items_miss e0 h3 hf
        have hne : ¬ (x0.toNat : Int) = 1 := fun h => hf (u8_one.1 h)
        rw [hih, List.append_nil] at hit
        gi_wp2
        go_end0
        exact ⟨⟨_, rfl⟩, .inl ⟨pre, hit.symm, hJs⟩⟩
    · have hih := items_end h3
      rw [hih, List.append_nil] at hit
      clear hih
      gi_wp2
      go_end0
      exact ⟨⟨_, rfl⟩, .inl hJs⟩
end Go.Fr.Try

/- Disk: a range over the frames of a space. -/
set_option linter.unusedVariables false
set_option linter.unusedSimpArgs false
namespace Go.Fr.Try
open Go Go.RowKit Go.Proofs Go.Fr Go.Fr.T
abbrev Itm (s : List UInt8) := { i : Nat × Nat // i.1 ≤ i.2 ∧ i.2 ≤ s.length }
def itsA (s : List UInt8) : List (Itm s) := (items s 0).attach.map fun i => ⟨i.1, (items_parse (s := s) (n := s.length) (k := 0) (by omega) (by omega)).2.2 i.1 i.2⟩
theorem itsA_map (s : List UInt8) : (itsA s).map (fun x => x.1) = items s 0 := by
  simp only [itsA, List.map_map, Function.comp_def]
  exact List.attach_map_subtype_val _
/-- a range over the frames of a space -/
theorem rfFrames {body : Frz → Loc → Env → Kont → Prop} {g p1 p2 q p : Nat} {F : Frz} {L : Loc} {ρ : Env} {N : Kont} (gb b off c : Nat) (s : List UInt8) (hsl : s.length ≤ 2 ^ 40)
    (hρ : ρ g = .v (.func (.func 55) #[] #[.pointer (some ⟨gb, 0, none⟩)])) (hg : F gb = some (.cells #[.slice (some ⟨b, off, none⟩) s.length c] 28 (0, 0))) (hs : Rel F [] (.sl (bcells s)) (.slice (some ⟨b, off, none⟩) s.length c))
    {σ : Type} (x0 : σ) (Inv : List (Nat × Nat) → σ → Frz → Prop) (Lf : σ → Loc) (h0 : Inv [] x0 F) (hgv : L.givesR (Lf x0)) (hk : ∀ x, L.keeps (Lf x)) (hmono : ∀ pre x F1 F2, leZ F1 F2 → Inv pre x F1 → Inv pre x F2)
    (hbody : ∀ pre (i : Nat × Nat) x F', i.1 ≤ i.2 → i.2 ≤ s.length → F.le F' → pre.length < s.length → Inv pre x F' → Real F' (Lf x) →
      body F' (Lf x) (put (some q) (ev (put (some p2) (.v (slcVal (some ⟨b, off, none⟩) c i.1 i.2 1)) (put (some p1) (.v (.int .i64 (i.2 : Int))) ρ)) (.t p)) (put (some p2) (.v (slcVal (some ⟨b, off, none⟩) c i.1 i.2 1)) (put (some p1) (.v (.int .i64 (i.2 : Int))) ρ))) fun F'' L'' ρ'' => ∃ x', Inv (pre ++ [i]) x' F'' ∧ L''.givesR (Lf x'))
    (hdone : ∀ x F', F.le F' → Inv (items s 0) x F' → Real F' (Lf x) → N F' (Lf x) ρ) : RFPt Try.prog body g p1 p2 q p F L ρ N := by
  have hcap := sl_cap hs
  refine ⟨Itm s, 55, #[.pointer (some ⟨gb, 0, none⟩)], fun x => .int .i64 (x.1.2 : Int), fun x => slcVal (some ⟨b, off, none⟩) c x.1.1 x.1.2 1, itsA s, s.length, σ, x0, fun pre x F => Inv (pre.map fun x : Itm s => x.1) x F, Lf, hρ, enters_of Try.func55 (by decide) rfl, ?_, h0, hgv, hk, fun pre x F1 F2 hz h => hmono (pre.map fun x : Itm s => x.1) x F1 F2 hz h, ?_, ?_⟩
  · intro w hw l J Jx W hW hJ hJx hY hJ0
    have hstW : St F [] W := ⟨fun b' o h => (hW.block b' (Array.getElem?_eq_some_iff.1 (hw.frz b' o h)).1).trans (hw.frz b' o h), fun k o e => (by cases e), fun k o g e => (by cases e), fun k k' o o' g e => (by cases e)⟩
    refine (frames1 2 l gb b off c s F hsl hcap (fun pre W => ∃ pre', pre'.map (fun x : Itm s => x.1) = pre ∧ J pre' W) (fun pre W => ∃ pre', Jx pre' W) (KpF F) (fun W W' h => h) W ?_ ?_ hstW hg hs ⟨[], rfl, hJ0⟩).mono ?_
    · rintro s' W1 W2 ⟨pre', rfl, h⟩ hg'
      exact ⟨pre', rfl, hJ _ _ _ none h hg' (fun r e => by cases e)⟩
    · rintro pre x W1 hx1 hx2 ⟨pre', rfl, h⟩ hlen
      refine (hY pre' ⟨x, hx1, hx2⟩ W1 h (by simpa using hlen)).mono ?_
      rintro e W' (⟨rfl, h1, h2⟩ | ⟨rfl, h1⟩)
      · exact .inl ⟨rfl, ⟨pre' ++ [⟨x, hx1, hx2⟩], by simp, h1⟩, h2⟩
      · exact .inr ⟨rfl, _, h1⟩
    · rintro e W' ⟨he, ⟨ys, hys, pre', hp, h⟩ | ⟨pre, _, pre', h⟩⟩
      · refine ⟨he, .inl ⟨pre', ?_, h⟩⟩
        have : pre'.map (fun x : Itm s => x.1) = (itsA s).map fun x => x.1 := by rw [hp, hys, itsA_map]
        exact (List.map_inj_right (fun a b h => Subtype.ext h)).1 this
      · exact ⟨he, .inr ⟨pre', trivial, h⟩⟩
  · intro pre i x F' hle hM hi hre
    have := hbody (pre.map fun x : Itm s => x.1) i.1 x F' i.2.1 i.2.2 hle (by simpa using hM) hi hre
    simpa using this
  · intro x F' hle hi hre
    refine hdone x F' hle ?_ hre
    rw [← itsA_map]
    exact hi
end Go.Fr.Try

/- Disk: Records. -/
set_option linter.unusedVariables false
set_option linter.unusedSimpArgs false
namespace Go.Fr.Try
open Go Go.RowKit Go.Proofs Go.Fr Go.Fr.T
/-- a part of a half of the disk, as cells -/
theorem half_form {F : Frz} {L : Loc} {d : List (List UInt8)} {f n : Nat} {v : Value} (h : Rel F L (.agg (halfC d f n)) v) : ∃ a c, v = .agg #[.slice a d.length c, .int .i64 f, .int .i64 n] ∧ Rel F [] (.sl (d.map pgC)) (.slice a d.length c) := by
  simp only [Rel, halfC, diskC, List.cons_append, List.nil_append, Rels] at h
  obtain ⟨cs, rfl, c0, _, rfl, hc0, c1, _, rfl, ⟨rfl, hw1⟩, c2, _, rfl, ⟨rfl, hw2⟩, rfl⟩ := h
  have hc0 : Rel F [] (.sl (d.map pgC)) c0 := by simp only [Rel]; exact hc0
  obtain ⟨a, c, rfl, _⟩ := sl_form hc0
  rw [List.length_map] at hc0 ⊢
  exact ⟨a, c, rfl, hc0⟩
theorem callHalves {d : List (List UInt8)} {f1 f2 n : Nat} {g : Nat} {vs : List Value} {F : Frz} {L : Loc} {K : Frz → Loc → Value → Prop} {args : List C} (h : CallsT Try.prog g args [] (Ret [] (.tup [.agg (halfC d f1 n), .agg (halfC d f2 n)]))) (hr : Rels F (inp []) args vs)
    (kk : ∀ a1 c1 a2 c2 F', F.le F' → Rel F' [] (.agg (halfC d f1 n)) (.agg #[.slice a1 d.length c1, .int .i64 f1, .int .i64 n]) → Rel F' [] (.agg (halfC d f2 n)) (.agg #[.slice a2 d.length c2, .int .i64 f2, .int .i64 n]) →
      K F' L (.tuple #[.agg #[.slice a1 d.length c1, .int .i64 f1, .int .i64 n], .agg #[.slice a2 d.length c2, .int .i64 f2, .int .i64 n]])) : CallPt Try.prog g vs F L K := by
  refine callTVal h hr fun v F' hle hR => ?_
  have hR' := hR
  rw [Rel] at hR'
  obtain ⟨us, rfl, hu⟩ := hR'
  simp only [Rels] at hu
  obtain ⟨u1, _, rfl, h1, u2, _, rfl, h2, rfl⟩ := hu
  obtain ⟨a1, c1, rfl, _⟩ := half_form h1
  obtain ⟨a2, c2, rfl, _⟩ := half_form h2
  exact kk a1 c1 a2 c2 F' hle h1 h2
theorem callBytes {p : List UInt8} {g : Nat} {vs : List Value} {F : Frz} {L : Loc} {K : Frz → Loc → Value → Prop} {args : List C} (h : CallsT Try.prog g args [] (Ret [] (.sl (bcells p)))) (hr : Rels F (inp []) args vs) (hp : 0 < p.length)
    (kk : ∀ b off c F', F.le F' → Rel F' [] (.sl (bcells p)) (.slice (some ⟨b, off, none⟩) p.length c) → K F' L (.slice (some ⟨b, off, none⟩) p.length c)) : CallPt Try.prog g vs F L K := by
  refine callTVal h hr fun v F' hle hR => ?_
  obtain ⟨a, c, rfl, _, _, h3⟩ := sl_bytes hR
  have h3 := h3.resolve_right fun h => by omega
  obtain ⟨ad, arr, t, fr, rfl, hb, hsp, _⟩ := h3
  obtain ⟨b, off, sp⟩ := ad
  simp only at hsp
  subst hsp
  exact kk b off c F' hle hR
theorem callFrames {F : Frz} {L : Loc} {K : Frz → Loc → Value → Prop} {a : Option Addr} {n c : Nat} (kk : ∀ gb F', F.le F' → F' gb = some (.cells #[.slice a n c] 28 (0, 0)) → K F' L (.func (.func 55) #[] #[.pointer (some ⟨gb, 0, none⟩)])) : CallPt Try.prog 38 [.slice a n c] F L K := by
  have h38 : CallsA Try.prog 38 #[.slice a n c] F [] (fun F' Lo r => Lo = [] ∧ ∃ gb, F' gb = some (.cells #[.slice a n c] 28 (0, 0)) ∧ r = .func (.func 55) #[] #[.pointer (some ⟨gb, 0, none⟩)]) := by
    refine callsA2_facts (svs := [_]) rfl facts38 rfl rfl (vals_own [_]) ?_ ?_
    · rintro F1 G L v hle ⟨e1, gb, e2, e3⟩; exact ⟨e1, gb, hle _ _ e2, e3⟩
    intro gb F1 hle1 hg
    exact ⟨[], [], rfl, .nil, rfl, gb, hg, rfl⟩
  refine ⟨[], [], [], _, rfl, .nil, .nil, fun k hk => absurd hk List.not_mem_nil, h38, fun v F' Lo hle hR => ?_⟩
  obtain ⟨rfl, gb, h1, rfl⟩ := hR
  exact ⟨rfl, fun _ _ _ _ h => absurd h List.not_mem_nil, kk gb F' hle h1⟩
/-- the records of a disk -/
def recsD (d : List (List UInt8)) : List (List UInt8) := if validD d then (parse (spaceD d (presD d))).1 else []
theorem space_len {d : List (List UInt8)} (hv : validD d = true) {h : Nat} (hh : h ≤ 1) : (spaceD d h).length = (d.length / 2 - 1) * 256 := by
  obtain ⟨h1, h2, h3⟩ := validD_iff.1 hv
  have hb := half_le (n := d.length) hh
  have hl : ∀ (l : List (List UInt8)), (∀ p ∈ l, p.length = 256) → l.flatten.length = l.length * 256 := by
    intro l
    induction l with
    | nil => simp
    | cons p l ih =>
      intro h
      rw [List.flatten_cons, List.length_append, ih fun q hq => h q (List.mem_cons_of_mem _ hq), h p (List.mem_cons_self ..), List.length_cons]
      omega
  unfold spaceD
  rw [hl _ fun p hp => h3 p (List.mem_of_mem_drop (List.mem_of_mem_take hp)), List.length_take, List.length_drop]
  congr 1
  omega
end Go.Fr.Try

/- Disk: Records, walked. -/
set_option linter.unusedVariables false
set_option linter.unusedSimpArgs false
namespace Go.Fr.Try
open Go Go.RowKit Go.Proofs Go.Fr Go.Fr.T
set_option maxRecDepth 10000 in
theorem t22 (d : List (List UInt8)) : CallsT Try.prog 22 [.agg (diskC d)] [] (Ret [] (.sl ((recsD d).map pgC))) := by
  have h35 := t35 d
  by_cases hv : validD d = true
  case neg =>
    have hv : validD d = false := by simpa using hv
    have hr : recsD d = [] := by unfold recsD; rw [hv]; rfl
    rw [hr]
    rw [hv] at h35
    refine ⟨fun F Li vs hl0 ht hr => ?_⟩
    have hLi : Li = [] := List.length_eq_zero_iff.1 hl0
    subst hLi
    simp only [Rels] at hr
    obtain ⟨v0, _, rfl, hv0, rfl⟩ := hr
    have hv0' := hv0
    simp only [Rel, diskC, Rels] at hv0'
    obtain ⟨cs, rfl, c0, _, rfl, hc0, rfl⟩ := hv0'
    refine callsA3_facts (svs := [_]) rfl facts22 rfl rfl (vals_own [_]) (fun _ _ _ _ h => ResA.monoC h) ?_
    intro g1
    refine callTBool h35 ⟨_, _, rfl, hv0, rfl⟩ fun F1 hle1 => ?_
    exact ⟨[], [], rfl, .nil, resVal' rfl nil_sl⟩
  rw [hv] at h35
  obtain ⟨hd1, hd2, hpl⟩ := validD_iff.1 hv
  have h36 := t36 d hv
  have hpr : presD d ≤ 1 := by unfold presD; split <;> omega
  have hhb := half_le (n := d.length) hpr
  have h37 := (t37 d (presD d * (d.length / 2)) (d.length / 2) hhb (by omega) hd2 (fun p hp => by rw [hpl p hp]; omega)).give
  have hsl := space_len hv hpr
  have hsp : ((d.drop (presD d * (d.length / 2) + 1)).take (d.length / 2 - 1)).flatten = spaceD d (presD d) := rfl
  rw [hsp] at h37
  have hrec : recsD d = (parse (spaceD d (presD d))).1 := by unfold recsD; rw [hv]; rfl
  have hit := (items_parse (s := spaceD d (presD d)) (n := (spaceD d (presD d)).length) (k := 0) (by omega) (by omega)).1
  rw [List.drop_zero, ← hrec] at hit
  generalize recsD d = rs at hit ⊢
  generalize spaceD d (presD d) = s at h37 hsl hit
  generalize presD d * (d.length / 2) = f1 at h36 h37
  generalize (1 - presD d) * (d.length / 2) = f2 at h36
  have hs40 : s.length ≤ 2 ^ 40 := by rw [hsl]; omega
  have hs0 : 0 < s.length := by rw [hsl]; omega
  generalize hn2 : d.length / 2 = n2 at h36 h37
  refine ⟨fun F Li vs hl0 ht hr => ?_⟩
  have hLi : Li = [] := List.length_eq_zero_iff.1 hl0
  subst hLi
  simp only [Rels] at hr
  obtain ⟨v0, _, rfl, hv0, rfl⟩ := hr
  have hv0' := hv0
  simp only [Rel, diskC, Rels] at hv0'
  obtain ⟨cs, rfl, c0, _, rfl, hc0, rfl⟩ := hv0'
  clear hc0
  refine callsA3_facts (svs := [_]) rfl facts22 rfl rfl (vals_own [_]) (fun _ _ _ _ h => ResA.monoC h) ?_
  intro g1
  refine callTBool h35 ⟨_, _, rfl, hv0, rfl⟩ fun F1 hle1 => ?_
  refine callHalves h36 ⟨_, _, rfl, hv0.mono hle1, rfl⟩ fun a1 cc1 a2 cc2 F2 hle2 hh1 hh2 => ?_
  intro g3 g4 g5
  refine callBytes h37 ⟨_, _, rfl, hh1.lift, rfl⟩ hs0 fun b off c F3 hle3 hs3 => ?_
  refine callFrames fun gb F4 hle4 hgb => ?_
  have hs4 := hs3.mono hle4
  refine ⟨rfl, rfFrames (N := _) gb b off c s hs40 rfl hgb hs4 (σ := Nat × (Option Addr × Nat) × List Value) (0, (none, 0), []) (fun pre x F => x.1 = pre.length ∧ RelRow F 1 ((pre.map (partB s)).map pgC) x.2.2)
    (fun x => [(1, .box g1 24 [c0]), (3, .box g3 61 [.slice a1 d.length cc1, .int .i64 f1, .int .i64 n2]), (4, .box g4 61 [.slice a2 d.length cc2, .int .i64 f2, .int .i64 n2]), (5, .box g5 22 [.slice x.2.1.1 x.1 x.2.1.2]), (25, .row (.slice x.2.1.1 x.1 x.2.1.2) 28 1 x.1 x.2.2)])
    ⟨rfl, by simp [RelRow]⟩ (givesR_of ⟨.inl rfl, .inl rfl, .inl rfl, .inl rfl, .inr ⟨rfl, 28, 1, rfl⟩, trivial⟩) (fun _ => ⟨⟨_, rfl⟩, ⟨_, rfl⟩, ⟨_, rfl⟩, ⟨_, rfl⟩, trivial⟩) (fun pre x Fa Fb hz h => ⟨h.1, h.2.monoC hz⟩) ?_ ?_⟩
  · intro pre i x F5 hi1 hi2 hle5 hM hinv hre
    have hx1 := hinv.1
    have hpart : Rel F5 (inp []) (.sl (bcells (partB s i))) (slcVal (some ⟨b, off, none⟩) c i.1 i.2 1) := rel_slc (hs4.mono hle5) hi1 hi2
    have hpl : (partB s i).length ≤ 2 ^ 46 := by
      unfold partB
      rw [List.length_take, List.length_drop]; omega
    have hxm := (real_max (k := 25) hre rfl).1
    refine callTBytesD (t53 _ hpl).give ⟨_, _, rfl, hpart, rfl⟩ fun a' c' F6 hle6 hr6 hre6 => ?_
    intro g24 F7 hle7 hF24 hre7
    refine appDF 25 x.1 x.2.2 1 [.slice a' (partB s i).length c'] (.inl rfl) rfl (.inl (lit_cells hF24)) ?_ ?_ ?_ (fun a c hn hre25 => ?_)
    · intro u hu
      cases hu with
      | head => rfl
      | tail _ h => cases h
    · simp only [maxLen]; omega
    · omega
    refine ⟨(x.1 + 1, (a, c), _), ⟨by rw [List.length_append, hinv.1]; rfl, ?_⟩, givesR_of ⟨.inl rfl, .inl rfl, .inl rfl, .inl rfl, .inl rfl, trivial⟩⟩
    rw [List.map_append, List.map_append]
    refine (hinv.2.mono (Frz.le_trans hle6 hle7)).append ?_
    simp only [List.map_cons, List.map_nil, RelRow, pgC]
    exact ⟨[_], [], rfl, rfl, rfl, by simp only [Rels]; exact ⟨_, _, rfl, hr6.mono hle7, rfl⟩, rfl⟩
  · intro x F5 hle5 hinv hre
    have hxm := (real_max (k := 25) hre rfl).1
    refine FrzPt.mk ⟨_, _, _, _, _, rfl, fun F6 hle6 hr25 => ?_⟩
    refine ⟨[], [], rfl, .nil, resVal' rfl ?_⟩
    have h := frow_rel (L := inp []) hr25 (hinv.2.mono hle6) (by rw [hinv.1]; simp) hxm
    rw [hit] at h
    exact h
end Go.Fr.Try
