/- Part of the proofs of the statements of this seat. -/
import Derived.Test.YtmbfinlmjclojaaDkT17G
import Derived.Test.YtmbfinlmjclojaaDkP3G
/- Disk: Apply, the reference. -/
set_option linter.unusedVariables false
set_option linter.unusedSimpArgs false
namespace Go.Fr.Try
open Go Go.RowKit Go.Proofs Go.Fr Go.Fr.T
theorem app_get {R : List Own} (k : Nat) : ∀ {A : Loc}, (∀ x ∈ A, x.1 < 2000) → Loc.get (A ++ inpFrom 2000 R) k = if k < 2000 then A.get k else R[k - 2000]?
  | [], _ => by
    rw [List.nil_append, inpFrom_get]
    by_cases h : k < 2000
    · rw [if_neg (by omega), if_pos h]; rfl
    · rw [if_pos (by omega), if_neg h]
  | (j, o) :: A, h => by
    have ih := app_get (R := R) k (A := A) fun x hx => h x (List.mem_cons_of_mem _ hx)
    have hj : j < 2000 := h (j, o) (List.mem_cons_self ..)
    simp only [List.cons_append, Loc.get]
    cases hb : Nat.beq j k with
    | true => have := Nat.eq_of_beq_eq_true hb; rw [if_pos (by omega)]
    | false => simp only [ih]
theorem givesA {A : Loc} (hA : ∀ x ∈ A, x.1 < 2000) {kn : Nat} {new : Own} {rows R : List Own} {L : Loc} (hL : ∀ k o, A.get k = some o → L.get k = some o) (hk : A.get kn = none) (hk2 : kn < 2000) (hn : L.get kn = some new)
    (hr : ∀ j o, rows[j]? = some o → L.get (2000 + j) = some o) (hR : R = rows ++ [new]) : L.givesR (A ++ inpFrom 2000 R) := by
  subst hR
  refine ⟨fun k => if k = 2000 + rows.length then kn else k, fun k o h => .inl ?_, fun k k' h h' e => ?_⟩
  · rw [app_get k hA] at h
    by_cases hk3 : k = 2000 + rows.length
    · subst hk3
      rw [if_neg (by omega), Nat.add_sub_cancel_left, List.getElem?_append_right (Nat.le_refl _), Nat.sub_self] at h
      simp only [if_true, hn]
      simpa using h
    · simp only [hk3, if_false]
      split at h
      · exact hL k o h
      · rename_i h2
        have hlt := (List.getElem?_eq_some_iff.1 h).1
        rw [List.length_append, List.length_singleton] at hlt
        rw [List.getElem?_append_left (by omega)] at h
        have := hr _ _ h
        rwa [show 2000 + (k - 2000) = k by omega] at this
  · have hne : ∀ k, (Loc.get (A ++ inpFrom 2000 (rows ++ [new])) k).isSome = true → k ≠ kn := by
      rintro k h rfl
      rw [app_get k hA, if_pos hk2, hk] at h
      simp at h
    have a := hne k h
    have b := hne k' h'
    simp only at e
    split at e <;> split at e <;> omega
theorem givesB {A : Loc} (hA : ∀ x ∈ A, x.1 < 2000) {rows : List Own} {L : Loc} (hL : ∀ k o, A.get k = some o → L.get k = some o) (hr : ∀ j o, rows[j]? = some o → L.get (2000 + j) = some o) : L.givesR (A ++ inpFrom 2000 rows) := by
  refine ⟨id, fun k o h => .inl ?_, fun k k' _ _ e => e⟩
  rw [app_get k hA] at h
  show L.get k = _
  split at h
  · exact hL k o h
  · rename_i h2
    have := hr _ _ h
    rwa [show 2000 + (k - 2000) = k by omega] at this
/-- the entries of a short list of own blocks -/
theorem get3 {a b c : Nat} {oa ob oc : Own} {L : Loc} (h1 : L.get a = some oa) (h2 : L.get b = some ob) (h3 : L.get c = some oc) : ∀ k o, Loc.get [(a, oa), (b, ob), (c, oc)] k = some o → L.get k = some o := by
  intro k o h
  simp only [Loc.get] at h
  split at h
  · rename_i e; have := Nat.eq_of_beq_eq_true e; subst this; rw [h1]; exact h
  split at h
  · rename_i e; have := Nat.eq_of_beq_eq_true e; subst this; rw [h2]; exact h
  split at h
  · rename_i e; have := Nat.eq_of_beq_eq_true e; subst this; rw [h3]; exact h
  · cases h
theorem get4 {a b c e : Nat} {oa ob oc oe : Own} {L : Loc} (h1 : L.get a = some oa) (h2 : L.get b = some ob) (h3 : L.get c = some oc) (h4 : L.get e = some oe) : ∀ k o, Loc.get [(a, oa), (b, ob), (c, oc), (e, oe)] k = some o → L.get k = some o := by
  intro k o h
  simp only [Loc.get] at h
  split at h
  · rename_i e; have := Nat.eq_of_beq_eq_true e; subst this; rw [h1]; exact h
  split at h
  · rename_i e; have := Nat.eq_of_beq_eq_true e; subst this; rw [h2]; exact h
  split at h
  · rename_i e; have := Nat.eq_of_beq_eq_true e; subst this; rw [h3]; exact h
  split at h
  · rename_i e; have := Nat.eq_of_beq_eq_true e; subst this; rw [h4]; exact h
  · cases h
theorem fcells_drop {F : Frz} {a : Option Addr} {j : Nat} {x : Value} {cs : List Value} (h : FCells F a j (x :: cs)) : FCells F a (j + 1) cs := by
  obtain ⟨ad, arr, t, fr, e1, e2, e3, e4⟩ := h
  refine ⟨ad, arr, t, fr, e1, e2, e3, fun i v hv => ?_⟩
  have := e4 (i + 1) v (by simpa using hv)
  rwa [show ad.off + j + (i + 1) = ad.off + (j + 1) + i by omega] at this
theorem fcells_head {F : Frz} {a : Option Addr} {j : Nat} {x : Value} {cs : List Value} (h : FCells F a j (x :: cs)) : FCells F a j [x] := by
  obtain ⟨ad, arr, t, fr, e1, e2, e3, e4⟩ := h
  refine ⟨ad, arr, t, fr, e1, e2, e3, fun i v hv => ?_⟩
  cases i with
  | zero => exact e4 0 v (by simpa using hv)
  | succ i => simp at hv
theorem fcells_at {F : Frz} {a : Option Addr} {cs : List Value} (h : FCells F a 0 cs) {i : Nat} {x : Value} (hx : cs[i]? = some x) : FCells F a i [x] := by
  obtain ⟨ad, arr, t, fr, e1, e2, e3, e4⟩ := h
  refine ⟨ad, arr, t, fr, e1, e2, e3, fun k v hv => ?_⟩
  cases k with
  | zero =>
    have := e4 i x hx
    simp only [List.getElem?_cons_zero, Option.some.injEq] at hv
    subst hv
    rwa [show ad.off + i + 0 = ad.off + 0 + i by omega]
  | succ k => simp at hv
theorem wr_at2 {F : Frz} {L : Loc} {l : List Wri} {a : Option Addr} {n c k : Nat} {x : Wri} (h : Rel F L (.sl (l.map wrC)) (.slice a n c)) (hx : l[k]? = some x) :
    ∃ a' c', FCells F a (k * 2) [.int .i64 x.1, .slice a' x.2.length c'] ∧ Rel F [] (.sl (bcells x.2)) (.slice a' x.2.length c') ∧ a ≠ none ∧ k < n ∧ Rel F [] (.agg (wrC x)) (.agg #[.int .i64 x.1, .slice a' x.2.length c']) := by
  obtain ⟨vs, h1, h2, h3, h4, h5, h6⟩ := sl_at (k := k) (es := wrC x) (sz := 2) h (by rw [List.getElem?_map, hx]; rfl) rfl
  have h3' := h3
  simp only [wrC, Rels] at h3
  obtain ⟨v1, _, rfl, h8, v, vs', rfl, h7, rfl⟩ := h3
  simp only [Rel] at h8
  obtain ⟨rfl, _⟩ := h8
  obtain ⟨a', c', rfl, _⟩ := sl_bytes h7
  refine ⟨a', c', h2, h7, h5, h6, ?_⟩
  simp only [Rel]
  exact ⟨_, rfl, h3'⟩
def none3 (o : Option Own) (b c : Bool) (A : Prop) : Prop := match o, b, c with | none, true, true => A | _, _, _ => False
theorem matchNone3 {o : Option Own} {b c : Bool} {A : Prop} (h : o = none) (hb : b = true) (hc : c = true) (hA : A) : none3 o b c A := by
  subst h hb hc; exact hA
/-- what the reference's Apply hands back before its rows are given up -/
def ApplyR2 (ps : List (List UInt8)) : Frz → List Own → Value → Prop := fun F Lo v => ∃ a c, ∃ G : List (Nat × Nat), G.length = ps.length ∧ Lo = pgRows G ps ∧ FCells F (some a) 0 (G.map pgV) ∧ ps.length ≤ c ∧ v = .agg #[.slice (some a) ps.length c]
theorem keeps_del {L' : Loc} (k : Nat) : ∀ (L : Loc), Loc.keeps L L' → Loc.keeps (L.del k) L'
  | [], _ => trivial
  | (j, .row v t sz n xs) :: L, h => by
    simp only [Loc.del]
    cases Nat.beq j k with
    | true => exact keeps_del k L h
    | false => exact keeps_del k L h
  | (j, .box g t cs) :: L, h => by
    simp only [Loc.del]
    cases Nat.beq j k with
    | true => exact keeps_del k L h.2
    | false => exact ⟨h.1, keeps_del k L h.2⟩
/-- whether a write is torn -/
theorem reg17 {F : Frz} {L : Loc} {ρ1 : Env} {K : Kont} (va : Value) (t : Int) (k n m c' : Nat) (a' : Option Addr) (hn : n ≤ 9223372036854775807)
    (hA : k + 1 = n → 0 ≤ t → t ≤ m → ∀ ρ', K F L (puts [1, 2, 3, 6, 8, 10, 11, 74] [.v va, .v (.int .i64 t), .own 3 0, .own 6 0, .own 8 0, .v (.int .i64 k), .v (.slice a' m c'), .v (.bool true)] ρ'))
    (hB : ¬ (k + 1 = n ∧ 0 ≤ t ∧ t ≤ m) → ∀ ρ', K F L (puts [1, 2, 3, 6, 8, 10, 11, 74] [.v va, .v (.int .i64 t), .own 3 0, .own 6 0, .own 8 0, .v (.int .i64 k), .v (.slice a' m c'), .v (.bool false)] ρ')) :
    evalOps Try.prog [.op (some 64) (.bin .eql (.t 60) (.t 63)) none, .op (some 65) (.mov (.t 64)) none, .op (some 66) (.mov (.t 2)) (some (65, true)), .op (some 67) (.bin .geq (.t 66) (.c (.int .i64 0))) (some (65, true)), .op (some 68) (.pick (.t 65) (.t 67) (.c (.bool false))) none, .op (some 69) (.mov (.t 68)) none, .op (some 70) (.mov (.t 2)) (some (69, true)), .op (some 71) (.mov (.t 11)) (some (69, true)), .op (some 72) (.len (.t 71)) (some (69, true)), .op (some 73) (.bin .leq (.t 70) (.t 72)) (some (69, true)), .op (some 74) (.pick (.t 69) (.t 73) (.c (.bool false))) none] F L (puts [1, 2, 3, 6, 8, 10, 11, 60, 63] [.v va, .v (.int .i64 t), .own 3 0, .own 6 0, .own 8 0, .v (.int .i64 k), .v (.slice a' m c'), .v (.int .i64 k), .v (.int .i64 ((n : Int) - 1))] ρ1) K := by
  refine brn_p (fun h1 => ?_) (fun h1 => ?_)
  · refine brn_p (fun h2 => ?_) (fun h2 => ?_)
    · by_cases h3 : t ≤ (m : Int)
      · refine normK [1, 2, 3, 6, 8, 10, 11, 74] [.v va, .v (.int .i64 t), .own 3 0, .own 6 0, .own 8 0, .v (.int .i64 k), .v (.slice a' m c'), .v (.bool true)] ⟨rfl, rfl, rfl, rfl, rfl, rfl, rfl, congrArg (fun b => SV.v (.bool b)) (decide_eq_true h3), trivial⟩ (hA (by omega) h2 h3)
      · refine normK [1, 2, 3, 6, 8, 10, 11, 74] [.v va, .v (.int .i64 t), .own 3 0, .own 6 0, .own 8 0, .v (.int .i64 k), .v (.slice a' m c'), .v (.bool false)] ⟨rfl, rfl, rfl, rfl, rfl, rfl, rfl, congrArg (fun b => SV.v (.bool b)) (decide_eq_false h3), trivial⟩ (hB (by omega))
    · refine normK [1, 2, 3, 6, 8, 10, 11, 74] [.v va, .v (.int .i64 t), .own 3 0, .own 6 0, .own 8 0, .v (.int .i64 k), .v (.slice a' m c'), .v (.bool false)] ⟨rfl, rfl, rfl, rfl, rfl, rfl, rfl, rfl, trivial⟩ (hB (by omega))
  · refine normK [1, 2, 3, 6, 8, 10, 11, 74] [.v va, .v (.int .i64 t), .own 3 0, .own 6 0, .own 8 0, .v (.int .i64 k), .v (.slice a' m c'), .v (.bool false)] ⟨rfl, rfl, rfl, rfl, rfl, rfl, rfl, rfl, trivial⟩ (hB (by omega))
set_option maxRecDepth 10000 in
theorem a20 (d : List (List UInt8)) (l : List Wri) (t : Int) (hv : validD d = true) (hb : l.any (badW d) = false) (F : Frz) (vs : List Value) (hr : Rels F (inp []) [.agg (diskC d), .sl (l.map wrC), IC t] vs) :
    CallsA Try.prog 20 vs.toArray F [] (ApplyR2 (applyAll d (cutL l t))) := by
  have h25 := t25 d
  have h28 := fun w => t28 d w
  rw [hv] at h25
  obtain ⟨hd1, hd2, hpl⟩ := validD_iff.1 hv
  have hbw := badW_any hb
  have hokw : ∀ w ∈ l, okW d w = true := fun w hw => by
    have := List.any_eq_false.1 hb w hw
    simpa [badW] using this
  simp only [Rels] at hr
  obtain ⟨v0, _, rfl, hv0, v1, _, rfl, hv1, v2, _, rfl, hv2, rfl⟩ := hr
  have hv0' := hv0
  simp only [Rel, diskC, Rels] at hv0'
  obtain ⟨cs, rfl, c0, _, rfl, hc0, rfl⟩ := hv0'
  have hc0 : Rel F [] (.sl (d.map pgC)) c0 := by simp only [Rel]; exact hc0
  obtain ⟨a0, cc0, rfl, hca, hcm, hcn⟩ := sl_form hc0
  obtain ⟨a1, cc1, rfl, hla, hlm, hln⟩ := sl_form hv1
  simp only [Rel] at hv2
  obtain ⟨rfl, hwt⟩ := hv2
  have hN : (d.map pgC).length = d.length := List.length_map _
  have hM : (l.map wrC).length = l.length := List.length_map _
  rw [hN] at hca hcm hc0 hv0 ⊢
  rw [hM] at hla hlm hv1 ⊢
  have hlm' : l.length ≤ 9223372036854775807 := by simp only [maxLen] at hlm; omega
  refine callsA2_facts (svs := [_, _, _]) rfl facts20 rfl rfl (vals_own [_, _, _]) ?_ ?_
  · rintro F1 G L v hle ⟨ac, gs, h1, h2, h3, h4, h5⟩; exact ⟨ac, gs, h1, h2, h3, h4.mono hle, h5⟩
  intro g3 g6
  refine callTBool h25 ⟨_, _, rfl, hv0, rfl⟩ fun F2 hle2 => ?_
  refine loopNU l.length 7 [1, 2, 3, 6] [.v (.slice a1 l.length cc1), .v (.int .i64 t), .own 3 0, .own 6 0] ⟨rfl, rfl, rfl, rfl, trivial⟩ rfl [] () (fun _ _ => [])
    (fun k _ => [(3, .box g3 24 [.slice a0 d.length cc0]), (6, .box g6 24 [.slice none 0 0])]) (fun _ _ _ => True) trivial rfl trivial (givesR_of ⟨.inl rfl, .inl rfl, trivial⟩) (fun _ _ => ⟨⟨_, rfl⟩, ⟨_, rfl⟩, trivial⟩) ?_
  intro k _ F3 jk hle3 hk _ hre
  refine brn_p (fun hlt => ?_) (fun hge => ?_)
  · have hlt : k < l.length := by omega
    refine withGet hlt fun w hw hwm => ?_
    have hA := wr_at2 ((hv1.mono (Frz.le_trans hle2 hle3))) hw
    have hk28 := h28 w
    rw [hokw w hwm] at hk28
    refine exE hA fun a' hA => exE hA fun c' hA => ?_
    refine IdxPt.mk hA.2.2.1 (by omega) (by omega) ?_
    refine LoadDPt.mk ⟨_, rfl, .inl hA.1, ?_⟩
    refine callTBoolD hk28 ⟨_, _, rfl, (hv0.mono (Frz.le_trans hle2 hle3)), _, _, rfl, hA.2.2.2.2.lift, rfl⟩ fun F4 hle4 hre4 => ?_
    refine Fit.in64 (by omega) (by omega) ?_
    exact ⟨(k + 1, ()), ⟨hlt, trivial⟩, ⟨rfl, trivial⟩, givesR_of ⟨.inl rfl, .inl rfl, trivial⟩, nextM hlt⟩
  intro g8
  have e23 := Frz.le_trans hle2 hle3
  refine loopNU d.length 9 [1, 2, 3, 6, 8] [.v (.slice a1 l.length cc1), .v (.int .i64 t), .own 3 0, .own 6 0, .own 8 0] ⟨rfl, rfl, rfl, rfl, rfl, trivial⟩ rfl [] (((none, 0), []) : (Option Addr × Nat) × List (Nat × Nat)) (fun _ _ => [])
    (fun k s => (3, .box g3 24 [.slice a0 d.length cc0]) :: (6, .box g6 24 [.slice none 0 0]) :: (8, .box g8 24 [.slice s.1.1 k s.1.2]) :: (47, .row (.slice s.1.1 k s.1.2) 28 1 k (s.2.map pgV)) :: inpFrom 2000 (pgRows s.2 (d.take k)))
    (fun k s F => s.2.length = k) rfl rfl trivial (givesR_of ⟨.inl rfl, .inl rfl, .inl rfl, .inr ⟨rfl, 28, 1, rfl⟩, trivial⟩) (fun _ _ => ⟨⟨_, rfl⟩, ⟨_, rfl⟩, ⟨_, rfl⟩, trivial⟩) ?_
  intro k s F4 jk hle4 hk hG hre
  refine brn_p (fun hlt => ?_) (fun hge => ?_)
  · have hlt : k < d.length := by omega
    refine withGet hlt fun x hx hxm => ?_
    have hxl := hpl _ hxm
    have hA := pg_at (hc0.mono (Frz.le_trans e23 hle4)) hx
    have htk := take_snoc' hx
    refine exE hA fun a' hA => exE hA fun c' hA => ?_
    refine IdxPt.mk hA.2.2.1 (by omega) (by omega) ?_
    refine LoadDPt.mk ⟨_, rfl, .inl hA.1, ?_⟩
    have hnl : ∀ n, 8 < n → n < 2000 → n ≠ 47 → Loc.get ((3, .box g3 24 [.slice a0 d.length cc0]) :: (6, .box g6 24 [.slice none 0 0]) :: (8, .box g8 24 [.slice s.1.1 k s.1.2]) :: (47, .row (.slice s.1.1 k s.1.2) 28 1 k (s.2.map pgV)) :: inpFrom 2000 (pgRows s.2 (d.take k))) n = none := fun n h1 h2 h3 => by
      have := app_get (R := pgRows s.2 (d.take k)) n (A := [(3, .box g3 24 [.slice a0 d.length cc0]), (6, .box g6 24 [.slice none 0 0]), (8, .box g8 24 [.slice s.1.1 k s.1.2]), (47, .row (.slice s.1.1 k s.1.2) 28 1 k (s.2.map pgV))]) (by simp)
      refine Eq.trans this ?_
      rw [if_pos h2]
      have e : ∀ a, n ≠ a → Nat.beq a n = false := fun a h => by
        cases hb : Nat.beq a n with
        | false => rfl
        | true => exact absurd (Nat.eq_of_beq_eq_true hb).symm h
      simp only [Loc.get, e 3 (by omega), e 6 (by omega), e 8 (by omega), e 47 h3]
    have hrows : ∀ j o, (pgRows s.2 (d.take k))[j]? = some o → Loc.get ((3, .box g3 24 [.slice a0 d.length cc0]) :: (6, .box g6 24 [.slice none 0 0]) :: (8, .box g8 24 [.slice s.1.1 k s.1.2]) :: (47, .row (.slice s.1.1 k s.1.2) 28 1 k (s.2.map pgV)) :: inpFrom 2000 (pgRows s.2 (d.take k))) (2000 + j) = some o := fun j o h => by
      have := app_get (R := pgRows s.2 (d.take k)) (2000 + j) (A := [(3, .box g3 24 [.slice a0 d.length cc0]), (6, .box g6 24 [.slice none 0 0]), (8, .box g8 24 [.slice s.1.1 k s.1.2]), (47, .row (.slice s.1.1 k s.1.2) 28 1 k (s.2.map pgV))]) (by simp)
      refine Eq.trans this ?_
      rw [if_neg (by omega), Nat.add_sub_cancel_left]
      exact h
    refine matchNone3 (o := Loc.get ((3, .box g3 24 [.slice a0 d.length cc0]) :: (6, .box g6 24 [.slice none 0 0]) :: (8, .box g8 24 [.slice s.1.1 k s.1.2]) :: (47, .row (.slice s.1.1 k s.1.2) 28 1 k (s.2.map pgV)) :: inpFrom 2000 (pgRows s.2 (d.take k))) 39) (b := true) (c := true) (hnl 39 (by omega) (by omega) (by omega)) rfl rfl ?_
    intro g39 hre39
    have hsrc := src_bytes hA.2.1
    refine appDF 39 0 [] x.length (bvals x) (.inl ?_) (by rw [bvals_len, Nat.mul_one]) (hsrc.imp (fun h => h) (fun h => h)) (bvals_ones _) (by simp only [maxLen]; omega) (by omega) (fun a39 c39 hn39 hre39' => ?_)
    · rw [Loc.get_set, if_pos rfl]; rfl
    have hr39 := real_row (k := 39) hre39' (by rw [Loc.get_set, if_pos rfl])
    intro g46 F5 hle5 hF46 hre5
    have hgc : ∃ gc : Nat × Nat, Value.slice a39 (0 + x.length) c39 = pgV gc := by
      rcases hr39.2 with ⟨h, h0⟩ | ⟨g, c, h, _⟩
      · omega
      · refine ⟨(g, c), ?_⟩
        rw [h, Nat.zero_add, hxl]
    refine exE hgc fun gc hgc => ?_
    have hset39 : ∀ n, n ≠ 39 → Loc.get (Loc.set (Loc.set ((3, .box g3 24 [.slice a0 d.length cc0]) :: (6, .box g6 24 [.slice none 0 0]) :: (8, .box g8 24 [.slice s.1.1 k s.1.2]) :: (47, .row (.slice s.1.1 k s.1.2) 28 1 k (s.2.map pgV)) :: inpFrom 2000 (pgRows s.2 (d.take k))) 39 (.row (.slice (some ⟨g39, 0, none⟩) 0 0) 5 1 0 (List.replicate 0 [undef]).flatten)) 39 (.row (.slice a39 (0 + x.length) c39) 5 1 (0 + x.length) ([] ++ bvals x))) n = Loc.get ((3, .box g3 24 [.slice a0 d.length cc0]) :: (6, .box g6 24 [.slice none 0 0]) :: (8, .box g8 24 [.slice s.1.1 k s.1.2]) :: (47, .row (.slice s.1.1 k s.1.2) 28 1 k (s.2.map pgV)) :: inpFrom 2000 (pgRows s.2 (d.take k))) n := fun n h => by
      rw [Loc.get_set, if_neg h, Loc.get_set, if_neg h]
    refine appDF 47 k (s.2.map pgV) 1 [.slice a39 (0 + x.length) c39] (.inl ?_) rfl (.inl (lit_cells hF46)) ?_ (by simp only [maxLen]; omega) (by omega) (fun a47 c47 hn47 hre47 => ?_)
    · refine (hset39 47 (by omega)).trans rfl
    · intro u hu
      cases hu with
      | head => rfl
      | tail _ h => cases h
    refine Fit.in64 (by omega) (by omega) ?_
    refine ⟨(k + 1, ((a47, c47), s.2 ++ [gc])), ⟨hlt, by simp [hG]⟩, ⟨rfl, trivial⟩, ?_, nextM hlt⟩
    have hpr : pgRow gc x = .row (.slice a39 (0 + x.length) c39) 5 1 (0 + x.length) ([] ++ bvals x) := by
      rw [hgc, Nat.zero_add, hxl]; rfl
    refine givesA (A := [(3, .box g3 24 [.slice a0 d.length cc0]), (6, .box g6 24 [.slice none 0 0]), (8, .box g8 24 [.slice a47 (k + 1) c47]), (47, .row (.slice a47 (k + 1) c47) 28 1 (k + 1) ((s.2 ++ [gc]).map pgV))]) (by simp) (kn := 39) (new := pgRow gc x) (rows := pgRows s.2 (d.take k)) (get4 ?_ ?_ ?_ ?_) rfl (by omega) ?_ ?_ ?_
    · exact ((Loc.get_set _ _ _ _).trans (if_neg (by omega))).trans (((Loc.get_set _ _ _ _).trans (if_neg (by omega))).trans ((hset39 3 (by omega)).trans rfl))
    · exact ((Loc.get_set _ _ _ _).trans (if_neg (by omega))).trans (((Loc.get_set _ _ _ _).trans (if_neg (by omega))).trans ((hset39 6 (by omega)).trans rfl))
    · exact ((Loc.get_set _ _ _ _).trans (if_pos rfl)).trans rfl
    · refine ((Loc.get_set _ _ _ _).trans (if_neg (by omega))).trans (((Loc.get_set _ _ _ _).trans (if_pos rfl)).trans ?_)
      rw [hgc, List.map_append]; rfl
    · refine ((Loc.get_set _ _ _ _).trans (if_neg (by omega))).trans (((Loc.get_set _ _ _ _).trans (if_neg (by omega))).trans ?_)
      refine ((Loc.get_set _ _ _ _).trans (if_pos rfl)).trans ?_
      rw [hpr]
    · intro j o hj
      refine ((Loc.get_set _ _ _ _).trans (if_neg (by omega))).trans (((Loc.get_set _ _ _ _).trans (if_neg (by omega))).trans ?_)
      refine (hset39 (2000 + j) (by omega)).trans (hrows j o hj)
    · show pgRows (s.2 ++ [gc]) (d.take (k + 1)) = _
      rw [htk, pgRows_snoc (by rw [hG, List.length_take]; omega)]
  have hk' : k = d.length := by omega
  have hGn : s.2.length = d.length := by omega
  have htd : d.take k = d := by rw [hk', List.take_length]
  refine FrzPt.mk ⟨_, _, _, _, _, rfl, fun F5 hle5 hr47 => ?_⟩
  have hs1 : ∃ ad, s.1.1 = some ad ∧ FCells F5 s.1.1 0 (s.2.map pgV) ∧ d.length ≤ s.1.2 := by
    rcases hr47 with ⟨_, h, _⟩ | ⟨a, c, h, h2, h3⟩
    · omega
    · injection h with h4 h5 h6
      exact ⟨a, h4, by rw [h4]; exact h2, by omega⟩
  refine exE hs1 fun a47 hs1 => ?_
  have hcell : ∀ (i : Nat) gc, s.2[i]? = some gc → FCells F5 s.1.1 (i * 1) [pgV gc] := fun i gc h => by rw [Nat.mul_one]; exact fcells_at hs1.2.1 (by rw [List.getElem?_map, h]; rfl)
  have hne47 : s.1.1 ≠ none := by rw [hs1.1]; simp
  have hget0 : ∀ w k, l[k]? = some w → (cutL l t)[k]? = some (w.1, if k + 1 = l.length then cutT w.2 t else w.2) := fun w k h => cutL_get l t k w h
  have hVl : ∀ k, (applyAll d ((cutL l t).take k)).length = d.length := fun k => applyAll_len _ _
  have hVp : ∀ k, ∀ p ∈ applyAll d ((cutL l t).take k), p.length = 256 := fun k => applyAll_page _ _ hpl
  have hVs : ∀ k w, (cutL l t)[k]? = some w → applyAll d ((cutL l t).take (k + 1)) = setP (applyAll d ((cutL l t).take k)) w := fun k w h => applyAll_snoc h
  have hV0 : applyAll d ((cutL l t).take 0) = d := rfl
  have hVe : applyAll d ((cutL l t).take l.length) = applyAll d (cutL l t) := by rw [← cutL_len l t, List.take_length]
  generalize cutL l t = cl at hget0 hVl hVp hVs hV0 hVe ⊢
  refine loopNU l.length 10 [1, 2, 3, 6, 8] [.v (.slice a1 l.length cc1), .v (.int .i64 t), .own 3 0, .own 6 0, .own 8 0] ⟨rfl, rfl, rfl, rfl, rfl, trivial⟩ rfl [] () (fun _ _ => [])
    (fun k' _ => (3, .box g3 24 [.slice a0 d.length cc0]) :: (6, .box g6 24 [.slice none 0 0]) :: (8, .box g8 24 [.slice s.1.1 k s.1.2]) :: inpFrom 2000 (pgRows s.2 (applyAll d (cl.take k'))))
    (fun _ _ _ => True) trivial rfl trivial ?_ (fun _ _ => ⟨⟨_, rfl⟩, ⟨_, rfl⟩, ⟨_, rfl⟩, ?_⟩) ?_
  · refine givesB (A := [(3, .box g3 24 [.slice a0 d.length cc0]), (6, .box g6 24 [.slice none 0 0]), (8, .box g8 24 [.slice s.1.1 k s.1.2])]) (by simp) (get3 ?_ ?_ ?_) ?_
    · rfl
    · rfl
    · rfl
    · intro j o hj
      refine (Loc.get_del _ _ _).trans ((if_neg (by omega)).trans ?_)
      have := app_get (R := pgRows s.2 (d.take k)) (2000 + j) (A := [(3, .box g3 24 [.slice a0 d.length cc0]), (6, .box g6 24 [.slice none 0 0]), (8, .box g8 24 [.slice s.1.1 k s.1.2]), (47, .row (.slice s.1.1 k s.1.2) 28 1 k (s.2.map pgV))]) (by simp)
      refine Eq.trans this ?_
      rw [if_neg (by omega), Nat.add_sub_cancel_left, htd]
      rwa [hV0] at hj
  · exact keeps_del 47 _ (keeps_rows _ _ _)
  intro k2 _ F6 jk hle6 hk2 _ hre
  refine brn_p (fun hlt => ?_) (fun hge => ?_)
  · have hlt : k2 < l.length := by omega
    refine withGet hlt fun w hw hwm => ?_
    have e26 := Frz.le_trans (Frz.le_trans (Frz.le_trans e23 hle4) hle5) hle6
    have hA := wr_at2 (hv1.mono e26) hw
    have hww := hbw w hwm
    have hw1 := hww.1
    have hw2 := hww.2.1
    have hw3 := hww.2.2
    refine exE hA fun a' hA => exE hA fun c' hA => ?_
    have hrowk : ∀ j o, (pgRows s.2 (applyAll d (cl.take k2)))[j]? = some o → Loc.get ((3, .box g3 24 [.slice a0 d.length cc0]) :: (6, .box g6 24 [.slice none 0 0]) :: (8, .box g8 24 [.slice s.1.1 k s.1.2]) :: inpFrom 2000 (pgRows s.2 (applyAll d (cl.take k2)))) (2000 + j) = some o := fun j o h => by
      have := app_get (R := pgRows s.2 (applyAll d (cl.take k2))) (2000 + j) (A := [(3, .box g3 24 [.slice a0 d.length cc0]), (6, .box g6 24 [.slice none 0 0]), (8, .box g8 24 [.slice s.1.1 k s.1.2])]) (by simp)
      refine Eq.trans this ?_
      rw [if_neg (by omega), Nat.add_sub_cancel_left]
      exact h
    have hrw := hA.2.1
    have hcc := sl_cap hrw
    refine IdxPt.mk hA.2.2.1 (by omega) (by omega) ?_
    refine LoadPt.mk ⟨_, rfl, .inl (fcells_drop hA.1), ?_⟩
    refine Fit.in64 (by omega) (by omega) ?_
    refine norm Try.prog ((3, .box g3 24 [.slice a0 d.length cc0]) :: (6, .box g6 24 [.slice none 0 0]) :: (8, .box g8 24 [.slice s.1.1 k s.1.2]) :: inpFrom 2000 (pgRows s.2 (applyAll d (cl.take k2)))) rfl
      [1, 2, 3, 6, 8, 10, 11, 60, 63] [.v (.slice a1 l.length cc1), .v (.int .i64 t), .own 3 0, .own 6 0, .own 8 0, .v (.int .i64 k2), .v (.slice a' w.2.length c'), .v (.int .i64 k2), .v (.int .i64 ((l.length : Int) - 1))] ⟨rfl, rfl, rfl, rfl, rfl, rfl, rfl, rfl, rfl, trivial⟩ fun ρ1 => ?_
    refine reg17 (.slice a1 l.length cc1) t k2 l.length w.2.length c' a' hlm' ?_ ?_
    · intro h1 h2 h3 ρ2
      refine SlcPt.mk (by omega) (by omega) (by omega) ?_
      have hrs := rel_slc (L' := []) hrw (l := (0 : Int).toNat) (h := t.toNat) (by simp) (by omega)
      have hB : (if k2 + 1 = l.length then cutT w.2 t else w.2) = (w.2.drop (0 : Int).toNat).take (t.toNat - (0 : Int).toNat) := by
        have ht : (w.2.drop (0 : Int).toNat).take (t.toNat - (0 : Int).toNat) = w.2.take t.toNat := rfl
        rw [if_pos (by omega), cutT, ht]
        split
        · rfl
        · rw [List.take_of_length_le (by omega)]
      have hBl : ((w.2.drop (0 : Int).toNat).take (t.toNat - (0 : Int).toNat)).length = t.toNat := by
        rw [List.length_take, List.length_drop]; simp; omega
      have hcl := hget0 w k2 hw
      rw [hB] at hcl
      have hVs1 := hVs k2 _ hcl
      have hpi : w.1.toNat < (applyAll d (cl.take k2)).length := by rw [hVl]; omega
      refine withGet hpi fun pg hpg hpgm => ?_
      have hpgl := hVp k2 pg hpgm
      have hgi : w.1.toNat < s.2.length := by omega
      refine withGet hgi fun gc hgc _ => ?_
      have hrow := pgRows_get hgc hpg
      refine IdxPt.mk hA.2.2.1 (by omega) (by omega) ?_
      refine LoadDPt.mk ⟨_, rfl, .inl (fcells_head hA.1), ?_⟩
      refine IdxPt.mk hne47 hw1 (by omega) ?_
      refine LoadDPt.mk ⟨[pgV gc], rfl, .inl ((hcell w.1.toNat gc hgc).mono hle6), ?_⟩
      refine CopyPt.mk ⟨2000 + w.1.toNat, 256, pgV gc, 256, bvals pg, ⟨gc.1, 0, none⟩, gc.2, gc.2, 0, _, _, _, bvals (((w.2.drop (0 : Int).toNat).take (t.toNat - (0 : Int).toNat)).take (pg.length - 0)), hrowk w.1.toNat _ hrow, rfl, rfl, by omega, rfl, ?_, ?_, bvals_ones _, ?_⟩
      · rw [bvals_len, List.length_take, hpgl]; rw [hBl]; show _ = min (t.toNat - 0) 256 * 1; omega
      · exact (src_bytes hrs).imp (fun h => bvals_take ▸ fcells_take h) (fun h => ⟨by have := h.1; show min (t.toNat - 0) 256 = 0; omega, by rw [bvals_take, h.2]; simp⟩)
      intro hreX
      refine Fit.in64 (by omega) (by omega) ?_
      refine ⟨(k2 + 1, ()), ⟨hlt, trivial⟩, ⟨rfl, trivial⟩, ?_, nextM hlt⟩
      refine givesB (A := [(3, .box g3 24 [.slice a0 d.length cc0]), (6, .box g6 24 [.slice none 0 0]), (8, .box g8 24 [.slice s.1.1 k s.1.2])]) (by simp) (get3 ?_ ?_ ?_) ?_
      · exact ((Loc.get_set _ _ _ _).trans (if_neg (by omega))).trans rfl
      · exact ((Loc.get_set _ _ _ _).trans (if_neg (by omega))).trans rfl
      · exact ((Loc.get_set _ _ _ _).trans (if_neg (by omega))).trans rfl
      · intro j o hj
        rw [hVs1, setP_get (w := (w.1, ((w.2.drop (0 : Int).toNat).take (t.toNat - (0 : Int).toNat)))) hpg] at hj
        rcases pg_set hj with ⟨rfl, gc', e1, rfl⟩ | ⟨hne, hj⟩
        · rw [hgc] at e1
          injection e1 with e1
          subst e1
          refine ((Loc.get_set _ _ _ _).trans (if_pos rfl)).trans ?_
          exact congrArg some (pg_over hpgl)
        · exact ((Loc.get_set _ _ _ _).trans (if_neg (by omega))).trans (hrowk j o hj)
    · intro h1 ρ2
      have hB : (if k2 + 1 = l.length then cutT w.2 t else w.2) = w.2 := by
        split
        · rw [cutT, if_neg (by omega)]
        · rfl
      have hcl := hget0 w k2 hw
      rw [hB] at hcl
      have hVs1 := hVs k2 _ hcl
      have hpi : w.1.toNat < (applyAll d (cl.take k2)).length := by rw [hVl]; omega
      refine withGet hpi fun pg hpg hpgm => ?_
      have hpgl := hVp k2 pg hpgm
      have hgi : w.1.toNat < s.2.length := by omega
      refine withGet hgi fun gc hgc _ => ?_
      have hrow := pgRows_get hgc hpg
      refine IdxPt.mk hA.2.2.1 (by omega) (by omega) ?_
      refine LoadDPt.mk ⟨_, rfl, .inl (fcells_head hA.1), ?_⟩
      refine IdxPt.mk hne47 hw1 (by omega) ?_
      refine LoadDPt.mk ⟨[pgV gc], rfl, .inl ((hcell w.1.toNat gc hgc).mono hle6), ?_⟩
      refine CopyPt.mk ⟨2000 + w.1.toNat, 256, pgV gc, 256, bvals pg, ⟨gc.1, 0, none⟩, gc.2, gc.2, 0, _, _, _, bvals (w.2.take (pg.length - 0)), hrowk w.1.toNat _ hrow, rfl, rfl, by omega, rfl, ?_, ?_, bvals_ones _, ?_⟩
      · rw [bvals_len, List.length_take, hpgl]; omega
      · exact (src_bytes hrw).imp (fun h => bvals_take ▸ fcells_take h) (fun h => ⟨by omega, by rw [bvals_take, h.2]; simp⟩)
      intro hreX
      refine Fit.in64 (by omega) (by omega) ?_
      refine ⟨(k2 + 1, ()), ⟨hlt, trivial⟩, ⟨rfl, trivial⟩, ?_, nextM hlt⟩
      refine givesB (A := [(3, .box g3 24 [.slice a0 d.length cc0]), (6, .box g6 24 [.slice none 0 0]), (8, .box g8 24 [.slice s.1.1 k s.1.2])]) (by simp) (get3 ?_ ?_ ?_) ?_
      · exact ((Loc.get_set _ _ _ _).trans (if_neg (by omega))).trans rfl
      · exact ((Loc.get_set _ _ _ _).trans (if_neg (by omega))).trans rfl
      · exact ((Loc.get_set _ _ _ _).trans (if_neg (by omega))).trans rfl
      · intro j o hj
        rw [hVs1, setP_get (w := (w.1, w.2)) hpg] at hj
        rcases pg_set hj with ⟨rfl, gc', e1, rfl⟩ | ⟨hne, hj⟩
        · rw [hgc] at e1
          injection e1 with e1
          subst e1
          refine ((Loc.get_set _ _ _ _).trans (if_pos rfl)).trans ?_
          exact congrArg some (pg_over hpgl)
        · exact ((Loc.get_set _ _ _ _).trans (if_neg (by omega))).trans (hrowk j o hj)
  have hk3 : k2 = l.length := by omega
  have hVk : applyAll d (cl.take k2) = applyAll d cl := by rw [hk3, hVe]
  have hle : (applyAll d cl).length = d.length := applyAll_len _ _
  have hpl2 : (pgRows s.2 (applyAll d (cl.take k2))).length = d.length := by rw [pgRows_len (by rw [hVk, hle, hGn]), hVk, hle]
  refine RetPt.mk ⟨List.range' 2000 d.length, pgRows s.2 (applyAll d (cl.take k2)), ?_, List.nodup_range', a47, s.1.2, s.2, ?_, ?_, ?_, ?_, ?_⟩
  · refine Eq.trans (congrArg (fun n => Loc.sub _ (List.range' 2000 n)) hpl2.symm) ?_
    refine sub_range fun j o hj => ?_
    refine ((Loc.get_set _ _ _ _).trans (if_neg (by omega))).trans ?_
    have := app_get (R := pgRows s.2 (applyAll d (cl.take k2))) (2000 + j) (A := [(3, .box g3 24 [.slice a0 d.length cc0]), (6, .box g6 24 [.slice none 0 0]), (8, .box g8 24 [.slice s.1.1 k s.1.2])]) (by simp)
    refine Eq.trans this ?_
    rw [if_neg (by omega), Nat.add_sub_cancel_left]
    exact hj
  · rw [hle, hGn]
  · rw [hVk]
  · rw [← hs1.1]; exact hs1.2.1.mono hle6
  · rw [hle]; exact hs1.2.2
  · rw [hle, ← hs1.1, ← hk']; rfl
end Go.Fr.Try

/- Disk: Apply's contract, the reference. -/
set_option linter.unusedVariables false
set_option linter.unusedSimpArgs false
namespace Go.Fr.Try
open Go Go.RowKit Go.Proofs Go.Fr Go.Fr.T
theorem applyR2_rel {F : Frz} {w : World} {ps : List (List UInt8)} {Lo : List Own} {v : Value} (hpl : ∀ p ∈ ps, p.length = 256) (hm : ps.length ≤ maxLen) (hs : St F (inp Lo) w) (h : ApplyR2 ps F Lo v) :
    ∃ F2, St F2 [] w ∧ Step F (inp Lo) w F2 [] w ∧ Rel F2 (inp []) (.agg (diskC ps)) v := by
  obtain ⟨a, c, G, hG, rfl, hf, hc, rfl⟩ := h
  have hmem : ∀ (j : Nat) gc p, G[j]? = some gc → ps[j]? = some p → pgRow gc p ∈ pgRows G ps := fun j gc p h1 h2 => List.mem_of_getElem? (pgRows_get h1 h2)
  obtain ⟨F2, h1, h2, h3, h4⟩ := freezeAll hs (by
    intro o ho
    simp only [pgRows] at ho
    obtain ⟨i, hi⟩ := List.getElem?_of_mem ho
    simp only [List.getElem?_zipWith] at hi
    cases e1 : G[i]? <;> cases e2 : ps[i]? <;> rw [e1, e2] at hi <;> simp at hi
    subst hi
    exact ⟨_, _, _, _, _, rfl⟩)
  refine ⟨F2, h2, h3, ?_⟩
  have hp : ∀ (j : Nat) gc p, G[j]? = some gc → ps[j]? = some p → Rel F2 [] (.sl (bcells p)) (pgV gc) := by
    intro j gc p e1 e2
    have hl := hpl p (List.mem_of_getElem? e2)
    have hf := h4 (pgV gc) 5 1 256 (bvals p) (hmem j gc p e1 e2)
    rw [← hl] at hf
    have := frow_bytes (L := []) hf (by rw [hl]; simp [maxLen])
    exact this
  have hr := relRow_pages hG hp
  have hfr : FRow F2 (.slice (some a) ps.length c) 1 ps.length (G.map pgV) := .inr ⟨a, c, rfl, hf.mono h1, hc⟩
  have hf := frow_rel (L := []) hfr hr (by simp) hm
  exact agg_disk hf
set_option maxRecDepth 10000 in
theorem n20 (d : List (List UInt8)) (l : List Wri) (t : Int) (hv : (validD d && !(l.any (badW d))) = false) (F : Frz) (vs : List Value) (hr : Rels F (inp []) [.agg (diskC d), .sl (l.map wrC), IC t] vs) :
    CallsA Try.prog 20 vs.toArray F [] (ResA [] (Ret [] (.agg (diskC [])))) := by
  have h25 := t25 d
  have h28 := fun w => t28 d w
  simp only [Rels] at hr
  obtain ⟨v0, _, rfl, hv0, v1, _, rfl, hv1, v2, _, rfl, hv2, rfl⟩ := hr
  have hv0' := hv0
  simp only [Rel, diskC, Rels] at hv0'
  obtain ⟨cs, rfl, c0, _, rfl, hc0, rfl⟩ := hv0'
  have hc0 : Rel F [] (.sl (d.map pgC)) c0 := by simp only [Rel]; exact hc0
  obtain ⟨a1, cc1, rfl, hla, hlm, hln⟩ := sl_form hv1
  simp only [Rel] at hv2
  obtain ⟨rfl, hwt⟩ := hv2
  have hM : (l.map wrC).length = l.length := List.length_map _
  rw [hM] at hla hlm hv1 ⊢
  have hlm' : l.length ≤ 9223372036854775807 := by simp only [maxLen] at hlm; omega
  have hnil : ∀ {F : Frz}, Rel F (inp []) (.agg (diskC [])) (.agg #[.slice none 0 0]) := by
    intro F
    exact agg_disk (d := []) nil_sl
  have hall : validD d = true → ¬ ∀ w ∈ l, okW d w = true := fun h1 h2 => by
    rw [h1, badW_false h2] at hv
    cases hv
  generalize validD d = b1 at h25 hall
  clear hv
  refine callsA2_facts (svs := [_, _, _]) rfl facts20 rfl rfl (vals_own [_, _, _]) ResA.mono' ?_
  intro g3 g6
  refine callTBool h25 ⟨_, _, rfl, hv0, rfl⟩ fun F2 hle2 => ?_
  refine brn_split (fun hb => ?_) (fun hb => ?_)
  · exact ⟨[], [], rfl, .nil, resVal' rfl hnil⟩
  have hb1 : b1 = true := by cases b1; cases hb; rfl
  refine loopNU l.length 7 [1, 3, 6] [.v (.slice a1 l.length cc1), .own 3 0, .own 6 0] ⟨rfl, rfl, rfl, trivial⟩ rfl [] () (fun _ _ => [])
    (fun k _ => [(3, .box g3 24 [c0]), (6, .box g6 24 [.slice none 0 0])]) (fun k _ _ => ∀ w ∈ l.take k, okW d w = true) (by simp) rfl trivial (givesR_of ⟨.inl rfl, .inl rfl, trivial⟩) (fun _ _ => ⟨⟨_, rfl⟩, ⟨_, rfl⟩, trivial⟩) ?_
  intro k _ F3 jk hle3 hk hinv hre
  refine brn_p (fun hlt => ?_) (fun hge => ?_)
  · have hlt : k < l.length := by omega
    refine withGet hlt fun w hw hwm => ?_
    have hA := wr_at2 ((hv1.mono (Frz.le_trans hle2 hle3))) hw
    have hk28 := h28 w
    refine exE hA fun a' hA => exE hA fun c' hA => ?_
    refine IdxPt.mk hA.2.2.1 (by omega) (by omega) ?_
    refine LoadDPt.mk ⟨_, rfl, .inl hA.1, ?_⟩
    refine callTBoolD hk28 ⟨_, _, rfl, (hv0.mono (Frz.le_trans hle2 hle3)), _, _, rfl, hA.2.2.2.2.lift, rfl⟩ fun F4 hle4 hre4 => ?_
    refine brn_split (fun hq => ?_) (fun hq => ?_)
    · exact ⟨[], [], rfl, .nil, resVal' rfl hnil⟩
    have hok : okW d w = true := by
      cases h : okW d w with
      | true => rfl
      | false => rw [h] at hq; cases hq
    refine Fit.in64 (by omega) (by omega) ?_
    exact ⟨(k + 1, ()), ⟨hlt, take_all hinv hw hok⟩, ⟨rfl, trivial⟩, givesR_of ⟨.inl rfl, .inl rfl, trivial⟩, nextM hlt⟩
  · have hall2 := hall hb1
    have : ∀ w ∈ l, okW d w = true := by
      have := hinv
      rwa [List.take_of_length_le (by omega)] at this
    exact absurd this hall2
theorem t20 (d : List (List UInt8)) (l : List Wri) (t : Int) : CallsT Try.prog 20 [.agg (diskC d), .sl (l.map wrC), IC t] [] (Ret [] (.agg (diskC (applyD d l t)))) := by
  refine ⟨fun F Li vs hl0 ht hr => ?_⟩
  have hLi : Li = [] := List.length_eq_zero_iff.1 hl0
  subst hLi
  by_cases hv : (validD d && !(l.any (badW d))) = true
  · have e : applyD d l t = applyAll d (cutL l t) := by unfold applyD; rw [if_pos hv]
    rw [e]
    simp only [Bool.and_eq_true, Bool.not_eq_true'] at hv
    have h := a20 d l t hv.1 hv.2 F vs hr
    have hd := validD_iff.1 hv.1
    refine ⟨h.ent, ResA.mono', fun w hs => Calls.mono (h.run w hs) ?_⟩
    rintro e w' ⟨v, F', Lo, rfl, h1, h2, h3⟩
    obtain ⟨F2, g1, g2, g3⟩ := applyR2_rel (applyAll_page _ _ hd.2.2) (by rw [applyAll_len]; simp only [maxLen]; omega) h1 h3
    exact ⟨v, F2, [], rfl, g1, h2.trans g2, resVal' rfl g3⟩
  · have hv : (validD d && !(l.any (badW d))) = false := by simpa using hv
    have e : applyD d l t = [] := by unfold applyD; rw [hv]; rfl
    rw [e]
    exact n20 d l t hv F vs hr
end Go.Fr.Try

/- Disk: what an append leaves, cut anywhere, in the plain model. -/
set_option linter.unusedVariables false
set_option linter.unusedSimpArgs false
namespace Go.Fr.Try
open Go Go.RowKit Go.Proofs Go.Fr Go.Fr.T
theorem pres_le (d : List (List UInt8)) : presD d ≤ 1 := by unfold presD; split <;> omega
/-- a disk that has the records and the generation of another -/
structure Keeps (d d' : List (List UInt8)) : Prop where
  valid : validD d' = true
  len : d'.length = d.length
  pres : presD d' = presD d
  gen : gen0 d' = gen0 d
  recs : parse (spaceD d' (presD d)) = parse (spaceD d (presD d))
theorem Keeps.refl {d : List (List UInt8)} (h : validD d = true) : Keeps d d := ⟨h, rfl, rfl, rfl, rfl⟩
theorem Keeps.recsD {d d' : List (List UInt8)} (k : Keeps d d') (h : validD d = true) : recsD d' = recsD d := by
  unfold Try.recsD
  rw [if_pos h, if_pos k.valid, k.pres, k.recs]
theorem head_congr {d d' : List (List UInt8)} {h : Nat} (hl : d'.length = d.length) (hp : d'[h * (d.length / 2)]? = d[h * (d.length / 2)]?) : headP d' h = headP d h := by
  unfold headP
  rw [hl, hp]
theorem pres_congr {d d' : List (List UInt8)} (h0 : headP d' 0 = headP d 0) (h1 : headP d' 1 = headP d 1) : presD d' = presD d ∧ gen0 d' = gen0 d := by
  have e : presD d' = presD d := by unfold presD; rw [h0, h1]
  refine ⟨e, ?_⟩
  unfold gen0
  rw [e]
  have := pres_le d
  rcases (show presD d = 0 ∨ presD d = 1 by omega) with h | h <;> rw [h] <;> simp only [h0, h1]
/-- only the space of a half has changed -/
theorem heads_of {d d' : List (List UInt8)} {h : Nat} (hh : h ≤ 1) (hl : d'.length = d.length) (hp : ∀ p : Nat, p ≤ h * (d.length / 2) ∨ h * (d.length / 2) + d.length / 2 ≤ p → d'[p]? = d[p]?) : headP d' 0 = headP d 0 ∧ headP d' 1 = headP d 1 := by
  refine ⟨head_congr hl (hp _ (by omega)), head_congr hl (hp _ ?_)⟩
  rcases (show h = 0 ∨ h = 1 by omega) with rfl | rfl <;> omega
theorem overlay_take (s b : List UInt8) (k x : Nat) (hk : k ≤ s.length) (hx : x ≤ k) : (overlay s k b).take x = s.take x := by
  unfold overlay
  rw [List.append_assoc, List.take_append_of_le_length (by rw [List.length_take]; omega), List.take_take, Nat.min_eq_left hx]
theorem overlay_drop (s b : List UInt8) (k : Nat) (hk : k ≤ s.length) : (overlay s k b).drop k = b.take (s.length - k) ++ s.drop (k + min b.length (s.length - k)) := by
  unfold overlay
  rw [List.append_assoc, List.drop_left' (by rw [List.length_take]; omega)]
theorem overlay_whole (s b : List UInt8) (k : Nat) (hk : k ≤ s.length) : (overlay s k b).take (k + min b.length (s.length - k)) ++ s.drop (k + min b.length (s.length - k)) = overlay s k b := by
  have h : (s.take k ++ b.take (s.length - k)).length = k + min b.length (s.length - k) := by
    rw [List.length_append, List.length_take, List.length_take]; omega
  unfold overlay
  rw [List.take_left' h]
theorem pre_same {O s : List UInt8} {x : Nat} (h : O.take x = s.take x) : O.take x ++ s.drop x = s := by rw [h, List.take_append_drop]
theorem parse_at0 {s S : List UInt8} (h : S.take (parse s).2 = s.take (parse s).2) (h0 : S[(parse s).2]? = some 0) : parse S = parse s := by
  refine parse_off h fun x t e => ?_
  have : (S.drop (parse s).2)[0]? = some x := by rw [e]; rfl
  rw [List.getElem?_drop, Nat.add_zero, h0] at this
  exact (Option.some.inj this).symm
theorem drop_get0 {S t : List UInt8} {k : Nat} {x : UInt8} (h : S.drop k = x :: t) : S[k]? = some x := by
  have : (S.drop k)[0]? = some x := by rw [h]; rfl
  rwa [List.getElem?_drop, Nat.add_zero] at this
theorem take_at {s O T : List UInt8} {k x : Nat} (hx : k ≤ x) (hl : x ≤ O.length) : (O.take x ++ T).take k = O.take k := by
  rw [List.take_append_of_le_length (by rw [List.length_take]; omega), List.take_take, Nat.min_eq_left hx]
theorem get_at {O T : List UInt8} {k x : Nat} (hx : k < x) (hl : x ≤ O.length) : (O.take x ++ T)[k]? = O[k]? := by
  rw [List.getElem?_append_left (by rw [List.length_take]; omega), List.getElem?_take, if_pos hx]
theorem applyAll_app (d : List (List UInt8)) (l m : List Wri) : applyAll d (l ++ m) = applyAll (applyAll d l) m := applyAll_append d l m
/-- the writes of an append that can be done, and where it writes -/
theorem append_eq {d : List (List UInt8)} {r : List UInt8} (he : (appendD d r).2 = 0) : validD d = true ∧ r.length ≤ 65535 ∧ (parse (spaceD d (presD d))).2 + 3 + r.length ≤ (spaceD d (presD d)).length ∧
    (appendD d r).1 = coverW (presD d * (d.length / 2) + 1) (spaceD d (presD d)) (parse (spaceD d (presD d))).2 (frameB 0 r ++ [0]) ++ coverW (presD d * (d.length / 2) + 1) (spaceD d (presD d)) (parse (spaceD d (presD d))).2 [1] := by
  unfold appendD at he ⊢
  split at he
  · cases he
  · rename_i h1
    rw [if_neg h1]
    split at he
    · cases he
    · rename_i h2
      rw [if_neg h2]
      refine ⟨?_, by omega, by omega, rfl⟩
      cases hv : validD d
      · exact absurd (.inl hv) h1
      · rfl
theorem append_ok {d : List (List UInt8)} {r : List UInt8} (he : (appendD d r).2 = 0) :
    (∀ w ∈ (appendD d r).1, okW d w = true) ∧ 0 < bytesW (appendD d r).1 ∧ (∀ n, n < bytesW (appendD d r).1 → Keeps d (applyAll d (part (appendD d r).1 n))) ∧
    ∀ d', d' = applyAll d (appendD d r).1 → validD d' = true ∧ d'.length = d.length ∧ (∀ p : Nat, p ≤ presD d * (d.length / 2) ∨ presD d * (d.length / 2) + d.length / 2 ≤ p → d'[p]? = d[p]?) ∧
      (spaceD d' (presD d)).take (parse (spaceD d (presD d))).2 = (spaceD d (presD d)).take (parse (spaceD d (presD d))).2 ∧ (parse (spaceD d' (presD d))).1 = (parse (spaceD d (presD d))).1 ++ [r] := by
  obtain ⟨hv, hr, hroom, el⟩ := append_eq he
  rw [el]
  have hh := pres_le d
  have hps := parse_split (spaceD d (presD d)).length (spaceD d (presD d)) (Nat.le_refl _)
  have hfl : (frameB 0 r ++ [0]).length = r.length + 4 := by rw [List.length_append, frameB_len]; simp; omega
  have hfe : frameB 0 r ++ [0] = 0 :: UInt8.ofNat (r.length / 256) :: UInt8.ofNat (r.length % 256) :: (r ++ [0]) := rfl
  have c1 := fun n => cover_part (d1 := d) (n := n) (b := frameB 0 r ++ [0]) hv hh (a := (parse (spaceD d (presD d))).2) (by omega) (by omega) hv rfl rfl
  have hk := fun x => @parse_at0 (spaceD d (presD d)) x
  generalize hS : spaceD d (presD d) = s at hroom hps c1 hk ⊢
  generalize hA : parse s = PS at hroom hps c1 hk ⊢
  obtain ⟨recs, a⟩ := PS
  simp only at hroom hps c1 hk ⊢
  rw [hfl] at c1
  obtain ⟨b1, o1, -⟩ := c1 0
  have hO1l : (overlay s a (frameB 0 r ++ [0])).length = s.length := overlay_len (by omega)
  have hO1t : ∀ x, x ≤ a → (overlay s a (frameB 0 r ++ [0])).take x = s.take x := fun x => overlay_take _ _ _ _ (by omega)
  have hO1d : (overlay s a (frameB 0 r ++ [0])).drop a = _ := overlay_drop s (frameB 0 r ++ [0]) a (by omega)
  have hO1w := overlay_whole s (frameB 0 r ++ [0]) a (by omega)
  rw [hfl] at hO1w hO1d
  have hO10 : (overlay s a (frameB 0 r ++ [0]))[a]? = some 0 := by
    obtain ⟨m, hm⟩ : ∃ m, s.length - a = m + 1 := ⟨s.length - a - 1, by omega⟩
    have e0 := hO1d
    rw [hfe, hm, List.take_succ_cons, List.cons_append] at e0
    rw [hfe]
    exact drop_get0 e0
  -- the state behind the first covering
  obtain ⟨f1, f2, f3, f4⟩ := (c1 (a + min (r.length + 4) (s.length - a) - a / 256 * 256)).2.2 (Nat.le_refl _) _ rfl
  rw [part_all _ _ (by rw [b1]; exact Nat.le_refl _)] at f1 f2 f3 f4
  rw [show a / 256 * 256 + (a + min (r.length + 4) (s.length - a) - a / 256 * 256) = a + min (r.length + 4) (s.length - a) by omega, hO1w] at f4
  have c2 := fun n => cover_part (d1 := applyAll d (coverW (presD d * (d.length / 2) + 1) s a (frameB 0 r ++ [0]))) (n := n) (b := [1]) hv hh (a := a) (by rw [hS]; omega) (Nat.zero_lt_one) f1 f2 (by rw [f4, hS]; exact hO1t a (Nat.le_refl _))
  rw [hS] at c2
  generalize hd1 : applyAll d (coverW (presD d * (d.length / 2) + 1) s a (frameB 0 r ++ [0])) = d1 at f1 f2 f3 f4 c2 ⊢
  obtain ⟨b2, o2, -⟩ := c2 0
  have e1 : min (List.length ([1] : List UInt8)) (s.length - a) = 1 := by simp; omega
  rw [e1] at b2
  simp only [e1, f4] at c2
  have hO2t : ∀ x, x ≤ a → (overlay s a [1]).take x = s.take x := fun x => overlay_take _ _ _ _ (by omega)
  have hO2l : (overlay s a [1]).length = s.length := overlay_len (by omega)
  have hheads : ∀ d' : List (List UInt8), d'.length = d.length → (∀ p : Nat, p ≤ presD d * (d.length / 2) ∨ presD d * (d.length / 2) + d.length / 2 ≤ p → d'[p]? = d[p]?) → presD d' = presD d ∧ gen0 d' = gen0 d := fun d' h1 h2 => by
    obtain ⟨g0, g1⟩ := heads_of hh h1 h2
    exact pres_congr g0 g1
  refine ⟨?_, ?_, ?_, ?_⟩
  · intro w hw
    rcases List.mem_append.1 hw with hw | hw
    · exact o1 w hw
    · exact o2 w hw
  · rw [bytesW_app, b1]; omega
  · intro n hn
    rw [bytesW_app, b1, b2] at hn
    rw [part_app, b1]
    split
    · rename_i hlt
      obtain ⟨g1, g2, g3, g4⟩ := (c1 n).2.2 (by omega) _ rfl
      obtain ⟨p1, p2⟩ := hheads _ g2 g3
      refine ⟨g1, g2, p1, p2, ?_⟩
      rw [g4, hS, hA]
      by_cases hx : a / 256 * 256 + n ≤ a
      · rw [pre_same (hO1t _ hx), hA]
      · refine hk _ ?_ ?_
        · rw [take_at (s := s) (by omega) (by omega)]; exact hO1t a (Nat.le_refl _)
        · rw [get_at (by omega) (by omega)]; exact hO10
    · rename_i hge
      rw [applyAll_app, hd1]
      obtain ⟨g1, g2, g3, g4⟩ := (c2 (n - (a + min (r.length + 4) (s.length - a) - a / 256 * 256))).2.2 (by omega) _ rfl
      have g3' := fun p hp => (g3 p hp).trans (f3 p hp)
      obtain ⟨p1, p2⟩ := hheads _ g2 g3'
      refine ⟨g1, g2, p1, p2, ?_⟩
      rw [g4, hS, hA, pre_same (by rw [hO2t _ (by omega), hO1t _ (by omega)])]
      exact hk _ (hO1t a (Nat.le_refl _)) hO10
  · intro d' hd'
    rw [applyAll_app, hd1] at hd'
    obtain ⟨g1, g2, g3, g4⟩ := (c2 (a + 1 - a / 256 * 256)).2.2 (Nat.le_refl _) d' (by rw [part_all _ _ (by rw [b2]; exact Nat.le_refl _)]; exact hd')
    rw [show a / 256 * 256 + (a + 1 - a / 256 * 256) = a + 1 by omega] at g4
    refine ⟨g1, g2, fun p hp => (g3 p hp).trans (f3 p hp), ?_, ?_⟩
    · rw [g4, take_at (s := s) (by omega) (by omega)]; exact hO2t a (Nat.le_refl _)
    · have hst : s.take a = framesB recs := by
        have := congrArg (List.take a) hps.1
        rw [List.take_left' hps.2.1] at this
        exact this
      have h2 : (overlay s a [1]).take (a + 1) = s.take a ++ [1] := by
        have : (s.take a ++ [1]).length = a + 1 := by rw [List.length_append, List.length_take]; simp; omega
        unfold overlay
        rw [List.take_of_length_le (l := [1]) (by simp; omega), List.take_left' this]
      have h3 : (overlay s a (frameB 0 r ++ [0])).drop (a + 1) = (frameB 1 r).drop 1 ++ (([0] : List UInt8).take (s.length - a - (3 + r.length)) ++ s.drop (a + min (r.length + 4) (s.length - a))) := by
        rw [← List.drop_drop, hO1d, List.take_append, frameB_len, List.take_of_length_le (l := frameB 0 r) (by rw [frameB_len]; omega), List.append_assoc]
        rfl
      rw [g4, h2, h3, hst, List.append_assoc]
      have h4 : ∀ T : List UInt8, ([1] : List UInt8) ++ ((frameB 1 r).drop 1 ++ T) = frameB 1 r ++ T := fun T => rfl
      rw [h4, ← List.append_assoc, ← framesB_one, ← framesB_app, parse_eq _ _ (by
        intro x hx
        rcases List.mem_append.1 hx with hx | hx
        · exact hps.2.2.2 x hx
        · rw [List.mem_singleton.1 hx]; exact hr)]
      have h5 : (parse (([0] : List UInt8).take (s.length - a - (3 + r.length)) ++ s.drop (a + min (r.length + 4) (s.length - a)))).1 = [] := by
        by_cases hc : s.length - a - (3 + r.length) = 0
        · rw [hc, List.take_zero, List.nil_append, List.drop_of_length_le (by omega)]; rfl
        · rw [List.take_of_length_le (by simp; omega), List.singleton_append, parse_zero]
      show (recs ++ [r]) ++ _ = _
      rw [h5, List.append_nil]
end Go.Fr.Try
