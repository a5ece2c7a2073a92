/- The evaluator over data speaks of the evaluator over addresses: memory. -/
import Derived.Test.YtgapnemcomkomaaTlSim3
set_option linter.unusedVariables false
set_option linter.unusedSimpArgs false
namespace Go.Fr.T
open Go Go.RowKit Go.Fr

section
variable {P : Program} {G : Nat → Option (Nat × TypeId)} {F : Frz} {L : Loc} {ρ : Env} {M : TL} {τ : TEnv}

/-- a state of the one evaluator with a state of the other -/
def Both (G : Nat → Option (Nat × TypeId)) (K : TK) : Kont := fun F L ρ => ∃ M τ, TS G F L ρ M τ ∧ K M τ

theorem relV_rw {k : Nat} {a : Option Addr} {c n : Nat} {t sz : Nat} {xs : List Value} (h : L.get k = some (.row (.slice a n c) t sz n xs)) : RelV F L (.rw k) (.v (.slice a n c)) :=
  ⟨_, rfl, by simp only [Rel]; exact ⟨a, c, t, sz, n, xs, rfl, h⟩⟩
theorem frz_pt {g : Nat} {F' : Frz} {t : TypeId} {cs : List C} {vs : List Value} {fr : Nat × Nat} (hg : F' g = some (.cells vs.toArray t fr)) (h1 : onesL cs = true) (hr : Rels F' [] cs vs) : RelV F' L (.pt cs 0) (.v (.pointer (some ⟨g, 0, none⟩))) :=
  ⟨g, 0, 0, vs, .inl ⟨rfl, rfl⟩, ⟨0, _, t, fr, hg, rfl, fun i v hi => by simpa using hi⟩, h1, hr⟩

theorem parts_sound (he : ∀ j, RelV F L (τ j) (ρ j)) {sz : Nat} : ∀ {xs : List X}, partsT τ sz xs = true → parts? L ρ sz xs = true ∧ RelRow F sz (elsT τ xs) (cellsOf L ρ xs) ∧ (elsT τ xs).length = xs.length
  | [], _ => ⟨rfl, by simp only [elsT, cellsOf, RelRow], rfl⟩
  | x :: xs, h => by
    simp only [partsT] at h
    split at h
    case h_2 => cases h
    rename_i h1 h2 h3 h4
    obtain ⟨k1, k2, k3⟩ := parts_sound he h
    have hc := vals_cells he h1
    have hl : (vcells (val L ρ x)).length = sz := by rw [hc.len]; exact lenC_eq h2
    refine ⟨by simp only [parts?, len_of hl]; exact k1, ?_, by simp only [elsT, List.length_cons, k3]⟩
    simp only [elsT, cellsOf, RelRow]
    exact ⟨_, _, rfl, hl, ones_can h3, cans_rel (pures_rel h4 hc), k2⟩

theorem sim_box {t : TypeId} {x : X} {k : Nat} {K : TK} (ht : TS G F L ρ M τ) (hk : M.get k = none) (hc : (evT τ x).okc = true) (h : K (M.set k (.box t (tcells (evT τ x)))) (tput (some k) (.own k 0) τ)) (g : Nat) :
    Both G K F (L.set k (.box g t (vcells (val L ρ x)))) (put (some k) (.own k 0) ρ) := by
  have hk' := tl_none ht.tl hk
  have hext : Ext L (L.set k (.box g t (vcells (val L ρ x)))) := by
    intro j p e
    refine ⟨p, ?_, Own.like_refl p⟩
    rw [Loc.get_set, if_neg (by rintro rfl; rw [hk'] at e; cases e)]
    exact e
  have h1 := ht.new (Frz.le_refl F) hk' (o := .box g t (vcells (val L ρ x))) (to := .box t (tcells (evT τ x))) ⟨rfl, (vals_cells ht.env hc).ext (Frz.le_refl F) hext⟩
  exact ⟨_, _, h1.put (c := .own k 0) (sv := .own k 0) ⟨rfl, g, t, _, by rw [Loc.get_set, if_pos rfl]⟩ (some k), h⟩
theorem sim_alloc {t : TypeId} {zs : List Value} {k : Nat} {K : TK} (ht : TS G F L ρ M τ) (hk : M.get k = none) (h : K (M.set k (.box t (zs.map cv0))) (tput (some k) (.own k 0) τ)) (g : Nat) :
    Both G K F (L.set k (.box g t zs)) (put (some k) (.own k 0) ρ) := by
  have hk' := tl_none ht.tl hk
  have h1 := ht.new (Frz.le_refl F) hk' (o := .box g t zs) (to := .box t (zs.map cv0)) ⟨rfl, cv0s_rel zs⟩
  exact ⟨_, _, h1.put (c := .own k 0) (sv := .own k 0) ⟨rfl, g, t, _, by rw [Loc.get_set, if_pos rfl]⟩ (some k), h⟩
theorem sim_mkF {e n sz : Nat} {xs : List X} {d : Option Nat} {K : TK} (ht : TS G F L ρ M τ) (hp : partsT τ sz xs = true) (hn : xs.length = n) (hm : n ≤ maxLen) (h : K M (tput d (.slx (elsT τ xs)) τ)) {g : Nat} {F' : Frz} (hF : F.le F')
    (hg : F' g = some (.cells (cellsOf L ρ xs).toArray e (0, 0))) : Both G K F' L (put d (.v (.slice (some ⟨g, 0, none⟩) n n)) ρ) := by
  obtain ⟨k1, k2, k3⟩ := parts_sound ht.env hp
  have hf : FCells F' (some ⟨g, 0, none⟩) 0 (cellsOf L ρ xs) := ⟨_, _, _, _, rfl, hg, rfl, fun i v hi => by simpa using hi⟩
  refine ⟨_, _, (ht.mono hF).put (c := .slx (elsT τ xs)) ⟨_, rfl, ?_⟩ d, h⟩
  simp only [Rel]
  exact ⟨⟨g, 0, none⟩, by rw [k3, hn], by omega, sz, (k2.mono hF).frz hf⟩
theorem sim_mkR {e n sz : Nat} {xs : List X} {k : Nat} {K : TK} (ht : TS G F L ρ M τ) (hp : partsT τ sz xs = true) (hn : xs.length = n) (hm : n ≤ maxLen) (hk : M.get k = none) (h : K (M.set k (.row e sz (elsT τ xs))) (tput (some k) (.rw k) τ)) (g : Nat) :
    Both G K F (L.set k (.row (.slice (some ⟨g, 0, none⟩) n n) e sz n (cellsOf L ρ xs))) (put (some k) (.v (.slice (some ⟨g, 0, none⟩) n n)) ρ) := by
  obtain ⟨k1, k2, k3⟩ := parts_sound ht.env hp
  have hk' := tl_none ht.tl hk
  have h1 := ht.new (Frz.le_refl F) hk' (o := .row (.slice (some ⟨g, 0, none⟩) n n) e sz n (cellsOf L ρ xs)) (to := .row e sz (elsT τ xs)) ⟨rfl, rfl, by rw [k3, hn], ⟨hm, _, _, rfl, fun e => (by cases e)⟩, k2⟩
  exact ⟨_, _, h1.put (c := .rw k) (relV_rw (by rw [Loc.get_set, if_pos rfl])) (some k), h⟩

/-- append: the row that there is after it -/
theorem sim_app_on {e sz : Nat} {k : Nat} {els news : List (List C)} {d : Option Nat} {K : TK} (ht : TS G F L ρ M τ) {s : Value} {xs ys : List Value} (hk : L.get k = some (.row s e sz els.length xs)) (hr : RelRow F sz els xs) (hy : RelRow F sz news ys)
    (hm : els.length + news.length ≤ maxLen) (h : K ((M.mapC (C.kill k)).set k (.row e sz (els ++ news))) (tput d (.rw k) fun j => (τ j).kill k)) {v : Value} (hv : ∃ a c, v = .slice a (els.length + news.length) c ∧ (a = none → els.length + news.length = 0)) :
    Both G K F (L.set k (.row v e sz (els.length + news.length) (xs ++ ys))) (put d (.v v) ρ) := by
  obtain ⟨a, c, rfl, hn⟩ := hv
  have h1 := ht.killed (k := k) (o' := .row (.slice a (els.length + news.length) c) e sz (els.length + news.length) (xs ++ ys)) (to := .row e sz (els ++ news)) (fun g t cs e => by rw [hk] at e; injection e with e; cases e)
    ⟨rfl, rfl, by simp, ⟨hm, a, c, rfl, hn⟩, hr.append hy⟩
  exact ⟨_, _, h1.put (c := .rw k) (relV_rw (by rw [Loc.get_set, if_pos rfl])) d, h⟩
theorem sim_app_nil {e sz : Nat} {k : Nat} {news : List (List C)} {d : Option Nat} {K : TK} (ht : TS G F L ρ M τ) {ys : List Value} (hk : M.get k = none) (hy : RelRow F sz news ys)
    (hm : news.length ≤ maxLen) (h : K (M.set k (.row e sz news)) (tput d (.rw k) τ)) {v : Value} (hv : ∃ a c, v = .slice a (0 + news.length) c ∧ (a = none → 0 + news.length = 0)) :
    Both G K F (L.set k (.row v e sz (0 + news.length) ([] ++ ys))) (put d (.v v) ρ) := by
  obtain ⟨a, c, rfl, hn⟩ := hv
  have h1 := ht.new (Frz.le_refl F) (tl_none ht.tl hk) (o := .row (.slice a (0 + news.length) c) e sz (0 + news.length) ([] ++ ys)) (to := .row e sz news) ⟨rfl, rfl, by simp, ⟨by omega, a, c, rfl, hn⟩, hy⟩
  exact ⟨_, _, h1.put (c := .rw k) (relV_rw (by rw [Loc.get_set, if_pos rfl])) d, h⟩

theorem own_row {x : X} {k e sz : Nat} {els : List (List C)} (ht : TS G F L ρ M τ) (hx : evT τ x = .rw k) (hk : M.get k = some (.row e sz els)) :
    ∃ a c xs, ev ρ x = .v (.slice a els.length c) ∧ L.get k = some (.row (.slice a els.length c) e sz els.length xs) ∧ RelRow F sz els xs ∧ els.length ≤ maxLen := by
  obtain ⟨a, c, t', sz', n, xs', e1, e2⟩ := inv_rw ht.env hx
  obtain ⟨v, xs, e3, ⟨hm, _⟩, hr⟩ := tl_row ht.tl hk
  rw [e2] at e3
  injection e3 with e3
  injection e3 with q1 q2 q3 q4 q5
  subst q2 q3 q4 q5
  exact ⟨a, c, _, e1, e2, hr, hm⟩
theorem set_row_eq {k e sz n : Nat} {a : Option Addr} {c : Nat} {xs : List Value} (h : L.get k = some (.row (.slice a n c) e sz n xs)) : True := trivial

set_option maxHeartbeats 1000000 in
theorem sim_appT {e sz b : Nat} {s x : X} {d : Option Nat} {K : TK} (ht : TS G F L ρ M τ) (h : appT e sz b (evT τ s) (evT τ x) d M τ K) : ∃ sv xv, ev ρ s = .v sv ∧ ev ρ x = .v xv ∧ AppPt F L e sz b sv xv fun L1 v => Both G K F L1 (Fr.put d (.v v) ρ) := by
  have he := ht.env
  simp only [appT, fT_eq] at h
  split at h
  · rename_i k news hs hx
    split at h
    case h_2 => exact h.elim
    rename_i e' sz' els hk
    split at h
    case h_2 => exact h.elim
    rename_i h1 h2
    obtain rfl := Nat.eq_of_beq_eq_true h1
    obtain rfl := Nat.eq_of_beq_eq_true h2
    obtain ⟨g1, g2, g3, g4⟩ := h
    obtain ⟨a, c, xs, e1, e2, hr, hm⟩ := own_row ht hs hk
    obtain ⟨a', c', sz2, e3, e4, e5, e6, e7⟩ := inv_slc he hx
    obtain ⟨ys, y1, y2, y3⟩ := RelS_flat e7 g1
    exact ⟨_, _, e1, e3, k, els.length, xs, news.length, ys, .inl e2, ⟨a', c', rfl, y1, y2.imp id .inl⟩, y3.ones, g2, g3, fun v hv => sim_app_on ht e2 hr y3 g2 g4 hv⟩
  · rename_i news k hs hx
    split at h
    case h_2 => exact h.elim
    rename_i hk
    obtain ⟨g1, g2, g3, g4⟩ := h
    obtain ⟨a', c', sz2, e3, e4, e5, e6, e7⟩ := inv_slc he hx
    obtain ⟨ys, y1, y2, y3⟩ := RelS_flat e7 g1
    simp only [List.length_nil] at g2 g3
    exact ⟨_, _, inv_nils he hs, e3, k, 0, [], news.length, ys, .inr (.inl ⟨tl_none ht.tl hk, rfl, rfl, rfl⟩), ⟨a', c', rfl, y1, y2.imp id .inl⟩, y3.ones, g2, g3, fun v hv => sim_app_nil ht hk y3 (by omega) g4 hv⟩
  · rename_i els news k hs hx
    split at h
    case h_2 => exact h.elim
    rename_i hk
    obtain ⟨g0, g00, g1, g2, g3, g4⟩ := h
    obtain ⟨a, sz1, e1, hm, e2⟩ := inv_slx he hs
    obtain ⟨a', c', sz2, e3, e4, e5, e6, e7⟩ := inv_slc he hx
    obtain ⟨ys, y1, y2, y3⟩ := RelS_flat e7 g1
    obtain ⟨xs, x1, x2, x3⟩ := RelS_flat e2 g00
    refine ⟨_, _, e1, e3, k, els.length, xs, news.length, ys, .inr (.inr ⟨tl_none ht.tl hk, a, rfl, g0, x1, x2⟩), ⟨a', c', rfl, y1, y2.imp id .inl⟩, y3.ones, g2, g3, fun v hv => ?_⟩
    obtain ⟨av, cv, rfl, hn⟩ := hv
    have h1 := ht.new (Frz.le_refl F) (tl_none ht.tl hk) (o := .row (.slice av (els.length + news.length) cv) e sz (els.length + news.length) (xs ++ ys)) (to := .row e sz (els ++ news)) ⟨rfl, rfl, by simp, ⟨g2, av, cv, rfl, hn⟩, x3.append y3⟩
    exact ⟨_, _, h1.put (c := .rw k) (relV_rw (by rw [Loc.get_set, if_pos rfl])) _, g4⟩
  · rename_i k k' hs hx
    have hx := can_rw hx
    split at h
    case h_2 => exact h.elim
    rename_i e' sz' els e'' sz'' news hk hk2
    split at h
    case h_2 => exact h.elim
    rename_i h1 h2 h3
    obtain rfl := Nat.eq_of_beq_eq_true h1
    obtain rfl := Nat.eq_of_beq_eq_true h2
    obtain rfl := Nat.eq_of_beq_eq_true h3
    obtain ⟨g1, g2, g3, g4⟩ := h
    obtain ⟨a, c, xs, e1, e2, hr, hm⟩ := own_row ht hs hk
    obtain ⟨a', c', ys, e3, e4, hr', hm'⟩ := own_row ht hx hk2
    refine ⟨_, _, e1, e3, k, els.length, xs, news.length, ys, .inl e2, ⟨a', c', rfl, RelRow_len hr', ?_⟩, hr'.ones, g2, g3, fun v hv => sim_app_on ht e2 hr hr' g2 g4 hv⟩
    cases a' with
    | some ad => exact .inr (.inr ⟨k', _, _, _, _, _, ad, c', e4, rfl, rfl, fun i u hu => hu⟩)
    | none =>
      obtain ⟨v, xs2, q1, ⟨_, a2, c2, q2, q3⟩, q4⟩ := tl_row ht.tl hk2
      rw [e4] at q1
      injection q1 with q1
      injection q1 with r1 r2 r3 r4 r5
      rw [← r1] at q2
      injection q2 with q2
      have hz := q3 q2.symm
      have hl := RelRow_len hr'
      refine .inr (.inl ⟨hz, List.length_eq_zero_iff.1 (by rw [hl, hz]; simp)⟩)
  · rename_i k' k hs hx
    have hx := can_rw hx
    split at h
    case h_2 => exact h.elim
    rename_i e'' sz'' news hk hk2
    split at h
    case h_2 => exact h.elim
    rename_i h3
    obtain rfl := Nat.eq_of_beq_eq_true h3
    obtain ⟨g1, g2, g3, g4⟩ := h
    obtain ⟨a', c', ys, e3, e4, hr', hm'⟩ := own_row ht hx hk2
    simp only [List.length_nil] at g2 g3
    refine ⟨_, _, inv_nils he hs, e3, k, 0, [], news.length, ys, .inr (.inl ⟨tl_none ht.tl hk, rfl, rfl, rfl⟩), ⟨a', c', rfl, RelRow_len hr', ?_⟩, hr'.ones, g2, g3, fun v hv => sim_app_nil ht hk hr' (by omega) g4 hv⟩
    cases a' with
    | some ad => exact .inr (.inr ⟨k', _, _, _, _, _, ad, c', e4, rfl, rfl, fun i u hu => hu⟩)
    | none =>
      obtain ⟨v, xs2, q1, ⟨_, a2, c2, q2, q3⟩, q4⟩ := tl_row ht.tl hk2
      rw [e4] at q1
      injection q1 with q1
      injection q1 with r1 r2 r3 r4 r5
      rw [← r1] at q2
      injection q2 with q2
      have hz := q3 q2.symm
      have hl := RelRow_len hr'
      refine .inr (.inl ⟨hz, List.length_eq_zero_iff.1 (by rw [hl, hz]; simp)⟩)
  · exact h.elim
theorem sim_app {e sz b : Nat} {zs : List Value} {s x : X} {d : Option Nat} {K : TK} (ht : TS G F L ρ M τ) (h : evalTOp P (.app e sz b zs s x) d M τ K) : evalOp P (.app e sz b zs s x) d F L ρ (Both G K) := by
  obtain ⟨sv, xv, e1, e2, h3⟩ := sim_appT ht h
  simp only [evalOp, e1, e2]
  exact h3
theorem sim_appX {e sz b : Nat} {zs : List Value} {s x : X} {d : Option Nat} {K : TK} (ht : TS G F L ρ M τ) (h : evalTOp P (.appX e sz b zs s x) d M τ K) : evalOp P (.appX e sz b zs s x) d F L ρ (Both G K) := by
  obtain ⟨sv, xv, e1, e2, ⟨kd, n, xs, m, news, h1, h2, h3, h4, h5, h6⟩⟩ := sim_appT ht h
  simp only [evalOp, e1, e2]
  exact ⟨kd, n, xs, m, news, h1, h2, h3, h4, h5, fun v hv _ => h6 v hv⟩
set_option maxHeartbeats 1000000 in
theorem sim_appD {e sz b : Nat} {zs : List Value} {s x : X} {d : Option Nat} {K : TK} (ht : TS G F L ρ M τ) (h : evalTOp P (.appD e sz b zs s x) d M τ K) : evalOp P (.appD e sz b zs s x) d F L ρ (Both G K) := by
  have he := ht.env
  simp only [evalTOp, fT_eq, fl_eq, fca_eq] at h
  simp only [evalOp]
  split at h
  · rename_i k news hs hx
    split at h
    case h_2 => exact h.elim
    rename_i e' sz' els hk
    split at h
    case h_2 => exact h.elim
    rename_i h1 h2
    obtain rfl := Nat.eq_of_beq_eq_true h1
    obtain rfl := Nat.eq_of_beq_eq_true h2
    obtain ⟨g1, g2, g3, g4⟩ := h
    obtain ⟨a, c, xs, e1, e2, hr, hm⟩ := own_row ht hs hk
    obtain ⟨a', c', sz2, e3, e4, e5, e6, e7⟩ := inv_slc he hx
    obtain ⟨ys, y1, y2, y3⟩ := RelS_flat e7 g1
    rw [e1, e3]
    exact ⟨k, els.length, xs, news.length, ys, .inl e2, ⟨a', c', rfl, y1, y2⟩, y3.ones, g2, g3, fun v hv _ => sim_app_on ht e2 hr y3 g2 g4 hv⟩
  · rename_i news k hs hx
    split at h
    case h_2 => exact h.elim
    rename_i hk
    obtain ⟨g1, g2, g3, g4⟩ := h
    obtain ⟨a', c', sz2, e3, e4, e5, e6, e7⟩ := inv_slc he hx
    obtain ⟨ys, y1, y2, y3⟩ := RelS_flat e7 g1
    simp only [List.length_nil] at g2 g3
    rw [inv_nils he hs, e3]
    exact ⟨k, 0, [], news.length, ys, .inr ⟨rfl, tl_none ht.tl hk, rfl, rfl, rfl⟩, ⟨a', c', rfl, y1, y2⟩, y3.ones, g2, g3, fun v hv _ => sim_app_nil ht hk y3 (by omega) g4 hv⟩
  · exact h.elim
theorem sim_appS {e : Nat} {s x : X} {d : Option Nat} {K : TK} (ht : TS G F L ρ M τ) (h : evalTOp P (.appS e s x) d M τ K) : evalOp P (.appS e s x) d F L ρ (Both G K) := by
  have he := ht.env
  simp only [evalTOp, fT_eq, fl_eq, fca_eq] at h
  simp only [evalOp]
  split at h
  · rename_i k t hs hx
    split at h
    case h_2 => exact h.elim
    rename_i e' sz' els hk
    split at h
    case h_2 => exact h.elim
    rename_i h1 h2
    obtain rfl := Nat.eq_of_beq_eq_true h1
    obtain rfl := Nat.eq_of_beq_eq_true h2
    obtain ⟨g1, g2, g3, g4⟩ := h
    obtain ⟨a, c, xs, e1, e2, hr, hm⟩ := own_row ht hs hk
    have hl : (bcells t.data.toList).length = t.size := by simp [bcells]
    rw [e1, (inv_str he hx).1]
    rw [hl] at g2 g3
    refine ⟨k, els.length, xs, .inl e2, g2, by simpa using g3, fun v hv => ?_⟩
    have := sim_app_on (news := bcells t.data.toList) (v := v) ht e2 hr (RelRow_bytes t.data.toList) (by rw [hl]; exact g2) g4 (by rw [hl]; exact hv)
    rw [hl] at this
    exact this
  · rename_i t k hs hx
    split at h
    case h_2 => exact h.elim
    rename_i hk
    obtain ⟨g1, g2, g3, g4⟩ := h
    have hl : (bcells t.data.toList).length = t.size := by simp [bcells]
    rw [inv_nils he hs, (inv_str he hx).1]
    rw [hl] at g2 g3
    simp only [List.length_nil] at g2 g3
    refine ⟨k, 0, [], .inr ⟨tl_none ht.tl hk, rfl, rfl, rfl⟩, g2, by simpa using g3, fun v hv => ?_⟩
    have := sim_app_nil (news := bcells t.data.toList) (v := v) ht hk (RelRow_bytes t.data.toList) (by rw [hl]; omega) g4 (by rw [hl]; exact hv)
    rw [hl] at this
    exact this
  · exact h.elim

theorem sim_store {n : Nat} {y x : X} {d : Option Nat} {K : TK} (ht : TS G F L ρ M τ) (h : storeT false n y x d M τ K) : evalOp P (.store n y x) d F L ρ (Both G K) := by
  have he := ht.env
  simp only [storeT, fT_eq, fl_eq, fca_eq] at h
  simp only [evalOp]
  split at h
  · rename_i k off h1 h2 h3 hy
    split at h
    case h_2 => exact h.elim
    rename_i t cs hk
    split at h
    case h_2 => exact h.elim
    rename_i hl
    obtain ⟨g, vs, hL, hr⟩ := tl_box ht.tl hk
    have hc := vals_cells he h1
    have hl2 : len? (vcells (val L ρ x)) n = true := len_of (by rw [hc.len]; exact lenC_eq h2)
    have ho := ones_of (ones_vals hc h3)
    rw [hl2, ho, (inv_own he hy).1]
    simp only [hL]
    have hr2 := (hr.drop off).take n
    rw [len_of (by rw [hr2.len]; exact lenC_eq hl)]
    have h4 := ht.turn (o' := .box g t (splice vs off (vcells (val L ρ x)))) (to := .box t (spliceC cs off (tcells (evT τ x)))) hL rfl (fun g' t' cs' e => by injection e with a b c; subst a b; exact ⟨_, rfl⟩)
      (fun L' hx => ⟨rfl, (spliceC_rel hr hc).ext (Frz.le_refl F) hx⟩)
    exact ⟨_, _, h4.put (c := .und) (sv := .v undef) ⟨_, rfl, by simp only [Rel]⟩ d, h⟩
  · rename_i k j off h1 h2 h3 hy
    split at h
    case h_2 => exact h.elim
    rename_i t sz els h0 hk hp
    obtain ⟨r0, es, r1, r2, r3⟩ := h
    obtain ⟨ad, t', sz', m, c, xs', e1, e2⟩ := inv_elr he hy
    obtain ⟨v, xs, e3, ⟨hm, q6⟩, hr⟩ := tl_row ht.tl hk
    rw [e2] at e3
    injection e3 with e3
    injection e3 with q1 q2 q3 q4 q5
    subst q1 q2 q3 q4 q5
    have hc := vals_cells he h1
    have hl0 : (vcells (val L ρ x)).length = n := by rw [hc.len]; exact lenC_eq h2
    have hl2 : len? (vcells (val L ρ x)) n = true := len_of hl0
    have ho := ones_of (ones_vals hc h3)
    rw [hl2, ho, e1]
    have hes : es.length = sz' := by
      obtain ⟨us, u1, _, u3, _⟩ := hr.at r1
      rw [← u1, u3.len]
    have hn : off + n ≤ sz' := Nat.le_of_ble_eq_true r0
    have hset := hr.set (ds := (tcells (evT τ x)).map C.can) (us := vcells (val L ρ x)) (off := off) r1 (by rw [hl0]; exact hn) (cans_rel (pures_rel hp hc)) (ones_can h3)
    have hjlt : j < els.length := (List.getElem?_eq_some_iff.1 r1).1
    have hxl := RelRow_len hr
    have h4 := ht.turn (o' := .row (.slice (some ad) els.length c) t' sz' els.length (splice xs' (j * sz' + off) (vcells (val L ρ x)))) (to := .row t' sz' (els.set j (spliceC es off ((tcells (evT τ x)).map C.can)))) e2 ⟨rfl, rfl, rfl⟩
      (fun g' t'' cs' e => by cases e) (fun L' hx => ⟨rfl, rfl, by simp, ⟨hm, _, _, rfl, fun e => (by cases e)⟩, hset⟩)
    refine ⟨k, _, _, _, _, _, ad, c, e2, rfl, rfl, ?_, ones_vals hc h3, _, _, h4.put (c := .und) (sv := .v undef) ⟨_, rfl, by simp only [Rel]⟩ d, r3 es r1⟩
    rw [hxl, hl0]
    have : (j + 1) * sz' ≤ els.length * sz' := Nat.mul_le_mul_right _ hjlt
    rw [Nat.add_mul] at this
    omega
  · exact h.elim
theorem sim_storeD {n : Nat} {y x : X} {d : Option Nat} {K : TK} (ht : TS G F L ρ M τ) (h : storeT true n y x d M τ K) : evalOp P (.storeD n y x) d F L ρ (Both G K) := by
  have he := ht.env
  simp only [storeT, fT_eq, fl_eq, fca_eq] at h
  simp only [evalOp]
  split at h
  · rename_i k off h1 h2 h3 hy
    split at h
    case h_2 => exact h.elim
    rename_i t cs hk
    split at h
    case h_2 => exact h.elim
    rename_i hl
    obtain ⟨g, vs, hL, hr⟩ := tl_box ht.tl hk
    have hc := vals_cells he h1
    have hl2 : len? (vcells (val L ρ x)) n = true := len_of (by rw [hc.len]; exact lenC_eq h2)
    have ho := ones_of (ones_vals hc h3)
    rw [hl2, ho, (inv_own he hy).1]
    simp only [hL]
    have hr2 := (hr.drop off).take n
    rw [len_of (by rw [hr2.len]; exact lenC_eq hl)]
    have h4 := ht.turn (o' := .box g t (splice vs off (vcells (val L ρ x)))) (to := .box t (spliceC cs off (tcells (evT τ x)))) hL rfl (fun g' t' cs' e => by injection e with a b c; subst a b; exact ⟨_, rfl⟩)
      (fun L' hx => ⟨rfl, (spliceC_rel hr hc).ext (Frz.le_refl F) hx⟩)
    exact ⟨_, _, h4.put (c := .und) (sv := .v undef) ⟨_, rfl, by simp only [Rel]⟩ d, h⟩
  · exact h.elim
  · exact h.elim
theorem sim_makeS {e sz b : Nat} {zs : List Value} {l c : X} {d : Option Nat} {K : TK} (ht : TS G F L ρ M τ) (h : evalTOp P (.makeS e sz b zs l c) d M τ K) : evalOp P (.makeS e sz b zs l c) d F L ρ (Both G K) := by
  have he := ht.env
  simp only [evalTOp, fT_eq, fl_eq, fca_eq] at h
  simp only [evalOp]
  split at h
  case h_2 => exact h.elim
  rename_i k1 n k2 m k hl hc
  split at h
  case h_2 => exact h.elim
  rename_i hk h1 h2
  rw [(inv_int he hl).1, (inv_int he hc).1]
  have hk' := tl_none ht.tl hk
  simp only [hk']
  obtain ⟨g1, g2, g3, g4, g5⟩ := h
  refine ⟨g1, g2, g3, g4, fun g => ?_⟩
  have hz : Rels F [] ((zs.map cv0).map C.can) zs := cans_rel (cv0s_rel zs)
  have hrow : ∀ i : Nat, RelRow F sz (List.replicate i ((zs.map cv0).map C.can)) (List.replicate i zs).flatten := by
    intro i
    induction i with
    | zero => simp only [List.replicate_zero, List.flatten_nil, RelRow]
    | succ i ih =>
      simp only [List.replicate_succ, List.flatten_cons, RelRow]
      exact ⟨zs, _, rfl, by have := lenC_eq h1; simpa using this, ones_can h2, hz, ih⟩
  have h3 := ht.new (Frz.le_refl F) hk' (o := .row (.slice (some ⟨g, 0, none⟩) n.toNat n.toNat) e sz n.toNat (List.replicate n.toNat zs).flatten) (to := .row e sz (List.replicate n.toNat ((zs.map cv0).map C.can)))
    ⟨rfl, rfl, by simp, ⟨g4, _, _, rfl, fun e => (by cases e)⟩, hrow _⟩
  exact ⟨_, _, h3.put (c := .rw k) (relV_rw (by rw [Loc.get_set, if_pos rfl])) (some k), g5⟩
end
end Go.Fr.T
