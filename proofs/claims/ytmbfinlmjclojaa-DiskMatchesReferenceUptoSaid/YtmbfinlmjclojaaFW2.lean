/- Part of the proofs of the statements of this seat. -/
import Derived.Test.YtmbfinlmjclojaaFW1
import Derived.ChangeArms
import Derived.DataReads
import Derived.Carry
import Derived.ChangeSame
import Derived.WalkKit
import Derived.ProofKit
import Derived.OpenShut
/- The evaluator over data speaks of the evaluator over addresses: memory. -/
set_option linter.unusedVariables false
set_option linter.unusedSimpArgs false
namespace Go.Fr.T
open Go Go.RowKit Go.Fr

section
variable {P : Program} {G : Nat → Option (Nat × TypeId)} {F : Frz} {L : Loc} {ρ : Env} {M : TL} {τ : TEnv}

/-- a state of the one evaluator with a state of the other -/
def Both (G : Nat → Option (Nat × TypeId)) (K : TK) : Kont := fun F L ρ => ∃ M τ, TS G F L ρ M τ ∧ K M τ

theorem relV_rw {k : Nat} {a : Option Addr} {c n : Nat} {t sz : Nat} {xs : List Value} (h : L.get k = some (.row (.slice a n c) t sz n xs)) : RelV F L (.rw k) (.v (.slice a n c)) :=
  ⟨_, rfl, by simp only [Rel]; exact ⟨a, c, t, sz, n, xs, rfl, h⟩⟩
theorem frz_pt {g : Nat} {F' : Frz} {t : TypeId} {cs : List C} {vs : List Value} {fr : Nat × Nat} (hg : F' g = some (.cells vs.toArray t fr)) (h1 : onesL cs = true) (hr : Rels F' [] cs vs) : RelV F' L (.pt cs 0) (.v (.pointer (some ⟨g, 0, none⟩))) :=
  ⟨g, 0, 0, vs, .inl ⟨rfl, rfl⟩, ⟨0, _, t, fr, hg, rfl, fun i v hi => by simpa using hi⟩, h1, hr⟩

theorem parts_sound (he : ∀ j, RelV F L (τ j) (ρ j)) {sz : Nat} : ∀ {xs : List X}, partsT τ sz xs = true → parts? L ρ sz xs = true ∧ RelRow F sz (elsT τ xs) (cellsOf L ρ xs) ∧ (elsT τ xs).length = xs.length
  | [], _ => ⟨rfl, by simp only [elsT, cellsOf, RelRow], rfl⟩
  | x :: xs, h => by
    simp only [partsT] at h
    split at h
    case h_2 => cases h
    rename_i h1 h2 h3 h4
    obtain ⟨k1, k2, k3⟩ := parts_sound he h
    have hc := vals_cells he h1
    have hl : (vcells (val L ρ x)).length = sz := by rw [hc.len]; exact lenC_eq h2
    refine ⟨by simp only [parts?, len_of hl]; exact k1, ?_, by simp only [elsT, List.length_cons, k3]⟩
    simp only [elsT, cellsOf, RelRow]
    exact ⟨_, _, rfl, hl, ones_can h3, cans_rel (pures_rel h4 hc), k2⟩

theorem sim_box {t : TypeId} {x : X} {k : Nat} {K : TK} (ht : TS G F L ρ M τ) (hk : M.get k = none) (hc : (evT τ x).okc = true) (h : K (M.set k (.box t (tcells (evT τ x)))) (tput (some k) (.own k 0) τ)) (g : Nat) :
    Both G K F (L.set k (.box g t (vcells (val L ρ x)))) (put (some k) (.own k 0) ρ) := by
  have hk' := tl_none ht.tl hk
  have hext : Ext L (L.set k (.box g t (vcells (val L ρ x)))) := by
    intro j p e
    refine ⟨p, ?_, Own.like_refl p⟩
    rw [Loc.get_set, if_neg (by rintro rfl; rw [hk'] at e; cases e)]
    exact e
  have h1 := ht.new (Frz.le_refl F) hk' (o := .box g t (vcells (val L ρ x))) (to := .box t (tcells (evT τ x))) ⟨rfl, (vals_cells ht.env hc).ext (Frz.le_refl F) hext⟩
  exact ⟨_, _, h1.put (c := .own k 0) (sv := .own k 0) ⟨rfl, g, t, _, by rw [Loc.get_set, if_pos rfl]⟩ (some k), h⟩
theorem sim_alloc {t : TypeId} {zs : List Value} {k : Nat} {K : TK} (ht : TS G F L ρ M τ) (hk : M.get k = none) (h : K (M.set k (.box t (zs.map cv0))) (tput (some k) (.own k 0) τ)) (g : Nat) :
    Both G K F (L.set k (.box g t zs)) (put (some k) (.own k 0) ρ) := by
  have hk' := tl_none ht.tl hk
  have h1 := ht.new (Frz.le_refl F) hk' (o := .box g t zs) (to := .box t (zs.map cv0)) ⟨rfl, cv0s_rel zs⟩
  exact ⟨_, _, h1.put (c := .own k 0) (sv := .own k 0) ⟨rfl, g, t, _, by rw [Loc.get_set, if_pos rfl]⟩ (some k), h⟩
theorem sim_mkF {e n sz : Nat} {xs : List X} {d : Option Nat} {K : TK} (ht : TS G F L ρ M τ) (hp : partsT τ sz xs = true) (hn : xs.length = n) (hm : n ≤ maxLen) (h : K M (tput d (.slx (elsT τ xs)) τ)) {g : Nat} {F' : Frz} (hF : F.le F')
    (hg : F' g = some (.cells (cellsOf L ρ xs).toArray e (0, 0))) : Both G K F' L (put d (.v (.slice (some ⟨g, 0, none⟩) n n)) ρ) := by
  obtain ⟨k1, k2, k3⟩ := parts_sound ht.env hp
  have hf : FCells F' (some ⟨g, 0, none⟩) 0 (cellsOf L ρ xs) := ⟨_, _, _, _, rfl, hg, rfl, fun i v hi => by simpa using hi⟩
  refine ⟨_, _, (ht.mono hF).put (c := .slx (elsT τ xs)) ⟨_, rfl, ?_⟩ d, h⟩
  simp only [Rel]
  exact ⟨⟨g, 0, none⟩, by rw [k3, hn], by omega, sz, (k2.mono hF).frz hf⟩
theorem sim_mkR {e n sz : Nat} {xs : List X} {k : Nat} {K : TK} (ht : TS G F L ρ M τ) (hp : partsT τ sz xs = true) (hn : xs.length = n) (hm : n ≤ maxLen) (hk : M.get k = none) (h : K (M.set k (.row e sz (elsT τ xs))) (tput (some k) (.rw k) τ)) (g : Nat) :
    Both G K F (L.set k (.row (.slice (some ⟨g, 0, none⟩) n n) e sz n (cellsOf L ρ xs))) (put (some k) (.v (.slice (some ⟨g, 0, none⟩) n n)) ρ) := by
  obtain ⟨k1, k2, k3⟩ := parts_sound ht.env hp
  have hk' := tl_none ht.tl hk
  have h1 := ht.new (Frz.le_refl F) hk' (o := .row (.slice (some ⟨g, 0, none⟩) n n) e sz n (cellsOf L ρ xs)) (to := .row e sz (elsT τ xs)) ⟨rfl, rfl, by rw [k3, hn], ⟨hm, _, _, rfl, fun e => (by cases e)⟩, k2⟩
  exact ⟨_, _, h1.put (c := .rw k) (relV_rw (by rw [Loc.get_set, if_pos rfl])) (some k), h⟩

/-- append: the row that there is after it -/
theorem sim_app_on {e sz : Nat} {k : Nat} {els news : List (List C)} {d : Option Nat} {K : TK} (ht : TS G F L ρ M τ) {s : Value} {xs ys : List Value} (hk : L.get k = some (.row s e sz els.length xs)) (hr : RelRow F sz els xs) (hy : RelRow F sz news ys)
    (hm : els.length + news.length ≤ maxLen) (h : K ((M.mapC (C.kill k)).set k (.row e sz (els ++ news))) (tput d (.rw k) fun j => (τ j).kill k)) {v : Value} (hv : ∃ a c, v = .slice a (els.length + news.length) c ∧ (a = none → els.length + news.length = 0)) :
    Both G K F (L.set k (.row v e sz (els.length + news.length) (xs ++ ys))) (put d (.v v) ρ) := by
  obtain ⟨a, c, rfl, hn⟩ := hv
  have h1 := ht.killed (k := k) (o' := .row (.slice a (els.length + news.length) c) e sz (els.length + news.length) (xs ++ ys)) (to := .row e sz (els ++ news)) (fun g t cs e => by rw [hk] at e; injection e with e; cases e)
    ⟨rfl, rfl, by simp, ⟨hm, a, c, rfl, hn⟩, hr.append hy⟩
  exact ⟨_, _, h1.put (c := .rw k) (relV_rw (by rw [Loc.get_set, if_pos rfl])) d, h⟩
theorem sim_app_nil {e sz : Nat} {k : Nat} {news : List (List C)} {d : Option Nat} {K : TK} (ht : TS G F L ρ M τ) {ys : List Value} (hk : M.get k = none) (hy : RelRow F sz news ys)
    (hm : news.length ≤ maxLen) (h : K (M.set k (.row e sz news)) (tput d (.rw k) τ)) {v : Value} (hv : ∃ a c, v = .slice a (0 + news.length) c ∧ (a = none → 0 + news.length = 0)) :
    Both G K F (L.set k (.row v e sz (0 + news.length) ([] ++ ys))) (put d (.v v) ρ) := by
  obtain ⟨a, c, rfl, hn⟩ := hv
  have h1 := ht.new (Frz.le_refl F) (tl_none ht.tl hk) (o := .row (.slice a (0 + news.length) c) e sz (0 + news.length) ([] ++ ys)) (to := .row e sz news) ⟨rfl, rfl, by simp, ⟨by omega, a, c, rfl, hn⟩, hy⟩
  exact ⟨_, _, h1.put (c := .rw k) (relV_rw (by rw [Loc.get_set, if_pos rfl])) d, h⟩

theorem own_row {x : X} {k e sz : Nat} {els : List (List C)} (ht : TS G F L ρ M τ) (hx : evT τ x = .rw k) (hk : M.get k = some (.row e sz els)) :
    ∃ a c xs, ev ρ x = .v (.slice a els.length c) ∧ L.get k = some (.row (.slice a els.length c) e sz els.length xs) ∧ RelRow F sz els xs ∧ els.length ≤ maxLen := by
  obtain ⟨a, c, t', sz', n, xs', e1, e2⟩ := inv_rw ht.env hx
  obtain ⟨v, xs, e3, ⟨hm, _⟩, hr⟩ := tl_row ht.tl hk
  rw [e2] at e3
  injection e3 with e3
  injection e3 with q1 q2 q3 q4 q5
  subst q2 q3 q4 q5
  exact ⟨a, c, _, e1, e2, hr, hm⟩
theorem set_row_eq {k e sz n : Nat} {a : Option Addr} {c : Nat} {xs : List Value} (h : L.get k = some (.row (.slice a n c) e sz n xs)) : True := trivial

set_option maxHeartbeats 1000000 in
theorem sim_appT {e sz b : Nat} {s x : X} {d : Option Nat} {K : TK} (ht : TS G F L ρ M τ) (h : appT e sz b (evT τ s) (evT τ x) d M τ K) : ∃ sv xv, ev ρ s = .v sv ∧ ev ρ x = .v xv ∧ AppPt F L e sz b sv xv fun L1 v => Both G K F L1 (Fr.put d (.v v) ρ) := by
  have he := ht.env
  simp only [appT, fT_eq] at h
  split at h
  · rename_i k news hs hx
    split at h
    case h_2 => exact h.elim
    rename_i e' sz' els hk
    split at h
    case h_2 => exact h.elim
    rename_i h1 h2
    obtain rfl := Nat.eq_of_beq_eq_true h1
    obtain rfl := Nat.eq_of_beq_eq_true h2
    obtain ⟨g1, g2, g3, g4⟩ := h
    obtain ⟨a, c, xs, e1, e2, hr, hm⟩ := own_row ht hs hk
    obtain ⟨a', c', sz2, e3, e4, e5, e6, e7⟩ := inv_slc he hx
    obtain ⟨ys, y1, y2, y3⟩ := RelS_flat e7 g1
    exact ⟨_, _, e1, e3, k, els.length, xs, news.length, ys, .inl e2, ⟨a', c', rfl, y1, y2.imp id .inl⟩, y3.ones, g2, g3, fun v hv => sim_app_on ht e2 hr y3 g2 g4 hv⟩
  · rename_i news k hs hx
    split at h
    case h_2 => exact h.elim
    rename_i hk
    obtain ⟨g1, g2, g3, g4⟩ := h
    obtain ⟨a', c', sz2, e3, e4, e5, e6, e7⟩ := inv_slc he hx
    obtain ⟨ys, y1, y2, y3⟩ := RelS_flat e7 g1
    simp only [List.length_nil] at g2 g3
    exact ⟨_, _, inv_nils he hs, e3, k, 0, [], news.length, ys, .inr (.inl ⟨tl_none ht.tl hk, rfl, rfl, rfl⟩), ⟨a', c', rfl, y1, y2.imp id .inl⟩, y3.ones, g2, g3, fun v hv => sim_app_nil ht hk y3 (by omega) g4 hv⟩
  · rename_i els news k hs hx
    split at h
    case h_2 => exact h.elim
    rename_i hk
    obtain ⟨g0, g00, g1, g2, g3, g4⟩ := h
    obtain ⟨a, sz1, e1, hm, e2⟩ := inv_slx he hs
    obtain ⟨a', c', sz2, e3, e4, e5, e6, e7⟩ := inv_slc he hx
    obtain ⟨ys, y1, y2, y3⟩ := RelS_flat e7 g1
    obtain ⟨xs, x1, x2, x3⟩ := RelS_flat e2 g00
    refine ⟨_, _, e1, e3, k, els.length, xs, news.length, ys, .inr (.inr ⟨tl_none ht.tl hk, a, rfl, g0, x1, x2⟩), ⟨a', c', rfl, y1, y2.imp id .inl⟩, y3.ones, g2, g3, fun v hv => ?_⟩
    obtain ⟨av, cv, rfl, hn⟩ := hv
    have h1 := ht.new (Frz.le_refl F) (tl_none ht.tl hk) (o := .row (.slice av (els.length + news.length) cv) e sz (els.length + news.length) (xs ++ ys)) (to := .row e sz (els ++ news)) ⟨rfl, rfl, by simp, ⟨g2, av, cv, rfl, hn⟩, x3.append y3⟩
    exact ⟨_, _, h1.put (c := .rw k) (relV_rw (by rw [Loc.get_set, if_pos rfl])) _, g4⟩
  · rename_i k k' hs hx
    have hx := can_rw hx
    split at h
    case h_2 => exact h.elim
    rename_i e' sz' els e'' sz'' news hk hk2
    split at h
    case h_2 => exact h.elim
    rename_i h1 h2 h3
    obtain rfl := Nat.eq_of_beq_eq_true h1
    obtain rfl := Nat.eq_of_beq_eq_true h2
    obtain rfl := Nat.eq_of_beq_eq_true h3
    obtain ⟨g1, g2, g3, g4⟩ := h
    obtain ⟨a, c, xs, e1, e2, hr, hm⟩ := own_row ht hs hk
    obtain ⟨a', c', ys, e3, e4, hr', hm'⟩ := own_row ht hx hk2
    refine ⟨_, _, e1, e3, k, els.length, xs, news.length, ys, .inl e2, ⟨a', c', rfl, RelRow_len hr', ?_⟩, hr'.ones, g2, g3, fun v hv => sim_app_on ht e2 hr hr' g2 g4 hv⟩
    cases a' with
    | some ad => exact .inr (.inr ⟨k', _, _, _, _, _, ad, c', e4, rfl, rfl, fun i u hu => hu⟩)
    | none =>
      obtain ⟨v, xs2, q1, ⟨_, a2, c2, q2, q3⟩, q4⟩ := tl_row ht.tl hk2
      rw [e4] at q1
      injection q1 with q1
      injection q1 with r1 r2 r3 r4 r5
      rw [← r1] at q2
      injection q2 with q2
      have hz := q3 q2.symm
      have hl := RelRow_len hr'
      refine .inr (.inl ⟨hz, List.length_eq_zero_iff.1 (by rw [hl, hz]; simp)⟩)
  · rename_i k' k hs hx
    have hx := can_rw hx
    split at h
    case h_2 => exact h.elim
    rename_i e'' sz'' news hk hk2
    split at h
    case h_2 => exact h.elim
    rename_i h3
    obtain rfl := Nat.eq_of_beq_eq_true h3
    obtain ⟨g1, g2, g3, g4⟩ := h
    obtain ⟨a', c', ys, e3, e4, hr', hm'⟩ := own_row ht hx hk2
    simp only [List.length_nil] at g2 g3
    refine ⟨_, _, inv_nils he hs, e3, k, 0, [], news.length, ys, .inr (.inl ⟨tl_none ht.tl hk, rfl, rfl, rfl⟩), ⟨a', c', rfl, RelRow_len hr', ?_⟩, hr'.ones, g2, g3, fun v hv => sim_app_nil ht hk hr' (by omega) g4 hv⟩
    cases a' with
    | some ad => exact .inr (.inr ⟨k', _, _, _, _, _, ad, c', e4, rfl, rfl, fun i u hu => hu⟩)
    | none =>
      obtain ⟨v, xs2, q1, ⟨_, a2, c2, q2, q3⟩, q4⟩ := tl_row ht.tl hk2
      rw [e4] at q1
      injection q1 with q1
      injection q1 with r1 r2 r3 r4 r5
      rw [← r1] at q2
      injection q2 with q2
      have hz := q3 q2.symm
      have hl := RelRow_len hr'
      refine .inr (.inl ⟨hz, List.length_eq_zero_iff.1 (by rw [hl, hz]; simp)⟩)
  · exact h.elim
theorem sim_app {e sz b : Nat} {zs : List Value} {s x : X} {d : Option Nat} {K : TK} (ht : TS G F L ρ M τ) (h : evalTOp P (.app e sz b zs s x) d M τ K) : evalOp P (.app e sz b zs s x) d F L ρ (Both G K) := by
  obtain ⟨sv, xv, e1, e2, h3⟩ := sim_appT ht h
  simp only [evalOp, e1, e2]
  exact h3
theorem sim_appX {e sz b : Nat} {zs : List Value} {s x : X} {d : Option Nat} {K : TK} (ht : TS G F L ρ M τ) (h : evalTOp P (.appX e sz b zs s x) d M τ K) : evalOp P (.appX e sz b zs s x) d F L ρ (Both G K) := by
  obtain ⟨sv, xv, e1, e2, ⟨kd, n, xs, m, news, h1, h2, h3, h4, h5, h6⟩⟩ := sim_appT ht h
  simp only [evalOp, e1, e2]
  exact ⟨kd, n, xs, m, news, h1, h2, h3, h4, h5, fun v hv _ => h6 v hv⟩
set_option maxHeartbeats 1000000 in
theorem sim_appD {e sz b : Nat} {zs : List Value} {s x : X} {d : Option Nat} {K : TK} (ht : TS G F L ρ M τ) (h : evalTOp P (.appD e sz b zs s x) d M τ K) : evalOp P (.appD e sz b zs s x) d F L ρ (Both G K) := by
  have he := ht.env
  simp only [evalTOp, fT_eq, fl_eq, fca_eq] at h
  simp only [evalOp]
  split at h
  · rename_i k news hs hx
    split at h
    case h_2 => exact h.elim
    rename_i e' sz' els hk
    split at h
    case h_2 => exact h.elim
    rename_i h1 h2
    obtain rfl := Nat.eq_of_beq_eq_true h1
    obtain rfl := Nat.eq_of_beq_eq_true h2
    obtain ⟨g1, g2, g3, g4⟩ := h
    obtain ⟨a, c, xs, e1, e2, hr, hm⟩ := own_row ht hs hk
    obtain ⟨a', c', sz2, e3, e4, e5, e6, e7⟩ := inv_slc he hx
    obtain ⟨ys, y1, y2, y3⟩ := RelS_flat e7 g1
    rw [e1, e3]
    exact ⟨k, els.length, xs, news.length, ys, .inl e2, ⟨a', c', rfl, y1, y2⟩, y3.ones, g2, g3, fun v hv _ => sim_app_on ht e2 hr y3 g2 g4 hv⟩
  · rename_i news k hs hx
    split at h
    case h_2 => exact h.elim
    rename_i hk
    obtain ⟨g1, g2, g3, g4⟩ := h
    obtain ⟨a', c', sz2, e3, e4, e5, e6, e7⟩ := inv_slc he hx
    obtain ⟨ys, y1, y2, y3⟩ := RelS_flat e7 g1
    simp only [List.length_nil] at g2 g3
    rw [inv_nils he hs, e3]
    exact ⟨k, 0, [], news.length, ys, .inr ⟨rfl, tl_none ht.tl hk, rfl, rfl, rfl⟩, ⟨a', c', rfl, y1, y2⟩, y3.ones, g2, g3, fun v hv _ => sim_app_nil ht hk y3 (by omega) g4 hv⟩
  · exact h.elim
theorem sim_appS {e : Nat} {s x : X} {d : Option Nat} {K : TK} (ht : TS G F L ρ M τ) (h : evalTOp P (.appS e s x) d M τ K) : evalOp P (.appS e s x) d F L ρ (Both G K) := by
  have he := ht.env
  simp only [evalTOp, fT_eq, fl_eq, fca_eq] at h
  simp only [evalOp]
  split at h
  · rename_i k t hs hx
    split at h
    case h_2 => exact h.elim
    rename_i e' sz' els hk
    split at h
    case h_2 => exact h.elim
    rename_i h1 h2
    obtain rfl := Nat.eq_of_beq_eq_true h1
    obtain rfl := Nat.eq_of_beq_eq_true h2
    obtain ⟨g1, g2, g3, g4⟩ := h
    obtain ⟨a, c, xs, e1, e2, hr, hm⟩ := own_row ht hs hk
    have hl : (bcells t.data.toList).length = t.size := by simp [bcells]
    rw [e1, (inv_str he hx).1]
    rw [hl] at g2 g3
    refine ⟨k, els.length, xs, .inl e2, g2, by simpa using g3, fun v hv => ?_⟩
    have := sim_app_on (news := bcells t.data.toList) (v := v) ht e2 hr (RelRow_bytes t.data.toList) (by rw [hl]; exact g2) g4 (by rw [hl]; exact hv)
    rw [hl] at this
    exact this
  · rename_i t k hs hx
    split at h
    case h_2 => exact h.elim
    rename_i hk
    obtain ⟨g1, g2, g3, g4⟩ := h
    have hl : (bcells t.data.toList).length = t.size := by simp [bcells]
    rw [inv_nils he hs, (inv_str he hx).1]
    rw [hl] at g2 g3
    simp only [List.length_nil] at g2 g3
    refine ⟨k, 0, [], .inr ⟨tl_none ht.tl hk, rfl, rfl, rfl⟩, g2, by simpa using g3, fun v hv => ?_⟩
    have := sim_app_nil (news := bcells t.data.toList) (v := v) ht hk (RelRow_bytes t.data.toList) (by rw [hl]; omega) g4 (by rw [hl]; exact hv)
    rw [hl] at this
    exact this
  · exact h.elim

theorem sim_store {n : Nat} {y x : X} {d : Option Nat} {K : TK} (ht : TS G F L ρ M τ) (h : storeT false n y x d M τ K) : evalOp P (.store n y x) d F L ρ (Both G K) := by
  have he := ht.env
  simp only [storeT, fT_eq, fl_eq, fca_eq] at h
  simp only [evalOp]
  split at h
  · rename_i k off h1 h2 h3 hy
    split at h
    case h_2 => exact h.elim
    rename_i t cs hk
    split at h
    case h_2 => exact h.elim
    rename_i hl
    obtain ⟨g, vs, hL, hr⟩ := tl_box ht.tl hk
    have hc := vals_cells he h1
    have hl2 : len? (vcells (val L ρ x)) n = true := len_of (by rw [hc.len]; exact lenC_eq h2)
    have ho := ones_of (ones_vals hc h3)
    rw [hl2, ho, (inv_own he hy).1]
    simp only [hL]
    have hr2 := (hr.drop off).take n
    rw [len_of (by rw [hr2.len]; exact lenC_eq hl)]
    have h4 := ht.turn (o' := .box g t (splice vs off (vcells (val L ρ x)))) (to := .box t (spliceC cs off (tcells (evT τ x)))) hL rfl (fun g' t' cs' e => by injection e with a b c; subst a b; exact ⟨_, rfl⟩)
      (fun L' hx => ⟨rfl, (spliceC_rel hr hc).ext (Frz.le_refl F) hx⟩)
    exact ⟨_, _, h4.put (c := .und) (sv := .v undef) ⟨_, rfl, by simp only [Rel]⟩ d, h⟩
  · rename_i k j off h1 h2 h3 hy
    split at h
    case h_2 => exact h.elim
    rename_i t sz els h0 hk hp
    obtain ⟨r0, es, r1, r2, r3⟩ := h
    obtain ⟨ad, t', sz', m, c, xs', e1, e2⟩ := inv_elr he hy
    obtain ⟨v, xs, e3, ⟨hm, q6⟩, hr⟩ := tl_row ht.tl hk
    rw [e2] at e3
    injection e3 with e3
    injection e3 with q1 q2 q3 q4 q5
    subst q1 q2 q3 q4 q5
    have hc := vals_cells he h1
    have hl0 : (vcells (val L ρ x)).length = n := by rw [hc.len]; exact lenC_eq h2
    have hl2 : len? (vcells (val L ρ x)) n = true := len_of hl0
    have ho := ones_of (ones_vals hc h3)
    rw [hl2, ho, e1]
    have hes : es.length = sz' := by
      obtain ⟨us, u1, _, u3, _⟩ := hr.at r1
      rw [← u1, u3.len]
    have hn : off + n ≤ sz' := Nat.le_of_ble_eq_true r0
    have hset := hr.set (ds := (tcells (evT τ x)).map C.can) (us := vcells (val L ρ x)) (off := off) r1 (by rw [hl0]; exact hn) (cans_rel (pures_rel hp hc)) (ones_can h3)
    have hjlt : j < els.length := (List.getElem?_eq_some_iff.1 r1).1
    have hxl := RelRow_len hr
    have h4 := ht.turn (o' := .row (.slice (some ad) els.length c) t' sz' els.length (splice xs' (j * sz' + off) (vcells (val L ρ x)))) (to := .row t' sz' (els.set j (spliceC es off ((tcells (evT τ x)).map C.can)))) e2 ⟨rfl, rfl, rfl⟩
      (fun g' t'' cs' e => by cases e) (fun L' hx => ⟨rfl, rfl, by simp, ⟨hm, _, _, rfl, fun e => (by cases e)⟩, hset⟩)
    refine ⟨k, _, _, _, _, _, ad, c, e2, rfl, rfl, ?_, ones_vals hc h3, _, _, h4.put (c := .und) (sv := .v undef) ⟨_, rfl, by simp only [Rel]⟩ d, r3 es r1⟩
    rw [hxl, hl0]
    have : (j + 1) * sz' ≤ els.length * sz' := Nat.mul_le_mul_right _ hjlt
    rw [Nat.add_mul] at this
    omega
  · exact h.elim
theorem sim_storeD {n : Nat} {y x : X} {d : Option Nat} {K : TK} (ht : TS G F L ρ M τ) (h : storeT true n y x d M τ K) : evalOp P (.storeD n y x) d F L ρ (Both G K) := by
  have he := ht.env
  simp only [storeT, fT_eq, fl_eq, fca_eq] at h
  simp only [evalOp]
  split at h
  · rename_i k off h1 h2 h3 hy
    split at h
    case h_2 => exact h.elim
    rename_i t cs hk
    split at h
    case h_2 => exact h.elim
    rename_i hl
    obtain ⟨g, vs, hL, hr⟩ := tl_box ht.tl hk
    have hc := vals_cells he h1
    have hl2 : len? (vcells (val L ρ x)) n = true := len_of (by rw [hc.len]; exact lenC_eq h2)
    have ho := ones_of (ones_vals hc h3)
    rw [hl2, ho, (inv_own he hy).1]
    simp only [hL]
    have hr2 := (hr.drop off).take n
    rw [len_of (by rw [hr2.len]; exact lenC_eq hl)]
    have h4 := ht.turn (o' := .box g t (splice vs off (vcells (val L ρ x)))) (to := .box t (spliceC cs off (tcells (evT τ x)))) hL rfl (fun g' t' cs' e => by injection e with a b c; subst a b; exact ⟨_, rfl⟩)
      (fun L' hx => ⟨rfl, (spliceC_rel hr hc).ext (Frz.le_refl F) hx⟩)
    exact ⟨_, _, h4.put (c := .und) (sv := .v undef) ⟨_, rfl, by simp only [Rel]⟩ d, h⟩
  · exact h.elim
  · exact h.elim
theorem sim_makeS {e sz b : Nat} {zs : List Value} {l c : X} {d : Option Nat} {K : TK} (ht : TS G F L ρ M τ) (h : evalTOp P (.makeS e sz b zs l c) d M τ K) : evalOp P (.makeS e sz b zs l c) d F L ρ (Both G K) := by
  have he := ht.env
  simp only [evalTOp, fT_eq, fl_eq, fca_eq] at h
  simp only [evalOp]
  split at h
  case h_2 => exact h.elim
  rename_i k1 n k2 m k hl hc
  split at h
  case h_2 => exact h.elim
  rename_i hk h1 h2
  rw [(inv_int he hl).1, (inv_int he hc).1]
  have hk' := tl_none ht.tl hk
  simp only [hk']
  obtain ⟨g1, g2, g3, g4, g5⟩ := h
  refine ⟨g1, g2, g3, g4, fun g => ?_⟩
  have hz : Rels F [] ((zs.map cv0).map C.can) zs := cans_rel (cv0s_rel zs)
  have hrow : ∀ i : Nat, RelRow F sz (List.replicate i ((zs.map cv0).map C.can)) (List.replicate i zs).flatten := by
    intro i
    induction i with
    | zero => simp only [List.replicate_zero, List.flatten_nil, RelRow]
    | succ i ih =>
      simp only [List.replicate_succ, List.flatten_cons, RelRow]
      exact ⟨zs, _, rfl, by have := lenC_eq h1; simpa using this, ones_can h2, hz, ih⟩
  have h3 := ht.new (Frz.le_refl F) hk' (o := .row (.slice (some ⟨g, 0, none⟩) n.toNat n.toNat) e sz n.toNat (List.replicate n.toNat zs).flatten) (to := .row e sz (List.replicate n.toNat ((zs.map cv0).map C.can)))
    ⟨rfl, rfl, by simp, ⟨g4, _, _, rfl, fun e => (by cases e)⟩, hrow _⟩
  exact ⟨_, _, h3.put (c := .rw k) (relV_rw (by rw [Loc.get_set, if_pos rfl])) (some k), g5⟩
end
end Go.Fr.T

/- The evaluator over data speaks of the evaluator over addresses: what is given up, what is had for nothing, calls. -/
set_option linter.unusedVariables false
set_option linter.unusedSimpArgs false
namespace Go.Fr.T
open Go Go.RowKit Go.Fr

section
variable {P : Program} {G : Nat → Option (Nat × TypeId)} {F : Frz} {L : Loc} {ρ : Env} {M : TL} {τ : TEnv}

theorem toIn_eq : ∀ {ks : List Nat} {i j m : Nat}, toIn ks i j = some m → ∃ n, ks[n]? = some j ∧ m = i + n
  | [], _, _, _, h => by simp [toIn] at h
  | k :: ks, i, j, m, h => by
    simp only [toIn] at h
    cases hj : Nat.beq j k with
    | true =>
      have := Nat.eq_of_beq_eq_true hj
      subst this
      rw [hj] at h
      injection h with h
      exact ⟨0, by simp, by omega⟩
    | false =>
      rw [hj] at h
      obtain ⟨n, h1, h2⟩ := toIn_eq h
      exact ⟨n + 1, by simpa using h1, by omega⟩
theorem fromIn_eq {ko : List Nat} {j m : Nat} (h : fromIn ko j = some m) : 1000 ≤ j ∧ ko[j - 1000]? = some m := by
  simp only [fromIn] at h
  split at h
  · rename_i h1; exact ⟨Nat.le_of_ble_eq_true h1, h⟩
  · cases h
theorem nodup?_eq : ∀ {l : List Nat}, nodup? l = true → l.Nodup
  | [], _ => List.nodup_nil
  | k :: l, h => by
    simp only [nodup?] at h
    split at h
    · cases h
    · rename_i h1
      exact List.nodup_cons.2 ⟨fun hm => (by rw [mem?_eq.2 hm] at h1; cases h1), nodup?_eq h⟩

/- keys get other names -/
theorem ren_leaf {L' : Loc} {f : Nat → Option Nat} (hf : ∀ j m, f j = some m → ∀ o, L.get j = some o → L'.get m = some o) (c : C) (v : Value) (hc : c.leaf = true) (h : Rel F L c v) : Rel F L' (renLeaf f c) v := by
  cases c <;> simp only [C.leaf, Bool.false_eq_true] at hc <;> simp only [renLeaf]
  case rw j =>
    simp only [Rel] at h
    obtain ⟨a, c, t, sz, n, xs, rfl, h⟩ := h
    cases hj : f j with
    | none => simp only [Rel]
    | some m => simp only [Rel]; exact ⟨a, c, t, sz, n, xs, rfl, hf j m hj _ h⟩
  case own j off =>
    simp only [Rel] at h
    obtain ⟨g, t, cs, h, rfl⟩ := h
    cases hj : f j with
    | none => simp only [Rel]
    | some m => simp only [Rel]; exact ⟨g, t, cs, hf j m hj _ h, rfl⟩
  case ownv => exact h.elim
  case elr => exact h.elim
  all_goals
    exact rel_leaf (Frz.le_refl F) (fun j' e => by rcases e with ⟨off, e⟩ | e <;> cases e) rfl h
theorem Rel.ren {L' : Loc} {f : Nat → Option Nat} (hf : ∀ j m, f j = some m → ∀ o, L.get j = some o → L'.get m = some o) {c : C} {v : Value} (h : Rel F L c v) : Rel F L' (c.ren f) v := Rel.mp (ren_leaf hf) 3 h
theorem RelO.ren {L' : Loc} {f : Nat → Option Nat} (hf : ∀ j m, f j = some m → ∀ o, L.get j = some o → L'.get m = some o) : ∀ {o : TO} {p : Own}, RelO F L o p → RelO F L' (o.mapC (C.ren f)) p
  | .box t cs, .box g t' vs, r => ⟨r.1, r.2.map fun c _ v h => h.ren hf⟩
  | .row t sz els, .row v t' sz' n xs, r => r
  | .box _ _, .row .., r => r.elim
  | .row .., .box .., r => r.elim
theorem tl_sub (ht : RelTL F L M) : ∀ {ks : List Nat} {Lin : List TO}, M.sub ks = some Lin → ∃ Li, L.sub ks = some Li ∧ Li.length = Lin.length ∧ ∀ (i : Nat) o p, Lin[i]? = some o → Li[i]? = some p → RelO F L o p
  | [], Lin, h => by simp only [TL.sub, Option.some.injEq] at h; subst h; exact ⟨[], rfl, rfl, by simp⟩
  | k :: ks, Lin, h => by
    simp only [TL.sub] at h
    split at h
    case h_2 => cases h
    rename_i o l h1 h2
    injection h with h
    subst h
    obtain ⟨Li, e1, e2, e3⟩ := tl_sub ht h2
    rcases relK_get (ht k) with ⟨q1, q2⟩ | ⟨o', p, q1, q2, hr⟩
    · rw [h1] at q1; cases q1
    · rw [h1] at q1
      injection q1 with q1
      subst q1
      refine ⟨p :: Li, by simp only [Loc.sub, q2, e1], by simp [e2], fun i o'' p'' hi hp => ?_⟩
      cases i with
      | zero => simp only [List.getElem?_cons_zero, Option.some.injEq] at hi hp; subst hi; subst hp; exact hr
      | succ i => exact e3 i o'' p'' (by simpa using hi) (by simpa using hp)
theorem inp_sub {ks : List Nat} {Li : List Own} (hs : L.sub ks = some Li) : ∀ j m, toIn ks 1000 j = some m → ∀ o, L.get j = some o → (inp Li).get m = some o := by
  intro j m h o ho
  obtain ⟨n, h1, rfl⟩ := toIn_eq h
  obtain ⟨_, hg⟩ := sub_get hs
  rw [inp_get, if_pos (by omega), show 1000 + n - 1000 = n by omega, ← hg n j h1]
  exact ho
/-- what a callee is handed -/
theorem tl_inp (ht : RelTL F L M) {ks : List Nat} {Lin : List TO} {Li : List Own} (hl : Li.length = Lin.length) (hs : L.sub ks = some Li) (hr : ∀ (i : Nat) o p, Lin[i]? = some o → Li[i]? = some p → RelO F L o p) :
    RelTL F (inp Li) (tinp (Lin.map (TO.mapC (C.ren (toIn ks 1000))))) := by
  intro k
  rw [tinp_get, inp_get]
  split
  · rw [List.getElem?_map]
    cases e1 : Lin[k - 1000]? with
    | none =>
      have : Li[k - 1000]? = none := by rw [List.getElem?_eq_none_iff] at e1 ⊢; omega
      rw [this]; trivial
    | some o =>
      have hlt : k - 1000 < Li.length := by have := (List.getElem?_eq_some_iff.1 e1).1; omega
      rw [List.getElem?_eq_getElem hlt]
      exact (hr _ _ _ e1 (List.getElem?_eq_getElem hlt)).ren (inp_sub hs)
  · trivial

/- rows that are handed over: what named them names nothing any more -/
def dropRow (L : Loc) (k : Nat) : Loc := match L.get k with | some (.row ..) => L.del k | _ => L
def dropRows : List Nat → Loc → Loc
  | [], L => L
  | k :: ks, L => dropRows ks (dropRow L k)
theorem kill_drop (k : Nat) : (∀ c v, c.leaf = true → Rel F L c v → Rel F (dropRow L k) (killLeaf k c) v) ∧ (∀ c sv, c.leaf = true → RelV F L c sv → RelV F (dropRow L k) (killLeaf k c) sv) := by
  by_cases hrow : ∃ v t sz n xs, L.get k = some (.row v t sz n xs)
  · obtain ⟨v, t, sz, n, xs, hrow⟩ := hrow
    have e : dropRow L k = L.del k := by simp only [dropRow, hrow]
    rw [e]
    have h1 : ∀ g t cs, L.get k ≠ some (.box g t cs) := fun g t cs h => by rw [hrow] at h; injection h with h; cases h
    have h2 : ∀ j, j ≠ k → ∀ o, L.get j = some o → ∃ o', (L.del k).get j = some o' ∧ Own.like o o' := fun j hj o ho => ⟨o, by rw [Loc.get_del, if_neg hj]; exact ho, Own.like_refl o⟩
    exact ⟨kill_leaf h1 h2 (Frz.le_refl F), killV_leaf h1 h2 (Frz.le_refl F)⟩
  · have e : dropRow L k = L := by
      simp only [dropRow]
      split
      · rename_i h; exact absurd ⟨_, _, _, _, _, h⟩ hrow
      · rfl
    rw [e]
    refine ⟨fun c v hc h => ?_, fun c sv hc h => ?_⟩
    · cases c <;> simp only [killLeaf] <;> first
        | exact h
        | exact h.elim
        | (split <;> first | exact h | (simp only [Rel]; done))
    · cases c <;> simp only [killLeaf] <;> first
        | exact h
        | (split <;> first | exact h | trivial)
theorem Rel.kills : ∀ (ks : List Nat) {L : Loc} {c : C} {v : Value}, Rel F L c v → Rel F (dropRows ks L) (C.kills ks c) v
  | [], L, c, v, h => h
  | k :: ks, L, c, v, h => Rel.kills ks (Rel.mp (kill_drop k).1 3 h)
theorem RelV.kills : ∀ (ks : List Nat) {L : Loc} {c : C} {sv : SV}, RelV F L c sv → RelV F (dropRows ks L) (C.kills ks c) sv
  | [], L, c, sv, h => h
  | k :: ks, L, c, sv, h => RelV.kills ks (RelV.mp (kill_drop k).1 (kill_drop k).2 3 h)
theorem RelO.kills (ks : List Nat) {L : Loc} : ∀ {o : TO} {p : Own}, RelO F L o p → RelO F (dropRows ks L) (o.mapC (C.kills ks)) p
  | .box t cs, .box g t' vs, r => ⟨r.1, r.2.map fun c _ v h => h.kills ks⟩
  | .row t sz els, .row v t' sz' n xs, r => r
  | .box _ _, .row .., r => r.elim
  | .row .., .box .., r => r.elim
theorem dropRow_get {k j : Nat} {o : Own} (h : (dropRow L k).get j = some o) : L.get j = some o ∧ (j = k → ∃ g t cs, o = .box g t cs) := by
  unfold dropRow at h
  split at h
  · rw [Loc.get_del] at h
    split at h
    · cases h
    · rename_i hj; exact ⟨h, fun e => absurd e hj⟩
  · rename_i hn
    refine ⟨h, fun e => ?_⟩
    subst e
    cases o with
    | box g t cs => exact ⟨g, t, cs, rfl⟩
    | row v t sz n xs => exact absurd h (hn v t sz n xs)
theorem dropRows_get : ∀ {ks : List Nat} {L : Loc} {j : Nat} {o : Own}, (dropRows ks L).get j = some o → L.get j = some o ∧ (j ∈ ks → ∃ g t cs, o = .box g t cs)
  | [], L, j, o, h => ⟨h, by simp⟩
  | k :: ks, L, j, o, h => by
    obtain ⟨h1, h2⟩ := dropRows_get (ks := ks) h
    obtain ⟨h3, h4⟩ := dropRow_get h1
    exact ⟨h3, fun hm => by
      rcases List.mem_cons.1 hm with e | e
      · exact h4 e
      · exact h2 e⟩
theorem tkills_get (ks : List Nat) (M : TL) (k : Nat) : (TL.kills ks M).get k = (M.get k).map (TO.mapC (C.kills ks)) := by
  cases ks with
  | nil =>
    simp only [TL.kills]
    cases M.get k with
    | none => rfl
    | some o =>
      cases o with
      | box t cs =>
        have e : (C.kills [] : C → C) = id := rfl
        simp [TO.mapC, e]
      | row t sz els => rfl
  | cons a ks => exact mapC_get _ _ _
theorem killsE_get (ks : List Nat) (τ : TEnv) (j : Nat) : killsE ks τ j = (τ j).kills ks := by cases ks <;> rfl

/-- the boxes that come back, by their places -/
theorem boxesAt_eq : ∀ {Lin : List TO} {ks ko : List Nat}, boxesAt Lin ks ko = true → ∀ (i : Nat) t cs, Lin[i]? = some (.box t cs) → ∃ k, ks[i]? = some k ∧ ko[i]? = some k
  | [], _, _, _, i, t, cs, e => by simp at e
  | .box t0 c0 :: l, [], ko, h, i, t, cs, e => by cases ko <;> simp [boxesAt] at h
  | .box t0 c0 :: l, k :: ks, [], h, i, t, cs, e => by simp [boxesAt] at h
  | .box t0 c0 :: l, k :: ks, k' :: ko, h, i, t, cs, e => by
    simp only [boxesAt] at h
    split at h
    case h_2 => cases h
    rename_i hk
    have := Nat.eq_of_beq_eq_true hk
    subst this
    cases i with
    | zero => exact ⟨k, by simp, by simp⟩
    | succ i => simpa using boxesAt_eq h i t cs (by simpa using e)
  | .row .. :: l, k :: ks, k' :: ko, h, i, t, cs, e => by
    simp only [boxesAt] at h
    cases i with
    | zero => simp at e
    | succ i => simpa using boxesAt_eq h i t cs (by simpa using e)
  | .row .. :: l, k :: ks, [], h, i, t, cs, e => by
    simp only [boxesAt] at h
    cases i with
    | zero => simp at e
    | succ i =>
      obtain ⟨k', h1, h2⟩ := boxesAt_eq h i t cs (by simpa using e)
      simp at h2
  | .row .. :: l, [], ko, h, i, t, cs, e => by simp [boxesAt] at h
theorem koOk_eq {M : TL} {ks : List Nat} : ∀ {ko : List Nat}, koOk M ks ko = true → ∀ k ∈ ko, k ∈ ks ∨ M.get k = none
  | [], _, k, hk => by simp at hk
  | k0 :: ko, h, k, hk => by
    simp only [koOk] at h
    rcases List.mem_cons.1 hk with e | e
    · subst e
      split at h
      · rename_i h1; exact .inl (mem?_eq.1 h1)
      · rename_i h1 h2; exact .inr h2
      · cases h
    · split at h
      · exact koOk_eq h k e
      · exact koOk_eq h k e
      · cases h
theorem puts_get' {ko : List Nat} {Lo : List Own} {L : Loc} (hn : ko.Nodup) (hl : ko.length = Lo.length) {i k : Nat} {o : Own} (hk : ko[i]? = some k) (ho : Lo[i]? = some o) : (L.puts ko Lo).get k = some o := by
  rcases puts_get ko Lo L k hn hl with ⟨_, h2⟩ | ⟨i', h1, h2, _⟩
  · exact absurd (List.mem_of_getElem? hk) h2
  · have := nodup_idx hn h1 hk
    subst this
    rw [h2, ho]

/-- a call -/
theorem sim_call0 {f : Nat} {args : List C} {vs : List Value} {ks ko : List Nat} {Lin : List TO} {R : List TO → C → Prop} {K : TL → TEnv → C → Prop} (ht : TS G F L ρ M τ) (ha : Rels F L args vs)
    (h1 : M.sub ks = some Lin) (h2 : nodup? ks = true) (h3 : nodup? ko = true) (h4 : koOk M ks ko = true) (h5 : boxesAt Lin ks ko = true)
    (h6 : CallsT P f (args.map fun c => c.canA.ren (toIn ks 1000)) (Lin.map (TO.mapC (C.ren (toIn ks 1000)))) R)
    (h7 : ∀ v Mo, R Mo v → Wf v → (∀ o ∈ Mo, o.Wf) → ko.length = Mo.length ∧ K (((M.dels ks).kills ks).puts ko (Mo.map (TO.mapC (C.ren (fromIn ko))))) (killsE ks τ) (v.ren (fromIn ko)).slt) :
    CallPt P f vs F L (fun F' L' v => ∃ M' τ' c, TS G F' L' ρ M' τ' ∧ RelV F' L' c (.v v) ∧ K M' τ' c) := by
  obtain ⟨Li, e1, e2, e3⟩ := tl_sub ht.tl h1
  have hn := nodup?_eq h2
  have hno := nodup?_eq h3
  have hko : ∀ k, k ∈ ko → k ∈ ks ∨ L.get k = none := fun k hk => (koOk_eq h4 k hk).imp id fun e => tl_none ht.tl e
  have hsg := sub_get e1
  refine ⟨ks, ko, Li, ResA Li R, e1, hn, hno, hko, h6.out F Li vs (by simp [e2]) (tl_inp ht.tl e2 e1 e3) ?_, ?_⟩
  · exact ha.map fun c _ v hc => (canA_rel hc).ren (inp_sub e1)
  · rintro v F' Lo hF ⟨Mo, c, q1, q2, q3, q4, q5⟩
    have hwo : ∀ o ∈ Mo, o.Wf := by
      intro o ho
      obtain ⟨i, hi⟩ := List.mem_iff_getElem?.1 ho
      have hlt : i < Lo.length := by rw [← q1]; exact (List.getElem?_eq_some_iff.1 hi).1
      have := q2 (1000 + i)
      rw [tinp_get, inp_get, if_pos (by omega), if_pos (by omega), show 1000 + i - 1000 = i by omega, hi, List.getElem?_eq_getElem hlt] at this
      exact RelO.wf this
    obtain ⟨k1, k2⟩ := h7 c Mo q5 q3.wf hwo
    have hlen : ko.length = Lo.length := by rw [k1, q1]
    have hboxes : ∀ k g t cs, k ∈ ks → L.get k = some (.box g t cs) → ∃ cs', Loc.get ((L.dels ks).puts ko Lo) k = some (.box g t cs') := by
      intro k g t cs hk hg
      obtain ⟨i, hi⟩ := List.mem_iff_getElem?.1 hk
      have hLi : Li[i]? = some (.box g t cs) := by rw [← hsg.2 i k hi]; exact hg
      have hlt : i < Lin.length := by rw [← e2]; exact (List.getElem?_eq_some_iff.1 hLi).1
      have hr := e3 i _ _ (List.getElem?_eq_getElem hlt) hLi
      cases hL : Lin[i] with
      | row => rw [hL] at hr; exact hr.elim
      | box t' cs' =>
        obtain ⟨k', b1, b2⟩ := boxesAt_eq h5 i t' cs' (by rw [List.getElem?_eq_getElem hlt, hL])
        rw [hi] at b1
        injection b1 with b1
        subst b1
        obtain ⟨cs2, hLo⟩ := q4 i g t cs hLi
        exact ⟨cs2, puts_get' hno hlen b2 hLo⟩
    refine ⟨hlen, hboxes, ?_⟩
    generalize hL' : (L.dels ks).puts ko Lo = L' at hboxes
    -- what was there before
    have hold : ∀ k, k ∉ ks → ∀ o, L.get k = some o → L'.get k = some o := by
      intro k hk o ho
      rw [← hL']
      rcases puts_get ko Lo (L.dels ks) k hno hlen with ⟨a1, a2⟩ | ⟨i, a1, a2, a3⟩
      · rw [a1, dels_get, if_neg hk]; exact ho
      · rcases hko k (List.mem_of_getElem? a1) with e | e
        · exact absurd e hk
        · rw [ho] at e; cases e
    have hext : Ext (dropRows ks L) L' := by
      intro k o ho
      obtain ⟨g1, g2⟩ := dropRows_get ho
      by_cases hk : k ∈ ks
      · obtain ⟨g, t, cs, rfl⟩ := g2 hk
        obtain ⟨cs', h⟩ := hboxes k g t cs hk g1
        exact ⟨_, h, rfl⟩
      · exact ⟨o, hold k hk o g1, Own.like_refl o⟩
    have hback : ∀ j m, fromIn ko j = some m → ∀ o, (inp Lo).get j = some o → L'.get m = some o := by
      intro j m hj o ho
      obtain ⟨a1, a2⟩ := fromIn_eq hj
      rw [inp_get, if_pos a1] at ho
      rw [← hL']
      exact puts_get' hno hlen a2 ho
    refine ⟨_, _, _, ⟨fun k => ?_, fun j => ?_, fun k g t e => ?_⟩, slt_rel (q3.ren hback), k2⟩
    · rcases tputs_get ko (Mo.map (TO.mapC (C.ren (fromIn ko)))) ((M.dels ks).kills ks) k hno (by simp [k1]) with ⟨a1, a2⟩ | ⟨i, a1, a2, a3⟩
      · have hLk : L'.get k = (L.dels ks).get k := by
          rw [← hL']
          rcases puts_get ko Lo (L.dels ks) k hno hlen with ⟨b1, _⟩ | ⟨i, b1, _, _⟩
          · exact b1
          · exact absurd (List.mem_of_getElem? b1) a2
        rw [a1, hLk, tkills_get, tdels_get, dels_get]
        split
        · trivial
        · rcases relK_get (ht.tl k) with ⟨c1, c2⟩ | ⟨o, p, c1, c2, hr⟩
          · rw [c1, c2]; trivial
          · rw [c1, c2]; exact (hr.kills ks).ext hF hext
      · rw [a2, List.getElem?_map]
        have hlt : i < Mo.length := by simpa using a3
        have hlt2 : i < Lo.length := by omega
        have hLk : L'.get k = some (Lo[i]) := by rw [← hL']; exact puts_get' hno hlen a1 (List.getElem?_eq_getElem hlt2)
        rw [hLk, List.getElem?_eq_getElem hlt]
        have := q2 (1000 + i)
        rw [tinp_get, inp_get, if_pos (by omega), if_pos (by omega), show 1000 + i - 1000 = i by omega, List.getElem?_eq_getElem hlt, List.getElem?_eq_getElem hlt2] at this
        exact RelO.ren hback this
    · rw [killsE_get]
      exact ((ht.env j).kills ks).ext hF hext
    · obtain ⟨cs, h⟩ := ht.kp k g t e
      by_cases hk : k ∈ ks
      · exact hboxes k g t cs hk h
      · exact ⟨cs, hold k hk _ h⟩
/-- the same, where the call may panic -/
theorem sim_callX {PS Pp : Value → Prop} {f : Nat} {args : List C} {vs : List Value} {ks ko : List Nat} {Lin : List TO} {R : List TO → C → Prop} {K : TL → TEnv → C → Prop} (ht : TS G F L ρ M τ) (ha : Rels F L args vs)
    (h1 : M.sub ks = some Lin) (h2 : nodup? ks = true) (h3 : nodup? ko = true) (h4 : koOk M ks ko = true) (h5 : boxesAt Lin ks ko = true)
    (h6 : CallsTX P f (args.map fun c => c.canA.ren (toIn ks 1000)) (Lin.map (TO.mapC (C.ren (toIn ks 1000)))) R Pp) (hps : ∀ v, Pp v → PS v)
    (h7 : ∀ v Mo, R Mo v → Wf v → (∀ o ∈ Mo, o.Wf) → ko.length = Mo.length ∧ K (((M.dels ks).kills ks).puts ko (Mo.map (TO.mapC (C.ren (fromIn ko))))) (killsE ks τ) (v.ren (fromIn ko)).slt) :
    CallXPt P (fun L' v => Kp G L' ∧ PS v) f vs F L (fun F' L' v => ∃ M' τ' c, TS G F' L' ρ M' τ' ∧ RelV F' L' c (.v v) ∧ K M' τ' c) := by
  obtain ⟨Li, e1, e2, e3⟩ := tl_sub ht.tl h1
  have hn := nodup?_eq h2
  have hno := nodup?_eq h3
  have hko : ∀ k, k ∈ ko → k ∈ ks ∨ L.get k = none := fun k hk => (koOk_eq h4 k hk).imp id fun e => tl_none ht.tl e
  have hsg := sub_get e1
  refine ⟨ks, ko, Li, ResA Li R, Pp, e1, hn, hno, hko, h6.out F Li vs (by simp [e2]) (tl_inp ht.tl e2 e1 e3) ?_, fun v L' hbk hv => ⟨fun k g t e => let ⟨cs, h⟩ := ht.kp k g t e; hbk k g t cs h, hps v hv⟩, ?_⟩
  · exact ha.map fun c _ v hc => (canA_rel hc).ren (inp_sub e1)
  · rintro v F' Lo hF ⟨Mo, c, q1, q2, q3, q4, q5⟩
    have hwo : ∀ o ∈ Mo, o.Wf := by
      intro o ho
      obtain ⟨i, hi⟩ := List.mem_iff_getElem?.1 ho
      have hlt : i < Lo.length := by rw [← q1]; exact (List.getElem?_eq_some_iff.1 hi).1
      have := q2 (1000 + i)
      rw [tinp_get, inp_get, if_pos (by omega), if_pos (by omega), show 1000 + i - 1000 = i by omega, hi, List.getElem?_eq_getElem hlt] at this
      exact RelO.wf this
    obtain ⟨k1, k2⟩ := h7 c Mo q5 q3.wf hwo
    have hlen : ko.length = Lo.length := by rw [k1, q1]
    have hboxes : ∀ k g t cs, k ∈ ks → L.get k = some (.box g t cs) → ∃ cs', Loc.get ((L.dels ks).puts ko Lo) k = some (.box g t cs') := by
      intro k g t cs hk hg
      obtain ⟨i, hi⟩ := List.mem_iff_getElem?.1 hk
      have hLi : Li[i]? = some (.box g t cs) := by rw [← hsg.2 i k hi]; exact hg
      have hlt : i < Lin.length := by rw [← e2]; exact (List.getElem?_eq_some_iff.1 hLi).1
      have hr := e3 i _ _ (List.getElem?_eq_getElem hlt) hLi
      cases hL : Lin[i] with
      | row => rw [hL] at hr; exact hr.elim
      | box t' cs' =>
        obtain ⟨k', b1, b2⟩ := boxesAt_eq h5 i t' cs' (by rw [List.getElem?_eq_getElem hlt, hL])
        rw [hi] at b1
        injection b1 with b1
        subst b1
        obtain ⟨cs2, hLo⟩ := q4 i g t cs hLi
        exact ⟨cs2, puts_get' hno hlen b2 hLo⟩
    refine ⟨hlen, hboxes, ?_⟩
    generalize hL' : (L.dels ks).puts ko Lo = L' at hboxes
    -- what was there before
    have hold : ∀ k, k ∉ ks → ∀ o, L.get k = some o → L'.get k = some o := by
      intro k hk o ho
      rw [← hL']
      rcases puts_get ko Lo (L.dels ks) k hno hlen with ⟨a1, a2⟩ | ⟨i, a1, a2, a3⟩
      · rw [a1, dels_get, if_neg hk]; exact ho
      · rcases hko k (List.mem_of_getElem? a1) with e | e
        · exact absurd e hk
        · rw [ho] at e; cases e
    have hext : Ext (dropRows ks L) L' := by
      intro k o ho
      obtain ⟨g1, g2⟩ := dropRows_get ho
      by_cases hk : k ∈ ks
      · obtain ⟨g, t, cs, rfl⟩ := g2 hk
        obtain ⟨cs', h⟩ := hboxes k g t cs hk g1
        exact ⟨_, h, rfl⟩
      · exact ⟨o, hold k hk o g1, Own.like_refl o⟩
    have hback : ∀ j m, fromIn ko j = some m → ∀ o, (inp Lo).get j = some o → L'.get m = some o := by
      intro j m hj o ho
      obtain ⟨a1, a2⟩ := fromIn_eq hj
      rw [inp_get, if_pos a1] at ho
      rw [← hL']
      exact puts_get' hno hlen a2 ho
    refine ⟨_, _, _, ⟨fun k => ?_, fun j => ?_, fun k g t e => ?_⟩, slt_rel (q3.ren hback), k2⟩
    · rcases tputs_get ko (Mo.map (TO.mapC (C.ren (fromIn ko)))) ((M.dels ks).kills ks) k hno (by simp [k1]) with ⟨a1, a2⟩ | ⟨i, a1, a2, a3⟩
      · have hLk : L'.get k = (L.dels ks).get k := by
          rw [← hL']
          rcases puts_get ko Lo (L.dels ks) k hno hlen with ⟨b1, _⟩ | ⟨i, b1, _, _⟩
          · exact b1
          · exact absurd (List.mem_of_getElem? b1) a2
        rw [a1, hLk, tkills_get, tdels_get, dels_get]
        split
        · trivial
        · rcases relK_get (ht.tl k) with ⟨c1, c2⟩ | ⟨o, p, c1, c2, hr⟩
          · rw [c1, c2]; trivial
          · rw [c1, c2]; exact (hr.kills ks).ext hF hext
      · rw [a2, List.getElem?_map]
        have hlt : i < Mo.length := by simpa using a3
        have hlt2 : i < Lo.length := by omega
        have hLk : L'.get k = some (Lo[i]) := by rw [← hL']; exact puts_get' hno hlen a1 (List.getElem?_eq_getElem hlt2)
        rw [hLk, List.getElem?_eq_getElem hlt]
        have := q2 (1000 + i)
        rw [tinp_get, inp_get, if_pos (by omega), if_pos (by omega), show 1000 + i - 1000 = i by omega, List.getElem?_eq_getElem hlt, List.getElem?_eq_getElem hlt2] at this
        exact RelO.ren hback this
    · rw [killsE_get]
      exact ((ht.env j).kills ks).ext hF hext
    · obtain ⟨cs, h⟩ := ht.kp k g t e
      by_cases hk : k ∈ ks
      · exact hboxes k g t cs hk h
      · exact ⟨cs, hold k hk _ h⟩
end
end Go.Fr.T

/- The evaluator over data speaks of the evaluator over addresses: what is given up, what is had for nothing, all operations. -/
set_option linter.unusedVariables false
set_option linter.unusedSimpArgs false
namespace Go.Fr.T
open Go Go.RowKit Go.Fr

section
variable {P : Program} {G : Nat → Option (Nat × TypeId)} {F : Frz} {L : Loc} {ρ : Env} {M : TL} {τ : TEnv} {a : Act} {w : World}

theorem TL.get_del' (M : TL) (k j : Nat) : (M.del k).get j = if j = k then none else M.get j := TL.get_del M k j

/-- a row is given up -/
theorem frz_leaf {F' : Frz} (hF : F.le F') {k : Nat} {a : Option Addr} {c : Nat} {t sz : Nat} {els : List (List C)} {xs : List Value} (hk : L.get k = some (.row (.slice a els.length c) t sz els.length xs))
    (hr : Rel F' (L.del k) (.sl els) (.slice a els.length c)) : (∀ d v, C.leaf d = true → Rel F L d v → Rel F' (L.del k) (frzLeaf k els d) v) ∧ (∀ d sv, C.leaf d = true → RelV F L d sv → RelV F' (L.del k) (frzLeaf k els d) sv) := by
  have h2 : ∀ j, j ≠ k → ∀ o, L.get j = some o → ∃ o', (L.del k).get j = some o' ∧ Own.like o o' := fun j hj o ho => ⟨o, by rw [Loc.get_del, if_neg hj]; exact ho, Own.like_refl o⟩
  have hrow : ∀ g t cs, L.get k ≠ some (.box g t cs) := fun g t cs h => by rw [hk] at h; injection h with h; cases h
  constructor
  · intro d v hc h
    cases d <;> simp only [C.leaf, Bool.false_eq_true] at hc
    case rw j =>
      simp only [frzLeaf]
      cases hj : Nat.beq j k with
      | true =>
        have := Nat.eq_of_beq_eq_true hj
        subst this
        simp only [Rel] at h
        obtain ⟨a', c', t', sz', n', xs', rfl, h⟩ := h
        rw [hk] at h
        injection h with h
        injection h with q1 q2 q3 q4 q5
        rw [← q1]
        exact hr
      | false =>
        have := kill_leaf hrow h2 hF (.rw j) v rfl h
        simpa only [killLeaf, hj] using this
    all_goals
      have := kill_leaf hrow h2 hF _ v rfl h
      simpa only [killLeaf, frzLeaf] using this
  · intro d sv hc h
    cases d <;> simp only [C.leaf, Bool.false_eq_true] at hc
    case rw j =>
      simp only [frzLeaf]
      cases hj : Nat.beq j k with
      | true =>
        have := Nat.eq_of_beq_eq_true hj
        subst this
        simp only [RelV, Rel] at h
        obtain ⟨v, e, a', c', t', sz', n', xs', rfl, h⟩ := h
        rw [hk] at h
        injection h with h
        injection h with q1 q2 q3 q4 q5
        rw [← q1] at e
        exact ⟨_, e, hr⟩
      | false =>
        have := killV_leaf hrow h2 hF (.rw j) sv rfl h
        simpa only [killLeaf, hj] using this
    all_goals
      have := killV_leaf hrow h2 hF _ sv rfl h
      simpa only [killLeaf, frzLeaf] using this
theorem RelO.frz {F' : Frz} (hF : F.le F') {k : Nat} {els : List (List C)} (hl : ∀ d v, C.leaf d = true → Rel F L d v → Rel F' (L.del k) (frzLeaf k els d) v) : ∀ {o : TO} {p : Own}, RelO F L o p → RelO F' (L.del k) (o.mapC (C.frz k els)) p
  | .box t cs, .box g t' vs, r => ⟨r.1, r.2.map fun c _ v h => Rel.mp hl 3 h⟩
  | .row t sz els, .row v t' sz' n xs, r => ⟨r.1, r.2.1, r.2.2.1, r.2.2.2.1, r.2.2.2.2.mono hF⟩
  | .box _ _, .row .., r => r.elim
  | .row .., .box .., r => r.elim
theorem frz1_sound {k : Nat} {t sz : Nat} {els : List (List C)} (hs : St F L w) (he : EnvOk L ρ a) (ht : TS G F L ρ M τ) (hk : M.get k = some (.row t sz els)) :
    ∃ F' L', St F' L' w ∧ EnvOk L' ρ a ∧ Step F L w F' L' w ∧ TS G F' L' ρ ((M.del k).mapC (C.frz k els)) (fun j => (τ j).frz k els) ∧ (∀ {c v}, Rel F L c v → Rel F' L' (c.frz k els) v) := by
  obtain ⟨v, xs, hL, ⟨hm, av, cv, rfl, hnil⟩, hr⟩ := tl_row ht.tl hk
  obtain ⟨F', L', g1, g2, g3, hF, hfr, rfl⟩ := frz_sound (KK := fun F' L' => F.le F' ∧ FRow F' (.slice av els.length cv) sz els.length xs ∧ L' = L.del k) hs he ⟨_, _, _, _, _, hL, fun F' hF hfr => ⟨hF, hfr, rfl⟩⟩
  have hrel : Rel F' (L.del k) (.sl els) (.slice av els.length cv) := by
    simp only [Rel]
    rcases hfr with ⟨e1, e2, e3⟩ | ⟨ad, c2, e1, e2, e3⟩
    · injection e1 with q1 q2 q3
      have : els = [] := List.length_eq_zero_iff.1 q2
      subst this
      exact ⟨av, cv, rfl, by simp, by simp, fun _ => ⟨rfl, q3⟩, sz, by simp only [RelS]⟩
    · injection e1 with q1 q2 q3
      subst q1 q3
      exact ⟨some ad, cv, rfl, e3, hm, fun e => (by cases e), sz, (hr.mono hF).frz e2⟩
  obtain ⟨l1, l2⟩ := frz_leaf hF hL hrel
  refine ⟨F', L.del k, g1, g2, g3, ⟨fun j => ?_, fun j => RelV.mp l1 l2 3 (ht.env j), fun j g t e => ?_⟩, fun h => Rel.mp l1 3 h⟩
  · rw [mapC_get, TL.get_del, Loc.get_del]
    split
    · trivial
    · rcases relK_get (ht.tl j) with ⟨e1, e2⟩ | ⟨o, p, e1, e2, hro⟩
      · rw [e1, e2]; trivial
      · rw [e1, e2]; exact hro.frz hF l1
  · obtain ⟨cs, h⟩ := ht.kp j g t e
    exact ⟨cs, by rw [Loc.get_del, if_neg (by rintro rfl; rw [hL] at h; injection h with h; cases h)]; exact h⟩
theorem frzK_sound : ∀ {fz : List Nat} {F : Frz} {L : Loc} {M : TL} {τ : TEnv} {args : List C} {vs : List Value} {K : TL → TEnv → List C → Prop}, St F L w → EnvOk L ρ a → TS G F L ρ M τ → Rels F L args vs → frzK fz M τ args K →
    ∃ F' L' M' τ' args', St F' L' w ∧ EnvOk L' ρ a ∧ Step F L w F' L' w ∧ TS G F' L' ρ M' τ' ∧ Rels F' L' args' vs ∧ K M' τ' args'
  | [], F, L, M, τ, args, vs, K, hs, he, ht, ha, h => ⟨F, L, M, τ, args, hs, he, Step.refl _ _ _, ht, ha, h⟩
  | k :: fz, F, L, M, τ, args, vs, K, hs, he, ht, ha, h => by
    simp only [frzK] at h
    split at h
    case h_2 => exact h.elim
    rename_i t sz els hk
    obtain ⟨F1, L1, g1, g2, g3, g4, g5⟩ := frz1_sound hs he ht hk
    obtain ⟨F2, L2, M2, τ2, args2, k1, k2, k3, k4, k5, k6⟩ := frzK_sound g1 g2 g4 (ha.map fun c _ v hc => g5 hc) h
    exact ⟨F2, L2, M2, τ2, args2, k1, k2, g3.trans k3, k4, k5, k6⟩

/-- what can be had for nothing -/
def mkL (L : Loc) : TL → Loc
  | [] => []
  | (k, o) :: l => (k, match L.get k with
    | some p => p
    | none => match o with
      | .row t sz _ => .row (.slice none 0 0) t sz 0 []
      | .box _ _ => .row (.slice none 0 0) 0 0 0 []) :: mkL L l
theorem mkL_get : ∀ (M1 : TL) (k : Nat), (mkL L M1).get k = match M1.get k with
    | some o => some (match L.get k with | some p => p | none => match o with | .row t sz _ => .row (.slice none 0 0) t sz 0 [] | .box _ _ => .row (.slice none 0 0) 0 0 0 [])
    | none => none
  | [], k => rfl
  | (j, o) :: l, k => by
    simp only [mkL, Loc.get, TL.get]
    cases h : Nat.beq j k with
    | true => have := Nat.eq_of_beq_eq_true h; subst this; rfl
    | false => exact mkL_get l k
theorem gives_at : ∀ {l : TL} {M1 : TL}, gives M M1 l → ∀ {k o}, l.get k = some o → (∃ p, M.get k = some p ∧ leO M M1 p o) ∨ (M.get k = none ∧ ∃ t sz, o = .row t sz [])
  | [], M1, h, k, o, e => by cases e
  | (j, p) :: l, M1, h, k, o, e => by
    simp only [gives] at h
    simp only [TL.get] at e
    split at e
    · rename_i hj
      have := Nat.eq_of_beq_eq_true hj
      subst this
      injection e with e
      subst e
      exact h.1
    · exact gives_at h.2 e
theorem mkL_gives (ht : RelTL F L M) {M1 : TL} : ∀ {l : TL}, gives M M1 l → L.gives (mkL L l)
  | [], h => trivial
  | (j, p) :: l, h => by
    simp only [gives] at h
    refine ⟨?_, mkL_gives ht h.2⟩
    rcases h.1 with ⟨q, e1, e2⟩ | ⟨e1, t, sz, rfl⟩
    · rcases relK_get (ht j) with ⟨c1, c2⟩ | ⟨o, p', c1, c2, hr⟩
      · rw [c1] at e1; cases e1
      · simp only [c2]; exact .inl trivial
    · have := tl_none ht e1
      simp only [this]
      exact .inr ⟨trivial, t, sz, rfl⟩
theorem hasKeys_rel {L' : Loc} {M1 : TL} (hl : ∀ k o, M1.get k ≠ none → L.get k = some o → L'.get k = some o) : ∀ (n : Nat) {c : C} {v : Value}, hasKeysA M1 n c = true → Rel F L c v → Rel F L' c v := by
  have leafc : ∀ {c : C} {v : Value}, c.leaf = true → hasKeys M1 c = true → Rel F L c v → Rel F L' c v := by
    intro c v hc hk h
    refine rel_leaf (Frz.le_refl F) (fun k e o ho => ⟨o, hl k o ?_ ho, Own.like_refl o⟩) hc h
    rcases e with ⟨off, rfl⟩ | rfl
    · simp only [hasKeys] at hk
      intro e
      rw [e] at hk
      cases hk
    · simp only [hasKeys] at hk
      intro e
      rw [e] at hk
      cases hk
  intro n
  induction n with
  | zero =>
    intro c v hk h
    cases hc : c.leaf
    · cases c <;> simp only [C.leaf, Bool.true_eq_false] at hc <;> simp only [hasKeysA, Bool.false_eq_true] at hk
    · refine leafc hc ?_ h
      cases c <;> simp only [C.leaf, Bool.false_eq_true] at hc <;> simpa only [hasKeysA] using hk
  | succ n ih =>
    intro c v hk h
    have all : ∀ {cs : List C} {vs : List Value}, cs.all (hasKeysA M1 n) = true → Rels F L cs vs → Rels F L' cs vs := by
      intro cs vs h1 h2
      have := h2.map (g := id) (F' := F) (L' := L') (fun c hc v hv => ih (List.all_eq_true.1 h1 c hc) hv)
      simpa using this
    cases hc : c.leaf
    · cases c <;> simp only [C.leaf, Bool.true_eq_false] at hc <;> simp only [hasKeysA, Bool.and_eq_true] at hk <;> simp only [Rel] at h ⊢
      · obtain ⟨fi', ca', h1, h2, h3⟩ := h
        exact ⟨fi', ca', h1, all hk.1 h2, all hk.2 h3⟩
      · obtain ⟨vs, h1, h2⟩ := h
        exact ⟨vs, h1, all hk h2⟩
      · obtain ⟨vs, h1, h2⟩ := h
        exact ⟨vs, h1, all hk h2⟩
    · refine leafc hc ?_ h
      cases c <;> simp only [C.leaf, Bool.false_eq_true] at hc <;> simpa only [hasKeysA] using hk
theorem leC_rel (ht : RelTL F L M) {M1 : TL} {c c' : C} {v : Value} (h : leC M M1 c c') (hr : Rel F L c v) : Rel F (mkL L M1) c' v := by
  rcases h with rfl | ⟨rfl, hk⟩ | ⟨rfl, rfl⟩ | ⟨rfl, k, t, sz, rfl, h1, h2⟩ | ⟨els, rfl, rfl⟩
  · simp only [Rel]
  · refine hasKeys_rel (fun k o h1 h2 => ?_) 3 hk hr
    rw [mkL_get]
    cases e : M1.get k with
    | none => exact absurd e h1
    | some q => simp only [h2]
  · exact can_rel (c := .nils) (by simpa only [Rel] using hr)
  · simp only [Rel] at hr ⊢
    subst hr
    refine ⟨none, 0, t, sz, 0, [], rfl, ?_⟩
    rw [mkL_get, h2]
    simp only [tl_none ht h1]
  · simpa only [Rel] using slx_sl hr
theorem leCs_rel (ht : RelTL F L M) {M1 : TL} : ∀ {cs cs' : List C} {vs : List Value}, leCs M M1 cs cs' → Rels F L cs vs → Rels F (mkL L M1) cs' vs
  | [], cs', vs, h, hr => by simp only [leCs] at h; subst h; simpa only [Rels] using hr
  | c :: cs, cs', vs, h, hr => by
    simp only [leCs] at h
    obtain ⟨c', cs2, rfl, h1, h2⟩ := h
    simp only [Rels] at hr ⊢
    obtain ⟨v, vs', rfl, hr1, hr2⟩ := hr
    exact ⟨v, vs', rfl, leC_rel ht h1 hr1, leCs_rel ht h2 hr2⟩
theorem leO_rel (ht : RelTL F L M) {M1 : TL} {o o' : TO} {p : Own} (h : leO M M1 o o') (hr : RelO F L o p) : RelO F (mkL L M1) o' p := by
  rcases h with ⟨rfl, hk⟩ | ⟨t, cs, cs', rfl, rfl, h⟩
  · cases o with
    | row t sz els => cases p with
      | row => exact hr
      | box => exact hr.elim
    | box t cs => cases p with
      | row => exact hr.elim
      | box g t' vs =>
        simp only [keysO] at hk
        refine ⟨hr.1, ?_⟩
        have := hr.2.map (g := id) (F' := F) (L' := mkL L M1) (fun c hc v hv => hasKeys_rel (fun k o h1 h2 => by
          rw [mkL_get]
          cases e : M1.get k with
          | none => exact absurd e h1
          | some q => simp only [h2]) 3 (List.all_eq_true.1 hk c hc) hv)
        simpa using this
  · cases p with
    | row => exact hr.elim
    | box g t' vs => exact ⟨hr.1, leCs_rel ht h hr.2⟩
theorem gives_tl (ht : RelTL F L M) {M1 : TL} (h : gives M M1 M1) : RelTL F (mkL L M1) M1 := by
  intro k
  rw [mkL_get]
  cases e : M1.get k with
  | none => trivial
  | some o =>
    rcases gives_at h e with ⟨q, e1, e2⟩ | ⟨e1, t, sz, rfl⟩
    · rcases relK_get (ht k) with ⟨c1, c2⟩ | ⟨q', p, c1, c2, hr⟩
      · rw [c1] at e1; cases e1
      · rw [c1] at e1
        injection e1 with e1
        subst e1
        simp only [c2]
        exact leO_rel ht e2 hr
    · simp only [tl_none ht e1]
      exact ⟨rfl, rfl, rfl, ⟨by simp, none, 0, rfl, fun _ => rfl⟩, by simp only [RelRow]⟩
theorem gives_St (hs : St F L w) (ht : RelTL F L M) {M1 : TL} (h : gives M M1 M1) : St F (mkL L M1) w ∧ Step F L w F (mkL L M1) w := ⟨hs.gives (mkL_gives ht h), gives_step (mkL_gives ht h)⟩
theorem keepsT_box : ∀ {l M1 : TL}, keepsT l M1 = true → ∀ {k t cs}, l.get k = some (.box t cs) → ∃ t' cs', M1.get k = some (.box t' cs')
  | [], M1, h, k, t, cs, e => by cases e
  | (j, .box t0 c0) :: l, M1, h, k, t, cs, e => by
    simp only [keepsT] at h
    split at h
    case h_2 => cases h
    rename_i t1 c1 h1
    simp only [TL.get] at e
    split at e
    · rename_i hj
      have := Nat.eq_of_beq_eq_true hj
      subst this
      exact ⟨_, _, h1⟩
    · exact keepsT_box h e
  | (j, .row ..) :: l, M1, h, k, t, cs, e => by
    simp only [keepsT] at h
    simp only [TL.get] at e
    split at e
    · cases e
    · exact keepsT_box h e
theorem covers_get : ∀ {l M1 : TL}, covers l M1 = true → ∀ {k o}, l.get k = some o → ∃ o', M1.get k = some o'
  | [], M1, h, k, o, e => by cases e
  | (j, p) :: l, M1, h, k, o, e => by
    simp only [covers] at h
    split at h
    case h_2 => cases h
    rename_i q h1
    simp only [TL.get] at e
    split at e
    · rename_i hj
      have := Nat.eq_of_beq_eq_true hj
      subst this
      exact ⟨_, h1⟩
    · exact covers_get h e
/-- the boxes stay -/
theorem mkL_box (ht : RelTL F L M) {M1 : TL} (hk : ∀ {k t cs}, M.get k = some (.box t cs) → M1.get k ≠ none) {k g t cs} (h : L.get k = some (.box g t cs)) : (mkL L M1).get k = some (.box g t cs) := by
  rcases relK_get (ht k) with ⟨c1, c2⟩ | ⟨q, p, c1, c2, hr⟩
  · rw [c2] at h; cases h
  · rw [c2] at h
    injection h with h
    subst h
    cases q with
    | row => exact hr.elim
    | box t' cs' =>
      have := hk c1
      rw [mkL_get]
      cases e : M1.get k with
      | none => exact absurd e this
      | some o => simp only [c2]
theorem env_keep {L' : Loc} (he : EnvOk L ρ a) (h : ∀ k g t cs, L.get k = some (.box g t cs) → ∃ cs', L'.get k = some (.box g t cs')) : EnvOk L' ρ a := by
  refine ⟨fun t => ?_, fun t k off e => ?_, he.el⟩
  · rw [he.eq t]
    cases e : ρ t with
    | v x => rfl
    | el a j => rfl
    | own k off =>
      obtain ⟨g, ty, cs, hg⟩ := he.own t k off e
      obtain ⟨cs', hg'⟩ := h _ _ _ _ hg
      simp only [conc, hg, hg']
  · obtain ⟨g, ty, cs, hg⟩ := he.own t k off e
    obtain ⟨cs', hg'⟩ := h _ _ _ _ hg
    exact ⟨g, ty, cs', hg'⟩
/-- nil cells turn into empty rows -/
theorem gives_sound (hs : St F L w) (he : EnvOk L ρ a) (ht : TS G F L ρ M τ) {M1 : TL} (h : gives M M1 M1) (hc : covers M M1 = true) :
    St F (mkL L M1) w ∧ EnvOk (mkL L M1) ρ a ∧ Step F L w F (mkL L M1) w ∧ TS G F (mkL L M1) ρ M1 τ ∧ Ext L (mkL L M1) := by
  obtain ⟨h1, h2⟩ := gives_St hs ht.tl h
  have hext : ∀ k o, L.get k = some o → (mkL L M1).get k = some o := by
    intro k o e
    rcases relK_get (ht.tl k) with ⟨c1, c2⟩ | ⟨q, p, c1, c2, hr⟩
    · rw [c2] at e; cases e
    · obtain ⟨o', e'⟩ := covers_get hc c1
      rw [mkL_get, e']
      simp only [e]
  refine ⟨h1, env_keep he fun k g t cs e => ⟨cs, hext _ _ e⟩, h2, ⟨gives_tl ht.tl h, fun j => (ht.env j).ext (Frz.le_refl F) fun k o e => ⟨o, hext k o e, Own.like_refl o⟩, fun k g t e => ?_⟩, fun k o e => ⟨o, hext k o e, Own.like_refl o⟩⟩
  obtain ⟨cs, h⟩ := ht.kp k g t e
  exact ⟨cs, hext _ _ h⟩

/- calls within a region that draws its order -/
theorem tokD {F : Frz} {args : List C} {vs : List Value} (ha : Rels F L args vs) : Rels F (inp []) (args.map fun c => c.canA.ren (toIn [] 1000)) vs :=
  ha.map fun c _ v hc => (canA_rel hc).ren (fun j m e => by cases e)
theorem tl_nil : RelTL F (inp []) (tinp []) := fun k => by rw [tinp_get, inp_get]; split <;> simp [RelK]
theorem sim_callD {f : Nat} {args : List C} {vs : List Value} {d : Option Nat} {K : TL → C → Prop} (ht : TS G F L ρ M τ) (ha : Rels F L args vs) (h : CallDT P f args M d K) :
    CallDPt P f vs F L d (fun F' L' v => ∃ M' c, TS G F' L' ρ M' τ ∧ RelV F' L' c (.v v) ∧ K M' c) := by
  cases h with
  | frz R h k =>
    refine .frz (ResA [] R) (h.out F [] vs rfl tl_nil (tokD ha)) ?_
    rintro v F' Lo hF ⟨Mo, c, q1, q2, q3, q4, q5⟩
    obtain ⟨rfl, k2⟩ := k c Mo q5 q3.wf
    have : Lo = [] := List.length_eq_zero_iff.1 (by rw [← q1]; rfl)
    subst this
    exact ⟨rfl, fun _ => ⟨M, _, ht.mono hF, slt_rel (q3.ext (Frz.le_refl F') (fun k o e => by rw [inp_get] at e; split at e <;> simp at e)), k2⟩⟩
  | own R k h hd hk kk =>
    refine .own (ResA [] R) k (h.out F [] vs rfl tl_nil (tokD ha)) hd (tl_none ht.tl hk) ?_
    rintro v F' Lo hF ⟨Mo, c, q1, q2, q3, q4, q5⟩
    have hwo : ∀ o ∈ Mo, o.Wf := by
      intro o ho
      obtain ⟨i, hi⟩ := List.mem_iff_getElem?.1 ho
      have hlt : i < Lo.length := by rw [← q1]; exact (List.getElem?_eq_some_iff.1 hi).1
      have := q2 (1000 + i)
      rw [tinp_get, inp_get, if_pos (by omega), if_pos (by omega), show 1000 + i - 1000 = i by omega, hi, List.getElem?_eq_getElem hlt] at this
      exact RelO.wf this
    obtain ⟨o, rfl, k2⟩ := kk c Mo q5 q3.wf hwo
    match Lo, q1 with
    | [p], _ =>
      have hback : ∀ j m, fromIn [k] j = some m → ∀ o, (inp [p]).get j = some o → (L.set k p).get m = some o := by
        intro j m hj o ho
        obtain ⟨a1, a2⟩ := fromIn_eq hj
        rw [inp_get, if_pos a1] at ho
        have : j - 1000 = 0 := by have := (List.getElem?_eq_some_iff.1 a2).1; simp at this; omega
        rw [this] at ho a2
        simp at ho a2
        subst ho a2
        rw [Loc.get_set, if_pos rfl]
      have hro := q2 1000
      rw [tinp_get, inp_get, if_pos (by omega), if_pos (by omega)] at hro
      refine ⟨p, rfl, fun _ => ⟨_, _, ht.new hF (tl_none ht.tl hk) (RelO.ren hback hro), slt_rel (q3.ren hback), k2⟩⟩

def callOp : SOp → Bool
  | .call _ _ => true
  | .callV _ _ => true
  | _ => false
theorem TS.kput {F : Frz} {L : Loc} {ρ : Env} {M : TL} {τ : TEnv} {K : TK} {d : Option Nat} (ht : TS G F L ρ M τ) {c : C} {sv : SV} (hc : RelV F L c sv) (h : K M (tput d c τ)) : Both G K F L (Fr.put d sv ρ) := ⟨_, _, ht.put hc d, h⟩

theorem conc_vals (h : ∀ j, RelV F L (τ j) (ρ j)) {fi ca : List C} {fi' ca' : List Value} (h1 : Rels F L fi fi') (h2 : Rels F L ca ca') (args : List X) : Rels F L (fi ++ evalsT τ args ++ ca) (fi'.toArray.toList ++ evals L ρ args ++ ca'.toArray.toList) := by
  simpa using (h1.append (evals_rel h args)).append h2
theorem CallPt.imp {f : Nat} {args : List Value} {F : Frz} {L : Loc} {K K' : Frz → Loc → Value → Prop} (h : CallPt P f args F L K) (hk : ∀ F' L' v, K F' L' v → K' F' L' v) : CallPt P f args F L K' := by
  obtain ⟨ks, ko, Lin, R, h1, h2, h3, h4, h5, h6⟩ := h
  exact ⟨ks, ko, Lin, R, h1, h2, h3, h4, h5, fun v F' Lo hF hR => let ⟨a, b, c⟩ := h6 v F' Lo hF hR; ⟨a, b, hk _ _ _ c⟩⟩
theorem CallDPt.imp' {f : Nat} {args : List Value} {F : Frz} {L : Loc} {d : Option Nat} {K K' : Frz → Loc → Value → Prop} (h : CallDPt P f args F L d K) (hk : ∀ F' L' v, K F' L' v → K' F' L' v) : CallDPt P f args F L d K' := by
  cases h with
  | frz R h k => exact .frz R h fun v F' Lo hF hR => let ⟨a, b⟩ := k v F' Lo hF hR; ⟨a, fun hr => hk _ _ _ (b hr)⟩
  | own R k h hd hk' kk => exact .own R k h hd hk' fun v F' Lo hF hR => let ⟨o, a, b⟩ := kk v F' Lo hF hR; ⟨o, a, fun hr => hk _ _ _ (b hr)⟩
theorem binI_imp {op : BinOp} {k : IntKind} {a b : Int} {K K' : Value → Prop} (h : binI op k a b K) (hk : ∀ v, K v → K' v) : binI op k a b K' := by
  cases op <;> simp only [binI] at h ⊢ <;> first
    | exact h.elim
    | exact ⟨hk _ h.out⟩
    | exact ⟨h.ne, ⟨hk _ h.out.out⟩⟩
    | exact ⟨h.ne, hk _ h.out⟩
    | exact hk _ h
theorem shI_imp {op : BinOp} {k : IntKind} {a b : Int} {K K' : Value → Prop} (h : shI op k a b K) (hk : ∀ v, K v → K' v) : shI op k a b K' := by
  cases op <;> simp only [shI] at h ⊢ <;> first
    | exact h.elim
    | exact ⟨h.1, ⟨hk _ h.2.out⟩⟩
    | exact ⟨h.1, hk _ h.2⟩
theorem binS_imp {op : BinOp} {a b : ByteArray} {K K' : Value → Prop} (h : binS op a b K) (hk : ∀ v, K v → K' v) : binS op a b K' := by
  cases op <;> simp only [binS] at h ⊢ <;> first
    | exact h.elim
    | exact hk _ h
    | exact ⟨h.1, hk _ h.2⟩
theorem outV_imp {o : SOp} {V V' : SV → Prop} {F : Frz} {L : Loc} {ρ : Env} (h : outV o F L ρ V) (hk : ∀ v, V v → V' v) : outV o F L ρ V' := by
  have load : ∀ {a : Option Addr} {j n : Nat} {g : List Value → SV}, LoadPt F L a j n (fun cs => V (g cs)) → LoadPt F L a j n (fun cs => V' (g cs)) := fun h => ⟨let ⟨cs, h1, h2, h3⟩ := h.out; ⟨cs, h1, h2, hk _ h3⟩⟩
  have loadD : ∀ {a : Option Addr} {j n : Nat} {g : List Value → SV}, LoadDPt F a j n (fun cs => V (g cs)) → LoadDPt F a j n (fun cs => V' (g cs)) := fun h => ⟨let ⟨cs, h1, h2, h3⟩ := h.out; ⟨cs, h1, h2, hk _ h3⟩⟩
  cases o <;> simp only [outV] at h ⊢ <;> first
    | exact h.elim
    | exact hk _ h
    | skip
  case pick c a b =>
    generalize ev ρ c = z at h ⊢
    split at h <;> first | exact h.elim | exact hk _ h
  case build zs ps =>
    generalize built L ρ zs ps = z at h ⊢
    split at h <;> first | exact h.elim | exact hk _ h
  case load agg n x =>
    generalize ev ρ x = z at h ⊢
    split at h
    · rename_i k off
      generalize L.get k = y at h ⊢
      split at h
      · rename_i cs
        generalize len? ((cs.drop off).take n) n = b at h ⊢
        cases b
        · exact h.elim
        · exact hk _ h
      · exact h.elim
    · exact load h
    · exact load h
    · exact h.elim
  case loadD agg n x =>
    generalize ev ρ x = z at h ⊢
    split at h
    · rename_i k off
      generalize L.get k = y at h ⊢
      split at h
      · rename_i cs
        generalize len? ((cs.drop off).take n) n = b at h ⊢
        cases b
        · exact h.elim
        · exact hk _ h
      · exact h.elim
    · exact loadD h
    · exact loadD h
    · exact h.elim
  case loadK key agg n x =>
    generalize ev ρ x = z at h ⊢
    split at h
    · rename_i k off
      generalize Nat.beq k key = q at h ⊢
      cases q
      · exact h.elim
      · simp only [] at h ⊢
        generalize L.get k = y at h ⊢
        split at h
        · rename_i cs
          generalize len? ((cs.drop off).take n) n = b at h ⊢
          cases b
          · exact h.elim
          · exact hk _ h
        · exact h.elim
    · exact h.elim
  case b2sD x =>
    generalize ev ρ x = z at h ⊢
    split at h
    · exact ⟨let ⟨cs, h1, h2, ⟨bs, h3, h4⟩⟩ := h.out; ⟨cs, h1, h2, ⟨bs, h3, hk _ h4⟩⟩⟩
    · exact h.elim
  case mkif t x =>
    generalize ev ρ x = z at h ⊢
    split at h <;> first | exact h.elim | exact hk _ h
  case nilck x =>
    generalize ev ρ x = z at h ⊢
    split at h <;> first | exact h.elim | exact hk _ h | exact ⟨h.1, hk _ h.2⟩
  case bin op x y =>
    generalize ev ρ x = z at h ⊢
    generalize ev ρ y = z' at h ⊢
    split at h
    · rename_i k a k' b
      generalize isSh op = q at h ⊢
      cases q
      · generalize kindEq k k' = r at h ⊢
        cases r
        · exact h.elim
        · exact binI_imp h fun v => hk _
      · exact shI_imp h fun v => hk _
    · exact binS_imp h fun v => hk _
    · exact h.elim
  case eqB neg x y =>
    generalize ev ρ x = z at h ⊢
    generalize ev ρ y = z' at h ⊢
    split at h <;> first | exact h.elim | exact hk _ h
  case eqP neg x y =>
    generalize ev ρ x = z at h ⊢
    generalize ev ρ y = z' at h ⊢
    split at h <;> first | exact h.elim | exact hk _ h
  case eqS neg x y =>
    generalize ev ρ x = z at h ⊢
    generalize ev ρ y = z' at h ⊢
    split at h <;> first | exact h.elim | exact hk _ h
  case eqF neg x y =>
    generalize ev ρ x = z at h ⊢
    generalize ev ρ y = z' at h ⊢
    split at h <;> first | exact h.elim | exact hk _ h
  case un op x =>
    generalize ev ρ x = z at h ⊢
    split at h <;> first | exact h.elim | exact hk _ h | exact ⟨hk _ h.out⟩
  case conv k x =>
    generalize ev ρ x = z at h ⊢
    split at h <;> first | exact h.elim | exact ⟨hk _ h.out⟩
  case b2s x =>
    generalize ev ρ x = z at h ⊢
    split at h
    · exact ⟨let ⟨cs, h1, h2, ⟨bs, h3, h4⟩⟩ := h.out; ⟨cs, h1, h2, ⟨bs, h3, hk _ h4⟩⟩⟩
    · exact h.elim
  case slc sz x lo hi =>
    generalize ev ρ x = z at h ⊢
    split at h
    · rename_i a n c
      generalize optI ρ 0 lo = y at h ⊢
      generalize optI ρ n hi = y' at h ⊢
      split at h
      · exact ⟨h.lo, h.le, h.hi, hk _ h.out⟩
      · exact h.elim
    · exact h.elim
  case slcS x lo hi =>
    generalize ev ρ x = z at h ⊢
    split at h
    · rename_i s
      generalize optI ρ 0 lo = y at h ⊢
      generalize optI ρ s.size hi = y' at h ⊢
      split at h
      · exact ⟨h.lo, h.le, h.hi, hk _ h.out⟩
      · exact h.elim
    · exact h.elim
  case fieldA off x =>
    generalize ev ρ x = z at h ⊢
    split at h <;> first | exact h.elim | exact hk _ h
  case fieldV agg off n x =>
    generalize ev ρ x = z at h ⊢
    split at h
    · rename_i cs
      generalize len? ((cs.toList.drop off).take n) n = b at h ⊢
      cases b
      · exact h.elim
      · exact hk _ h
    · exact h.elim
  case idxA sz x i =>
    generalize ev ρ x = z at h ⊢
    generalize ev ρ i = z' at h ⊢
    split at h
    · exact ⟨h.ne, h.lo, h.hi, hk _ h.out⟩
    · exact h.elim
  case idxS x i =>
    generalize ev ρ x = z at h ⊢
    generalize ev ρ i = z' at h ⊢
    split at h
    · exact ⟨h.lo, h.hi, hk _ h.out⟩
    · exact h.elim
  case extr x i =>
    generalize ev ρ x = z at h ⊢
    split at h
    · rename_i vs
      generalize vs.toList[i]? = y at h ⊢
      cases y
      · exact h.elim
      · exact hk _ h
    · exact h.elim
  case len x =>
    generalize ev ρ x = z at h ⊢
    split at h <;> first | exact h.elim | exact hk _ h
  case lenS x =>
    generalize ev ρ x = z at h ⊢
    split at h <;> first | exact h.elim | exact hk _ h
  case capa x =>
    generalize ev ρ x = z at h ⊢
    split at h <;> first | exact h.elim | exact hk _ h
  case mm mx args =>
    generalize args.map (ev ρ) = z at h ⊢
    split at h
    · rename_i k a l
      generalize mmI mx a l = y at h ⊢
      cases y
      · exact h.elim
      · exact hk _ h
    · exact h.elim
theorem simOut {o : SOp} {d : Option Nat} {K : TK} {F : Frz} {L : Loc} {ρ : Env} {M : TL} {τ : TEnv} (ht : TS G F L ρ M τ) (h : outT o M τ fun v => K M (tput d v τ)) : outV o F L ρ (fun v => Both G K F L (Fr.put d v ρ)) :=
  outV_imp (simV ht h) fun sv ⟨c, hc, hK⟩ => ht.kput hc hK

set_option maxHeartbeats 1000000 in
/-- all operations but calls that are handed something -/
theorem simOp {o : SOp} {d : Option Nat} {K : TK} {F : Frz} {L : Loc} {ρ : Env} {M : TL} {τ : TEnv} (ho : callOp o = false) (ht : TS G F L ρ M τ) (h : evalTOp P o d M τ K) : evalOp P o d F L ρ (Both G K) := by
  have he := ht.env
  cases o
  case call => cases ho
  case callV => cases ho
  case box t x =>
    simp only [evalTOp, fT_eq, fl_eq, fca_eq] at h
    simp only [evalOp]
    split at h
    case h_2 => exact h.elim
    rename_i k
    split at h
    case h_2 => exact h.elim
    rename_i hk hc
    simp only [tl_none ht.tl hk]
    exact fun g => sim_box ht hk hc h g
  case boxD t x =>
    simp only [evalTOp, fT_eq, fl_eq, fca_eq] at h
    simp only [evalOp]
    split at h
    case h_2 => exact h.elim
    rename_i k
    split at h
    case h_2 => exact h.elim
    rename_i hk hc
    simp only [tl_none ht.tl hk]
    exact fun g _ => sim_box ht hk hc h g
  case boxF t x =>
    simp only [evalTOp, fT_eq, fl_eq, fca_eq] at h
    simp only [evalOp]
    split at h
    case h_2 => exact h.elim
    rename_i h1 h2 h3
    intro g F' hF hg
    exact (ht.mono hF).kput (frz_pt hg (ones_can h2) (cans_rel ((pures_rel h3 (vals_cells he h1)).mono hF))) h
  case alloc t zs =>
    simp only [evalTOp, fT_eq, fl_eq, fca_eq] at h
    simp only [evalOp]
    split at h
    case h_2 => exact h.elim
    rename_i k
    split at h
    case h_2 => exact h.elim
    rename_i hk
    simp only [tl_none ht.tl hk]
    exact fun g => sim_alloc ht hk h g
  case allocD t zs =>
    simp only [evalTOp, fT_eq, fl_eq, fca_eq] at h
    simp only [evalOp]
    split at h
    case h_2 => exact h.elim
    rename_i k
    split at h
    case h_2 => exact h.elim
    rename_i hk
    simp only [tl_none ht.tl hk]
    exact fun g _ => sim_alloc ht hk h g
  case mkF e n sz xs =>
    simp only [evalTOp, fT_eq, fl_eq, fca_eq] at h
    simp only [evalOp]
    split at h
    case h_2 => exact h.elim
    rename_i h1 h2 h3
    rw [(parts_sound he h1).1]
    exact fun g F' hF hg => sim_mkF ht h1 (Nat.eq_of_beq_eq_true h2) (Nat.le_of_ble_eq_true h3) h hF hg
  case mkFD e n sz xs =>
    simp only [evalTOp, fT_eq, fl_eq, fca_eq] at h
    simp only [evalOp]
    split at h
    case h_2 => exact h.elim
    rename_i h1 h2 h3
    rw [(parts_sound he h1).1]
    exact fun g F' hF hg _ => sim_mkF ht h1 (Nat.eq_of_beq_eq_true h2) (Nat.le_of_ble_eq_true h3) h hF hg
  case mkR e n sz xs =>
    simp only [evalTOp, fT_eq, fl_eq, fca_eq] at h
    simp only [evalOp]
    split at h
    case h_2 => exact h.elim
    rename_i k h1 h2 h3
    split at h
    case h_2 => exact h.elim
    rename_i hk
    rw [(parts_sound he h1).1]
    simp only [tl_none ht.tl hk]
    exact fun g => sim_mkR ht h1 (Nat.eq_of_beq_eq_true h2) (Nat.le_of_ble_eq_true h3) hk h g
  case s2b e x =>
    simp only [evalTOp, fT_eq, fl_eq, fca_eq] at h
    simp only [evalOp]
    split at h
    case h_2 => exact h.elim
    rename_i s hx
    obtain ⟨e1, e2⟩ := inv_str he hx
    rw [e1]
    intro g c F' hF hf hc
    have hl : (bcells s.data.toList).length = s.size := by simp [bcells]
    have := relV_sl (F := F') (L := L) (els := bcells s.data.toList) (a := some ⟨g, 0, none⟩) (c := c) (sz := 1) (by rw [hl]; exact hc) (by rw [hl]; exact e2) (fun e => by cases e) (RelS_bytes hf)
    rw [hl] at this
    exact (ht.mono hF).kput this h
  case makeS => exact sim_makeS ht h
  case store n y x => exact sim_store ht h
  case storeD n y x => exact sim_storeD ht h
  case storeK key n y x =>
    simp only [evalTOp] at h
    split at h
    case h_2 => exact h.elim
    rename_i k off hy
    split at h
    case h_2 => exact h.elim
    rename_i hb
    obtain ⟨n', a', x', k', off', g, t, cs, ho, e1, e2, e3, e4, e5, hK⟩ := evalOp_st (P := P) rfl (sim_storeD ht h)
    rcases ho with ho | ho
    · injection ho with q1 q2 q3
      subst q1 q2 q3
      rw [(inv_own he hy).1] at e3
      injection e3 with q1 q2
      subst q1 q2
      have hb := Nat.eq_of_beq_eq_true hb
      subst hb
      exact evalOp_st' (.inr rfl) e1 e2 (inv_own he hy).1 e4 e5 hK
    · cases ho
  case makeSD e sz n zs =>
    simp only [evalTOp] at h
    split at h
    case h_2 => exact h.elim
    rename_i k
    split at h
    case h_2 => exact h.elim
    rename_i hk h1 h2 h3
    have hk' := tl_none ht.tl hk
    have hlz : zs.length = sz := by have := lenC_eq h1; simpa using this
    simp only [evalOp, hk', len_of hlz, h3]
    intro g _
    have hz : Rels F [] ((zs.map cv0).map C.can) zs := cans_rel (cv0s_rel zs)
    have hrow : ∀ i : Nat, RelRow F sz (List.replicate i ((zs.map cv0).map C.can)) (List.replicate i zs).flatten := by
      intro i
      induction i with
      | zero => simp only [List.replicate_zero, List.flatten_nil, RelRow]
      | succ i ih =>
        simp only [List.replicate_succ, List.flatten_cons, RelRow]
        exact ⟨zs, _, rfl, hlz, ones_can h2, hz, ih⟩
    have h3 := ht.new (Frz.le_refl F) hk' (o := .row (.slice (some ⟨g, 0, none⟩) n n) e sz n (List.replicate n zs).flatten) (to := .row e sz (List.replicate n ((zs.map cv0).map C.can)))
      ⟨rfl, rfl, by simp, ⟨Nat.le_of_ble_eq_true h3, _, _, rfl, fun e => (by cases e)⟩, hrow _⟩
    exact ⟨_, _, h3.put (c := .rw k) (relV_rw (by rw [Loc.get_set, if_pos rfl])) (some k), h⟩
  case callD f args =>
    simp only [evalTOp, fT_eq, fl_eq, fca_eq] at h
    simp only [evalOp]
    refine CallDPt.imp' (sim_callD ht (evals_rel he args) h) ?_
    rintro F' L' v ⟨M', c, h1, h2, h3⟩
    exact h1.kput h2 h3
  case callVD f args =>
    simp only [evalTOp, fT_eq, fl_eq, fca_eq] at h
    simp only [evalOp]
    split at h
    case h_2 => exact h.elim
    rename_i f' fi ca hx
    obtain ⟨fi', ca', e1, h1, h2⟩ := inv_fn he hx
    rw [e1]
    refine CallDPt.imp' (sim_callD ht (conc_vals he h1 h2 args) h) ?_
    rintro F' L' v ⟨M', c, h1, h2, h3⟩
    exact h1.kput h2 h3
  case callO f args =>
    simp only [evalTOp, fT_eq, fl_eq, fca_eq] at h
    simp only [evalOp]
    obtain ⟨ks, ko, Lin, R, h1, h2, h3, h4, h5, h6, h7⟩ := h
    refine CallPt.imp (sim_call0 (K := fun M' τ' v => K M' (tput d v τ')) ht (evals_rel he args) h1 h2 h3 h4 h5 h6 h7) ?_
    rintro F' L' v ⟨M', τ', c, h1, h2, h3⟩ _
    exact h1.kput h2 h3
  case callVO f args =>
    simp only [evalTOp, fT_eq, fl_eq, fca_eq] at h
    simp only [evalOp]
    split at h
    case h_2 => exact h.elim
    rename_i f' fi ca hx
    obtain ⟨fi', ca', e1, g1, g2⟩ := inv_fn he hx
    rw [e1]
    obtain ⟨ks, ko, Lin, R, h1, h2, h3, h4, h5, h6, h7⟩ := h
    refine CallPt.imp (sim_call0 (K := fun M' τ' v => K M' (tput d v τ')) ht (conc_vals he g1 g2 args) h1 h2 h3 h4 h5 h6 h7) ?_
    rintro F' L' v ⟨M', τ', c, h1, h2, h3⟩ _
    exact h1.kput h2 h3
  case app => exact sim_app ht h
  case appX => exact sim_appX ht h
  case appD => exact sim_appD ht h
  case appS => exact sim_appS ht h
  case copy => exact h.elim
  case copyX => exact h.elim
  case storeX => exact h.elim
  all_goals
    simp only [evalTOp, fT_eq, fl_eq, fca_eq] at h
    simp only [evalOp]
    exact simOut (d := d) (K := K) ht h
end
end Go.Fr.T

/- The evaluator over data speaks of the model's code. -/
set_option linter.unusedVariables false
set_option linter.unusedSimpArgs false
namespace Go.Fr.T
open Go Go.RowKit Go.Fr

section
variable {P : Program} {PS : Value → Prop} {G : Nat → Option (Nat × TypeId)} {F : Frz} {L : Loc} {ρ : Env} {M : TL} {τ : TEnv} {a : Act} {w : World} {Q : Exit → Act → World → Prop} {o : Oper}

theorem evals_env {L2 : Loc} (he : EnvOk L ρ a) (he2 : EnvOk L2 ρ a) : ∀ xs : List X, evals L2 ρ xs = evals L ρ xs
  | [] => rfl
  | x :: xs => by
    have : val L2 ρ x = val L ρ x := by
      cases x with
      | t n => exact (he2.eq n).symm.trans (he.eq n)
      | c v => rfl
      | fn f => rfl
    simp only [evals, this, evals_env he he2 xs]
theorem callT_sound {f : Nat} {args : List C} {vs : List Value} {K : TL → TEnv → C → Prop} (hs : St F L w) (he : EnvOk L ρ a) (ht : TS G F L ρ M τ) (ha : Rels F L args vs) (h : CallT P f args M τ K) :
    ∃ F' L', St F' L' w ∧ EnvOk L' ρ a ∧ Step F L w F' L' w ∧ CallPt P f vs F' L' (fun F' L' v => ∃ M' τ' c, TS G F' L' ρ M' τ' ∧ RelV F' L' c (.v v) ∧ K M' τ' c) := by
  obtain ⟨fz, ks, ko, h⟩ := h
  obtain ⟨F1, L1, M1, τ1, args1, g1, g2, g3, g4, g5, M2, Lin, R, k1, k3, k4, k5, k6, k7, k8, k9⟩ := frzK_sound hs he ht ha h
  rcases k1 with rfl | ⟨k1, k2⟩
  · exact ⟨F1, _, g1, g2, g3, sim_call0 g4 g5 k3 k4 k5 k6 k7 k8 k9⟩
  · obtain ⟨e1, e2, e3, e4, e5⟩ := gives_sound g1 g2 g4 k1 k2
    exact ⟨F1, _, e1, e2, g3.trans e3, sim_call0 e4 (g5.ext (Frz.le_refl F1) e5) k3 k4 k5 k6 k7 k8 k9⟩
theorem callXT_sound {f : Nat} {args : List C} {vs : List Value} {K : TL → TEnv → C → Prop} (hs : St F L w) (he : EnvOk L ρ a) (ht : TS G F L ρ M τ) (ha : Rels F L args vs) (h : CallXT P PS f args M τ K) :
    ∃ F' L', St F' L' w ∧ EnvOk L' ρ a ∧ Step F L w F' L' w ∧ CallXPt P (fun L' v => Kp G L' ∧ PS v) f vs F' L' (fun F' L' v => ∃ M' τ' c, TS G F' L' ρ M' τ' ∧ RelV F' L' c (.v v) ∧ K M' τ' c) := by
  obtain ⟨fz, ks, ko, h⟩ := h
  obtain ⟨F1, L1, M1, τ1, args1, g1, g2, g3, g4, g5, M2, Lin, R, Pp, k1, k3, k4, k5, k6, k7, k8, k8', k9⟩ := frzK_sound hs he ht ha h
  rcases k1 with rfl | ⟨k1, k2⟩
  · exact ⟨F1, _, g1, g2, g3, sim_callX g4 g5 k3 k4 k5 k6 k7 k8 k8' k9⟩
  · obtain ⟨e1, e2, e3, e4, e5⟩ := gives_sound g1 g2 g4 k1 k2
    exact ⟨F1, _, e1, e2, g3.trans e3, sim_callX e4 (g5.ext (Frz.le_refl F1) e5) k3 k4 k5 k6 k7 k8 k8' k9⟩
theorem cvalL_rel : ∀ {cs : List C} {vs us : List Value}, cvalL cs = some us → Rels F L cs vs → vs = us
  | [], vs, us, h, r => by simp only [cvalL, Option.some.injEq] at h; simp only [Rels] at r; rw [r, ← h]
  | c :: cs, vs, us, h, r => by
    simp only [Rels] at r
    obtain ⟨v, vs', rfl, r1, r2⟩ := r
    cases c <;> simp only [cvalL, reduceCtorEq] at h
    all_goals
      split at h
      case h_2 => cases h
      rename_i us' hu
      injection h with h
      subst h
      rw [cvalL_rel hu r2]
      simp only [Rel] at r1
      first
        | rw [r1.1]
        | rw [r1]
theorem ifcV_rel {c : C} {u v : Value} (h : ifcV c = some u) (r : Rel F L c v) : v = u ∧ ∃ t x, u = .iface t x := by
  cases c <;> simp only [ifcV, reduceCtorEq] at h
  case ifc t c =>
    simp only [Rel] at r
    obtain ⟨x, rfl, r⟩ := r
    cases c <;> simp only [ifcV, reduceCtorEq] at h
    case agg cs =>
      split at h
      case h_2 => cases h
      rename_i us hu
      injection h with h
      subst h
      simp only [Rel] at r
      obtain ⟨vs, rfl, r⟩ := r
      rw [cvalL_rel hu r]
      exact ⟨rfl, _, _, rfl⟩
    all_goals
      injection h with h
      subst h
      simp only [Rel] at r
      first
        | (obtain ⟨rfl, _⟩ := r; exact ⟨rfl, _, _, rfl⟩)
        | (subst r; exact ⟨rfl, _, _, rfl⟩)
theorem Next1.from {F1 : Frz} {L1 : Loc} {K : Kont} {a' : Act} {w' : World} (hst : Step F L w F1 L1 w) (h : Next1 F1 L1 w a K a' w') : Next1 F L w a K a' w' := by
  obtain ⟨F', L', ρ', h1, h2, h3, h4, h5, h6⟩ := h
  exact ⟨F', L', ρ', h1, h2, h3, h4, hst.trans h5, h6⟩
theorem opT_sound {own : Bool} {s : SOp} {K : TK} (hs : St F L w) (he : EnvOk L ρ a) (ht : TS G F L ρ M τ) (hd : ∀ k, o.dst = some k → k < a.tmps.size) (hl : lowOp P own o.op = some s)
    (hK : evalTOp P s o.dst M τ K) : o.wp P a w (Next1 F L w a (Both G K)) Q := by
  by_cases hc : callOp s = true
  · cases s <;> simp only [callOp, Bool.false_eq_true] at hc
    · rename_i f args
      simp only [evalTOp, fT_eq, fl_eq, fca_eq] at hK
      obtain ⟨F1, L1, g1, g2, g3, g4⟩ := callT_sound hs he ht (evals_rel ht.env args) hK
      refine Oper.wp_mono (fun a' w' => Next1.from g3) (evalOp_sound g1 g2 hd hl ?_)
      simp only [evalOp]
      rw [evals_env he g2]
      exact CallPt.imp g4 fun F' L' v ⟨M', τ', c, h1, h2, h3⟩ => h1.kput h2 h3
    · rename_i fx args
      simp only [evalTOp, fT_eq, fl_eq, fca_eq] at hK
      split at hK
      case h_2 => exact hK.elim
      rename_i f fi ca hx
      obtain ⟨fi', ca', e1, h1, h2⟩ := inv_fn ht.env hx
      obtain ⟨F1, L1, g1, g2, g3, g4⟩ := callT_sound hs he ht (conc_vals ht.env h1 h2 args) hK
      refine Oper.wp_mono (fun a' w' => Next1.from g3) (evalOp_sound g1 g2 hd hl ?_)
      simp only [evalOp, e1]
      rw [evals_env he g2]
      exact CallPt.imp g4 fun F' L' v ⟨M', τ', c, h1, h2, h3⟩ => h1.kput h2 h3
  · exact evalOp_sound hs he hd hl (simOp (by simpa using hc) ht hK)
theorem opP_sound {own : Bool} {s : SOp} {K : TK} (hs : St F L w) (he : EnvOk L ρ a) (ht : TS G F L ρ M τ) (hd : ∀ k, o.dst = some k → k < a.tmps.size) (hl : lowOp P own o.op = some s)
    (hK : evalTP P PS s o.dst M τ K) (hQ : ∀ v w' F' L', St F' L' w' → Step F L w F' L' w' → Kp G L' ∧ PS v → Q (.panic [{ v, recovered := false }]) a w') : o.wp P a w (Next1 F L w a (Both G K)) Q := by
  cases s <;> simp only [evalTP] at hK <;> try (exact hK.elim)
  · rename_i f args
    simp only [fT_eq, fl_eq, fca_eq] at hK
    obtain ⟨F1, L1, g1, g2, g3, g4⟩ := callXT_sound hs he ht (evals_rel ht.env args) hK
    refine Oper.wp_mono (fun a' w' => Next1.from g3) (pcall_sound (PX := fun L' v => Kp G L' ∧ PS v) g1 g2 hd hl ?_ fun v w' F' L' q1 q2 q3 => hQ v w' F' L' q1 (g3.trans q2) q3)
    rw [evals_env he g2]
    exact CallXPt.imp g4 fun F' L' v ⟨M', τ', c, h1, h2, h3⟩ => h1.kput h2 h3
  · rename_i fx args
    split at hK
    case h_2 => exact hK.elim
    rename_i f fi ca hx
    simp only [fT_eq, fl_eq, fca_eq] at hK
    obtain ⟨fi', ca', e1, h1, h2⟩ := inv_fn ht.env hx
    obtain ⟨F1, L1, g1, g2, g3, g4⟩ := callXT_sound hs he ht (conc_vals ht.env h1 h2 args) hK
    refine Oper.wp_mono (fun a' w' => Next1.from g3) (pcallV_sound (PX := fun L' v => Kp G L' ∧ PS v) g1 g2 hd hl e1 ?_ fun v w' F' L' q1 q2 q3 => hQ v w' F' L' q1 (g3.trans q2) q3)
    rw [evals_env he g2]
    exact CallXPt.imp g4 fun F' L' v ⟨M', τ', c, h1, h2, h3⟩ => h1.kput h2 h3
  · rename_i x
    obtain ⟨u, h1, h2⟩ := hK
    have hr := cel_rel' (ev_rel ht.env x)
    have hc : (evT τ x).cel = evT τ x := by
      cases e : evT τ x <;> rw [e] at h1 <;> first | rfl | (simp only [ifcV, reduceCtorEq] at h1; done)
    rw [hc] at hr
    obtain ⟨e1, t, y, e2⟩ := ifcV_rel h1 hr
    refine pan_sound (PX := fun L' v => Kp G L' ∧ PS v) hs he hl (t := t) (u := y) (e1.trans e2) ⟨ht.kp, by rw [← e2]; exact h2⟩ hQ
theorem norm_sound (he : EnvOk L ρ a) (ht : TS G F L ρ M τ) (d : Option Nat) : ∃ ρ', EnvOk L ρ' a ∧ TS G F L ρ' M (normD d τ) := by
  cases d with
  | none => exact ⟨ρ, he, ht⟩
  | some k =>
    have hn : ∀ j, normD (some k) τ j = if j = k then (τ k).toOwn else τ j := by
      intro j
      simp only [normD]
      cases h : Nat.beq j k with
      | true => have := Nat.eq_of_beq_eq_true h; simp [this]
      | false => have := beq_f h; simp [this]
    by_cases hv : ∃ k' off, τ k = .ownv k' off
    · obtain ⟨k', off, hv⟩ := hv
      have hr := ht.env k
      rw [hv] at hr
      simp only [RelV, Rel] at hr
      obtain ⟨v, e1, g, t, cs, e2, rfl⟩ := hr
      refine ⟨Fr.put (some k) (.own k' off) ρ, ⟨fun t' => ?_, fun t' j o e => ?_, fun t' ad j e => ?_⟩, ht.tl, fun j => ?_, ht.kp⟩
      · rw [he.eq t', put_eq]
        simp only []
        split
        · rename_i h; subst h; rw [e1]; simp only [conc, e2]
        · rfl
      · rw [put_eq] at e
        simp only [] at e
        split at e
        · injection e with q1 q2; subst q1; exact ⟨g, t, cs, e2⟩
        · exact he.own _ _ _ e
      · rw [put_eq] at e
        simp only [] at e
        split at e
        · cases e
        · exact he.el _ _ _ e
      · rw [hn, put_eq]
        simp only []
        split
        · rw [hv]; exact ⟨rfl, g, t, cs, e2⟩
        · exact ht.env j
    · refine ⟨ρ, he, ht.tl, fun j => ?_, ht.kp⟩
      rw [hn]
      split
      · rename_i h
        subst h
        have : (τ j).toOwn = τ j := by
          cases e : τ j <;> first | rfl | exact absurd ⟨_, _, e⟩ hv
        rw [this]
        exact ht.env j
      · exact ht.env j

/-- the operations of a region, one after the other -/
theorem evalTOps_sound {A : Ann} {r : Nat} {ops : Array Oper} {K : TK} : ∀ (is : List Nat) {ss : List SStep} {F : Frz} {L : Loc} {ρ : Env} {M : TL} {τ : TEnv} {a : Act} {w : World}, lowReg P A r ops is = some ss → St F L w → EnvOk L ρ a → TS G F L ρ M τ → a.tmps.size = A.n →
    evalTOps P PS false ss M τ K → (∀ a' w', Next2 A.n F L w a (dstsOf ops is) (Both G K) a' w' → Q .normal a' w') →
    (∀ v a' w', PNext A.n F L w a (dstsOf ops is) (fun L' v => Kp G L' ∧ PS v) v a' w' → Q (.panic [{ v, recovered := false }]) a' w') → wpOps P ops Q is a w := by
  intro is
  induction is with
  | nil =>
    intro ss F L ρ M τ a w hl hs he ht hn hK hQ hQp
    simp only [lowReg, Option.some.injEq] at hl
    subst hl
    exact hQ a w ⟨F, L, ρ, hs, he, hn, rfl, Step.refl _ _ _, fun _ _ => rfl, M, τ, ht, hK⟩
  | cons i is ih =>
    intro ss F L ρ M τ a w hl hs he ht hn hK hQ hQp
    simp only [lowReg] at hl
    split at hl
    case h_1 => cases hl
    rename_i o hi
    split at hl
    case h_2 => cases hl
    rename_i g s rest hg hop hdst hrest
    injection hl with hl
    subst hl
    have ghosts : ∀ (ks : List Nat) {x : SStep} {F : Frz} {L : Loc} {M : TL} {τ : TEnv}, St F L w → EnvOk L ρ a → TS G F L ρ M τ → evalTOps P PS false (ks.map SStep.frz ++ x :: rest) M τ K →
        ∃ F' L' M' τ', St F' L' w ∧ EnvOk L' ρ a ∧ Step F L w F' L' w ∧ TS G F' L' ρ M' τ' ∧ evalTOps P PS false (x :: rest) M' τ' K := by
      intro ks
      induction ks with
      | nil => intro x F L M τ hs he ht h; exact ⟨F, L, M, τ, hs, he, Step.refl _ _ _, ht, h⟩
      | cons k ks ihk =>
        intro x F L M τ hs he ht h
        simp only [List.map_cons, List.cons_append, evalTOps_cons, stepT, fT_eq] at h
        split at h
        case h_2 => exact h.elim
        rename_i t sz els hk
        obtain ⟨F1, L1, g1, g2, g3, g4, _⟩ := frz1_sound hs he ht hk
        obtain ⟨F2, L2, M2, τ2, k1, k2, k3, k4, k5⟩ := ihk g1 g2 g4 h
        exact ⟨F2, L2, M2, τ2, k1, k2, g3.trans k3, k4, k5⟩
    obtain ⟨F1, L1, M1, τ1, hs1, he1, hst1, ht1, hK⟩ := ghosts _ hs he ht hK
    clear ghosts he
    have hd : ∀ k, o.dst = some k → k < a.tmps.size := by
      intro k hk
      rw [hk] at hdst
      rw [hn]
      have h2 : Nat.blt k A.n = true := hdst
      simpa using h2
    have hdsts : dstsOf ops (i :: is) = match o.dst with | some d => d :: dstsOf ops is | none => dstsOf ops is := by
      simp only [dstsOf, hi, Option.bind_some]
      rfl
    have notin : ∀ j, j ∉ dstsOf ops (i :: is) → o.dst ≠ some j ∧ j ∉ dstsOf ops is := by
      intro j hj
      rw [hdsts] at hj
      cases ho : o.dst with
      | none => rw [ho] at hj; exact ⟨by simp, hj⟩
      | some d =>
        rw [ho] at hj
        simp only [List.mem_cons, not_or] at hj
        exact ⟨by simp; exact fun e => hj.1 e.symm, hj.2⟩
    have after : ∀ {KK : Prop}, o.wp P a w (fun a' w' => Next1 F1 L1 w a (Both G fun M' τ' => evalTOps P PS false rest M' (normD o.dst τ') K) a' w') Q → o.wp P a w (wpOps P ops Q is) Q := by
      intro _ this
      refine Oper.wp_mono ?_ (wp_frame (asg := []) this)
      rintro a' w' ⟨⟨F', L', ρ', g1, g2, g3, g4, g5, M', τ', g6, g7⟩, hfr⟩
      obtain ⟨ρ2, n1, n2⟩ := norm_sound g2 g6 o.dst
      refine ih hrest g1 n1 n2 (by rw [g3, hn]) g7 ?_ ?_
      · rintro a'' w'' ⟨F'', L'', ρ'', k1, k2, k3, k4, k5, k6, k7⟩
        refine hQ a'' w'' ⟨F'', L'', ρ'', k1, k2, k3, k4.trans g4, (hst1.trans g5).trans k5, fun j hj => ?_, k7⟩
        obtain ⟨n1, n2⟩ := notin j hj
        rw [k6 j n2, hfr j n1]
      · rintro v a'' w'' ⟨F'', L'', k1, k2, k3, k4, k5, k6⟩
        refine hQp v a'' w'' ⟨F'', L'', k1, (hst1.trans g5).trans k2, k3, k4.trans g4, fun j hj => ?_, k6⟩
        obtain ⟨n1, n2⟩ := notin j hj
        rw [k5 j n2, hfr j n1]
    have goOn : ∀ {τ1 : TEnv}, TS G F1 L1 ρ M1 τ1 → evalTOp P s o.dst M1 τ1 (fun M' τ' => evalTOps P PS false rest M' (normD o.dst τ') K) → o.wp P a w (wpOps P ops Q is) Q := by
      intro τ1 ht1 hK
      exact after (KK := True) (opT_sound (Q := Q) hs1 he1 ht1 hd hop hK)
    have goOnP : ∀ {τ1 : TEnv}, TS G F1 L1 ρ M1 τ1 → evalTP P PS s o.dst M1 τ1 (fun M' τ' => evalTOps P PS false rest M' (normD o.dst τ') K) → o.wp P a w (wpOps P ops Q is) Q := by
      intro τ1 ht1 hK
      exact after (KK := True) (opP_sound (Q := Q) hs1 he1 ht1 hd hop hK fun v w' F' L' q1 q2 q3 => hQp v a w' ⟨F', L', q1, hst1.trans q2, hn, rfl, fun _ _ => rfl, q3⟩)
    have skip : ∀ {τ1 : TEnv}, TS G F1 L1 ρ M1 τ1 → evalTOps P PS false rest M1 (tput o.dst .und τ1) K → wpOps P ops Q is (a.put o.dst undef) w := by
      intro τ1 ht1 hK
      have he2 := he1.put hd (v := undef) (x := .v undef) rfl noOwn noEl (boxKeep L1)
      refine ih hrest hs1 he2 (ht1.put (c := .und) (sv := .v undef) ⟨_, rfl, by simp only [Rel]⟩ o.dst) (by rw [size_put, hn]) hK ?_ ?_
      · rintro a'' w'' ⟨F'', L'', ρ'', k1, k2, k3, k4, k5, k6, k7⟩
        refine hQ a'' w'' ⟨F'', L'', ρ'', k1, k2, k3, k4.trans (defers_put _ _ _), hst1.trans k5, fun j hj => ?_, k7⟩
        obtain ⟨n1, n2⟩ := notin j hj
        rw [k6 j n2, put_frame n1]
      · rintro v a'' w'' ⟨F'', L'', k1, k2, k3, k4, k5, k6⟩
        refine hQp v a'' w'' ⟨F'', L'', k1, hst1.trans k2, k3, k4.trans (defers_put _ _ _), fun j hj => ?_, k6⟩
        obtain ⟨n1, n2⟩ := notin j hj
        rw [k5 j n2, put_frame n1]
    simp only [wpOps, hi]
    cases hpn : panAt A.pan r i with
    | false =>
      rw [hpn] at hK
      cases hgd : o.guard with
      | none =>
        rw [hgd] at hg
        simp only [lowGuard, Option.some.injEq] at hg
        subst hg
        simp only [mkStep, evalTOps_cons, stepT] at hK
        rw [if_pos (by simp [Region.wanted, hgd])]
        exact .inl (goOn ht1 hK)
      | some p =>
        obtain ⟨j, want⟩ := p
        rw [hgd] at hg
        simp only [lowGuard] at hg
        split at hg
        case h_2 => cases hg
        rename_i d hjd
        injection hg with hg
        subst hg
        simp only [mkStep, evalTOps_cons, stepT] at hK
        split at hK
        · rename_i b hb
          have hb' : ρ d = .v (.bool b) := inv_bool (x := .t d) ht1.env hb
          have htmp := he1.eq d
          rw [hb'] at htmp
          have hy : yielded ops a.tmps j = some b := by
            simp only [yielded, hjd, Option.bind_some, getD_bool htmp]
          have hw : Region.wanted o (yielded ops a.tmps) = (b == want) := by
            simp only [Region.wanted, hgd, hy]
            cases b <;> cases want <;> rfl
          have htp : TS G F1 L1 ρ M1 (tput (some d) (.bool b) τ1) := by
            have := ht1.put (c := .bool b) (sv := .v (.bool b)) ⟨_, rfl, by simp only [Rel]⟩ (some d)
            rwa [put_same hb'] at this
          rw [hw]
          cases b <;> simp only [brn] at hK
          · cases want
            · exact .inl (goOn htp hK)
            · exact skip htp hK
          · cases want
            · exact skip htp hK
            · exact .inl (goOn htp hK)
        · rename_i hb
          have hr := ht1.env d
          rw [hb] at hr
          simp only [RelV, Rel] at hr
          obtain ⟨v, hb', rfl⟩ := hr
          have htmp := he1.eq d
          rw [hb'] at htmp
          have hy : yielded ops a.tmps j = none := by
            simp only [yielded, hjd, Option.bind_some]
            rw [Array.getD_eq_getD_getElem?] at htmp
            cases e : a.tmps[d]? with
            | none => rfl
            | some v => rw [e] at htmp; simp only [Option.getD_some, conc] at htmp; rw [htmp]; rfl
          have hw : Region.wanted o (yielded ops a.tmps) = false := by
            simp only [Region.wanted, hgd, hy]; rfl
          rw [hw]
          exact skip ht1 hK
        · exact hK.elim
    | true =>
      rw [hpn] at hK
      cases hgd : o.guard with
      | none =>
        rw [hgd] at hg
        simp only [lowGuard, Option.some.injEq] at hg
        subst hg
        simp only [mkStep, evalTOps_cons, stepT] at hK
        rw [if_pos (by simp [Region.wanted, hgd])]
        exact .inl (goOnP ht1 hK)
      | some p =>
        obtain ⟨j, want⟩ := p
        rw [hgd] at hg
        simp only [lowGuard] at hg
        split at hg
        case h_2 => cases hg
        rename_i d hjd
        injection hg with hg
        subst hg
        simp only [mkStep, evalTOps_cons, stepT] at hK
        split at hK
        · rename_i b _ hb
          have hb' : ρ d = .v (.bool b) := inv_bool (x := .t d) ht1.env hb
          have htmp := he1.eq d
          rw [hb'] at htmp
          have hy : yielded ops a.tmps j = some b := by
            simp only [yielded, hjd, Option.bind_some, getD_bool htmp]
          have hw : Region.wanted o (yielded ops a.tmps) = (b == want) := by
            simp only [Region.wanted, hgd, hy]
            cases b <;> cases want <;> rfl
          have htp : TS G F1 L1 ρ M1 (tput (some d) (.bool b) τ1) := by
            have := ht1.put (c := .bool b) (sv := .v (.bool b)) ⟨_, rfl, by simp only [Rel]⟩ (some d)
            rwa [put_same hb'] at this
          rw [hw]
          cases b <;> simp only [brn] at hK
          · cases want
            · exact .inl (goOnP htp hK)
            · exact skip htp hK
          · cases want
            · exact skip htp hK
            · exact .inl (goOnP htp hK)
        · rename_i hb
          have hr := ht1.env d
          rw [hb] at hr
          simp only [RelV, Rel] at hr
          obtain ⟨v, hb', rfl⟩ := hr
          have htmp := he1.eq d
          rw [hb'] at htmp
          have hy : yielded ops a.tmps j = none := by
            simp only [yielded, hjd, Option.bind_some]
            rw [Array.getD_eq_getD_getElem?] at htmp
            cases e : a.tmps[d]? with
            | none => rfl
            | some v => rw [e] at htmp; simp only [Option.getD_some, conc] at htmp; rw [htmp]; rfl
          have hw : Region.wanted o (yielded ops a.tmps) = false := by
            simp only [Region.wanted, hgd, hy]; rfl
          rw [hw]
          exact skip ht1 hK
        · exact hK.elim

/-- a region that draws its order -/
theorem relV_und : RelV F L .und (.v undef) := ⟨_, rfl, by simp only [Rel]⟩
theorem evalOp_imp {o : SOp} {d : Option Nat} {F : Frz} {L : Loc} {ρ : Env} {K K' : Kont} (h : evalOp P o d F L ρ K) (hk : ∀ F' L' ρ', K F' L' ρ' → K' F' L' ρ') : evalOp P o d F L ρ K' := by
  cases o
  case box t x =>
    simp only [evalOp] at h ⊢
    cases d with
    | none => exact h.elim
    | some k =>
      simp only [] at h ⊢
      generalize L.get k = z at h ⊢
      cases z with
      | none => exact fun g => hk _ _ _ (h g)
      | some _ => exact h.elim
  case boxD t x =>
    simp only [evalOp] at h ⊢
    cases d with
    | none => exact h.elim
    | some k =>
      simp only [] at h ⊢
      generalize L.get k = z at h ⊢
      cases z with
      | none => exact fun g r => hk _ _ _ (h g r)
      | some _ => exact h.elim
  case boxF t x => exact fun g F' a b => hk _ _ _ (h g F' a b)
  case alloc t z =>
    simp only [evalOp] at h ⊢
    cases d with
    | none => exact h.elim
    | some k =>
      simp only [] at h ⊢
      generalize L.get k = z at h ⊢
      cases z with
      | none => exact fun g => hk _ _ _ (h g)
      | some _ => exact h.elim
  case allocD t z =>
    simp only [evalOp] at h ⊢
    cases d with
    | none => exact h.elim
    | some k =>
      simp only [] at h ⊢
      generalize L.get k = z at h ⊢
      cases z with
      | none => exact fun g r => hk _ _ _ (h g r)
      | some _ => exact h.elim
  case mkF e n sz xs =>
    simp only [evalOp] at h ⊢
    generalize parts? L ρ sz xs = z at h ⊢
    cases z with
    | true => exact fun g F' a b => hk _ _ _ (h g F' a b)
    | false => exact h.elim
  case mkFD e n sz xs =>
    simp only [evalOp] at h ⊢
    generalize parts? L ρ sz xs = z at h ⊢
    cases z with
    | true => exact fun g F' a b c => hk _ _ _ (h g F' a b c)
    | false => exact h.elim
  case mkR e n sz xs =>
    simp only [evalOp] at h ⊢
    generalize parts? L ρ sz xs = z at h ⊢
    cases z with
    | false => exact h.elim
    | true =>
      cases d with
      | none => exact h.elim
      | some k =>
        simp only [] at h ⊢
        generalize L.get k = z at h ⊢
        cases z with
        | none => exact fun g => hk _ _ _ (h g)
        | some _ => exact h.elim
  case s2b e x =>
    simp only [evalOp] at h ⊢
    generalize ev ρ x = z at h ⊢
    split at h
    · exact fun g c F' a b e => hk _ _ _ (h g c F' a b e)
    · exact h.elim
  case makeS e sz b zs l c =>
    simp only [evalOp] at h ⊢
    generalize ev ρ l = z1 at h ⊢
    generalize ev ρ c = z2 at h ⊢
    split at h
    · rename_i k
      generalize L.get k = z at h ⊢
      cases z with
      | none => exact ⟨h.lo, h.eq, h.hi, h.max, fun g => hk _ _ _ (h.out g)⟩
      | some _ => exact h.elim
    · exact h.elim
  case storeX n a x =>
    simp only [evalOp] at h ⊢
    generalize len? (vcells (val L ρ x)) n = z1 at h ⊢
    generalize ones? (vcells (val L ρ x)) = z2 at h ⊢
    generalize ev ρ a = z3 at h ⊢
    split at h
    · rename_i k off
      generalize L.get k = z at h ⊢
      split at h
      · rename_i cs
        generalize len? ((cs.drop off).take n) n = b at h ⊢
        cases b
        · exact h.elim
        · exact fun r => hk _ _ _ (h r)
      · exact h.elim
    · exact ⟨let ⟨k, v, t, sz, m, xs, ad, c, h1, h2, h3, h4, h5, h6⟩ := h.out; ⟨k, v, t, sz, m, xs, ad, c, h1, h2, h3, h4, h5, fun r => hk _ _ _ (h6 r)⟩⟩
    · exact ⟨let ⟨k, v, t, sz, m, xs, ad, c, h1, h2, h3, h4, h5, h6⟩ := h.out; ⟨k, v, t, sz, m, xs, ad, c, h1, h2, h3, h4, h5, fun r => hk _ _ _ (h6 r)⟩⟩
    · exact h.elim
  case store n a x =>
    simp only [evalOp] at h ⊢
    generalize len? (vcells (val L ρ x)) n = z1 at h ⊢
    generalize ones? (vcells (val L ρ x)) = z2 at h ⊢
    generalize ev ρ a = z3 at h ⊢
    split at h
    · rename_i k off
      generalize L.get k = z at h ⊢
      split at h
      · rename_i cs
        generalize len? ((cs.drop off).take n) n = b at h ⊢
        cases b
        · exact h.elim
        · exact hk _ _ _ h
      · exact h.elim
    · exact ⟨let ⟨k, v, t, sz, m, xs, ad, c, h1, h2, h3, h4, h5, h6⟩ := h.out; ⟨k, v, t, sz, m, xs, ad, c, h1, h2, h3, h4, h5, hk _ _ _ h6⟩⟩
    · exact ⟨let ⟨k, v, t, sz, m, xs, ad, c, h1, h2, h3, h4, h5, h6⟩ := h.out; ⟨k, v, t, sz, m, xs, ad, c, h1, h2, h3, h4, h5, hk _ _ _ h6⟩⟩
    · exact h.elim
  case storeD n a x =>
    simp only [evalOp] at h ⊢
    generalize len? (vcells (val L ρ x)) n = z1 at h ⊢
    generalize ones? (vcells (val L ρ x)) = z2 at h ⊢
    generalize ev ρ a = z3 at h ⊢
    split at h
    · rename_i k off
      generalize L.get k = z at h ⊢
      split at h
      · rename_i cs
        generalize len? ((cs.drop off).take n) n = b at h ⊢
        cases b
        · exact h.elim
        · exact hk _ _ _ h
      · exact h.elim
    · exact h.elim
  case storeK key n a x =>
    obtain ⟨n', a', x', k, off, g, t, cs, ho, e1, e2, e3, e4, e5, h⟩ := evalOp_st rfl h
    exact evalOp_st' ho e1 e2 e3 e4 e5 (hk _ _ _ h)
  case makeSD e sz n zs =>
    simp only [evalOp] at h ⊢
    cases d with
    | none => exact h.elim
    | some k =>
      simp only [] at h ⊢
      split at h
      · exact fun g r => hk _ _ _ (h g r)
      · exact h.elim
  case call f args =>
    simp only [evalOp] at h ⊢
    exact CallPt.imp h fun _ _ _ h => hk _ _ _ h
  case callV f args =>
    simp only [evalOp] at h ⊢
    generalize ev ρ f = z at h ⊢
    split at h
    · exact CallPt.imp h fun _ _ _ h => hk _ _ _ h
    · exact h.elim
  case callO f args =>
    simp only [evalOp] at h ⊢
    exact CallPt.imp h fun _ _ _ h r => hk _ _ _ (h r)
  case callVO f args =>
    simp only [evalOp] at h ⊢
    generalize ev ρ f = z at h ⊢
    split at h
    · exact CallPt.imp h fun _ _ _ h r => hk _ _ _ (h r)
    · exact h.elim
  case callD f args =>
    simp only [evalOp] at h ⊢
    exact CallDPt.imp' h fun _ _ _ h => hk _ _ _ h
  case callVD f args =>
    simp only [evalOp] at h ⊢
    generalize ev ρ f = z at h ⊢
    split at h
    · exact CallDPt.imp' h fun _ _ _ h => hk _ _ _ h
    · exact h.elim
  case app e sz b zs s x =>
    simp only [evalOp] at h ⊢
    generalize ev ρ s = z1 at h ⊢
    generalize ev ρ x = z2 at h ⊢
    split at h
    · exact ⟨let ⟨kd, n, xs, m, news, h1, h2, h3, h4, h5, h6⟩ := h.out; ⟨kd, n, xs, m, news, h1, h2, h3, h4, h5, fun v hv => hk _ _ _ (h6 v hv)⟩⟩
    · exact h.elim
  case appX e sz b zs s x =>
    simp only [evalOp] at h ⊢
    generalize ev ρ s = z1 at h ⊢
    generalize ev ρ x = z2 at h ⊢
    split at h
    · exact ⟨let ⟨kd, n, xs, m, news, h1, h2, h3, h4, h5, h6⟩ := h.out; ⟨kd, n, xs, m, news, h1, h2, h3, h4, h5, fun v hv r => hk _ _ _ (h6 v hv r)⟩⟩
    · exact h.elim
  case appD e sz b zs s x =>
    simp only [evalOp] at h ⊢
    generalize ev ρ s = z1 at h ⊢
    generalize ev ρ x = z2 at h ⊢
    split at h
    · exact ⟨let ⟨kd, n, xs, m, news, h1, h2, h3, h4, h5, h6⟩ := h.out; ⟨kd, n, xs, m, news, h1, h2, h3, h4, h5, fun v hv r => hk _ _ _ (h6 v hv r)⟩⟩
    · exact h.elim
  case appS e s x =>
    simp only [evalOp] at h ⊢
    generalize ev ρ s = z1 at h ⊢
    generalize ev ρ x = z2 at h ⊢
    split at h
    · exact ⟨let ⟨kd, n, xs, h1, h2, h3, h4⟩ := h.out; ⟨kd, n, xs, h1, h2, h3, fun v hv => hk _ _ _ (h4 v hv)⟩⟩
    · exact h.elim
  case copy e sz dd x =>
    simp only [evalOp] at h ⊢
    generalize ev ρ dd = z1 at h ⊢
    generalize ev ρ x = z2 at h ⊢
    split at h
    · exact ⟨let ⟨k, n, v, nr, xs, ad, cr, cd, j, m, a, c, news, h1, h2, h3, h4, h5, h6, h7, h8, h9⟩ := h.out; ⟨k, n, v, nr, xs, ad, cr, cd, j, m, a, c, news, h1, h2, h3, h4, h5, h6, h7, h8, hk _ _ _ h9⟩⟩
    · exact h.elim
  case copyX e sz dd x =>
    simp only [evalOp] at h ⊢
    generalize ev ρ dd = z1 at h ⊢
    generalize ev ρ x = z2 at h ⊢
    split at h
    · exact ⟨let ⟨k, n, v, nr, xs, ad, cr, cd, j, m, a, c, news, h1, h2, h3, h4, h5, h6, h7, h8, h9⟩ := h.out; ⟨k, n, v, nr, xs, ad, cr, cd, j, m, a, c, news, h1, h2, h3, h4, h5, h6, h7, h8, fun r => hk _ _ _ (h9 r)⟩⟩
    · exact h.elim
  case pan x => simp only [evalOp] at h
  all_goals
    simp only [evalOp] at h ⊢
    exact outV_imp h fun v h => hk _ _ _ h
theorem drawn_call {s s' : SOp} (h : drawn s = some s') : callOp s' = false := by
  cases s <;> simp only [drawn, Option.some.injEq, reduceCtorEq] at h <;> subst h <;> rfl
theorem drawnK_call {bx : List Nat} {s s' : SOp} (h : drawnK bx s = some s') : callOp s' = false := by
  unfold drawnK at h
  split at h
  · split at h
    · split at h
      · injection h with h; subst h; rfl
      · cases h
    · cases h
  · injection h with h; subst h; rfl
  · split at h <;> (injection h with h; subst h; rfl)
  · split at h <;> (injection h with h; subst h; rfl)
  · exact drawn_call h
theorem drawnO_call {s s' : SOp} (h : drawnO s = some s') : callOp s' = false := by
  cases s <;> simp only [drawnO, Option.some.injEq, reduceCtorEq] at h <;> subst h <;> rfl
theorem lowRegD_ops {A : Ann} {ops : Array Oper} : ∀ {is : List Nat} {ss : List SStep}, lowRegD P A ops is = some ss → ∀ s ∈ ss, ∃ d o g, s = .op d o g ∧ callOp o = false := by
  intro is
  induction is with
  | nil => intro ss h s hs; simp only [lowRegD, Option.some.injEq] at h; subst h; cases hs
  | cons i is ih =>
    intro ss h s hs
    simp only [lowRegD] at h
    split at h
    case h_2 => cases h
    rename_i s0 ss0 h1 h2
    injection h with h
    subst h
    rcases List.mem_cons.1 hs with rfl | hs
    · unfold lowD at h1
      split at h1
      case h_1 => cases h1
      split at h1
      case h_2 => cases h1
      split at h1
      · split at h1
        case h_2 => cases h1
        rename_i s' hs'
        injection h1 with h1
        exact ⟨_, s', _, h1.symm, drawnO_call hs'⟩
      · split at h1
        case h_2 => cases h1
        rename_i s' hs'
        split at h1
        case h_2 => cases h1
        injection h1 with h1
        exact ⟨_, s', _, h1.symm, drawnK_call hs'⟩
    · exact ih h2 s hs
theorem simOps {K : TK} : ∀ (ss : List SStep), (∀ s ∈ ss, ∃ d o g, s = SStep.op d o g ∧ callOp o = false) → ∀ {F : Frz} {L : Loc} {ρ : Env} {M : TL} {τ : TEnv}, TS G F L ρ M τ → evalTOps P PS true ss M τ K → evalOps P ss F L ρ (Both G K)
  | [], _, F, L, ρ, M, τ, ht, h => ⟨M, τ, ht, h⟩
  | s :: ss, hc, F, L, ρ, M, τ, ht, h => by
    obtain ⟨d, o, g, rfl, ho⟩ := hc s (by simp)
    have hc' : ∀ s ∈ ss, ∃ d o g, s = SStep.op d o g ∧ callOp o = false := fun s hs => hc s (by simp [hs])
    have goOn : ∀ {ρ : Env} {τ : TEnv}, TS G F L ρ M τ → evalTOp P o d M τ (fun M' τ' => evalTOps P PS true ss M' τ' K) → evalOp P o d F L ρ (fun F' L' ρ' => evalOps P ss F' L' ρ' (Both G K)) := by
      intro ρ τ ht h
      have := simOp ho ht h
      exact evalOp_imp this fun F' L' ρ' ⟨M', τ', h1, h2⟩ => simOps ss hc' h1 h2
    cases g with
    | none =>
      simp only [evalTOps_cons, stepT] at h
      simp only [evalOps]
      exact goOn ht h
    | some p =>
      obtain ⟨s, want⟩ := p
      simp only [evalTOps_cons, stepT] at h
      simp only [evalOps]
      split at h
      · rename_i b hb
        have hb' : ρ s = .v (.bool b) := inv_bool (x := .t s) ht.env hb
        simp only [hb']
        have htp : ∀ b', b = b' → TS G F L (Fr.put (some s) (.v (.bool b')) ρ) M (tput (some s) (.bool b') τ) := fun b' _ => ht.put relV_bool (some s)
        have hu : ∀ {ρ : Env} {τ : TEnv}, TS G F L ρ M τ → TS G F L (Fr.put d (.v undef) ρ) M (tput d .und τ) := fun ht => ht.put relV_und d
        cases b <;> simp only [brn] at h ⊢ <;> cases want <;> simp only [] at h ⊢
        · exact goOn (htp _ rfl) h
        · exact simOps ss hc' (hu (htp _ rfl)) h
        · exact simOps ss hc' (hu (htp _ rfl)) h
        · exact goOn (htp _ rfl) h
      · rename_i hb
        have hr := ht.env s
        rw [hb] at hr
        simp only [RelV, Rel] at hr
        obtain ⟨v, hb', rfl⟩ := hr
        simp only [hb', undef]
        exact simOps ss hc' (ht.put relV_und d) h
      · exact h.elim
/- code -/
theorem putsT_eq : ∀ (ls : List Nat) (vs : List C) (τ : TEnv) (j : Nat), putsT ls vs τ j = τ j ∨ ∃ (i : Nat) (c : C), ls[i]? = some j ∧ vs[i]? = some c ∧ putsT ls vs τ j = c
  | [], vs, τ, j => .inl rfl
  | k :: ls, [], τ, j => .inl rfl
  | k :: ls, v :: vs, τ, j => by
    simp only [putsT, tput_eq]
    split
    · rename_i h; subst h; exact .inr ⟨0, v, by simp, by simp, rfl⟩
    · rcases putsT_eq ls vs τ j with h | ⟨i, c, h1, h2, h3⟩
      · exact .inl h
      · exact .inr ⟨i + 1, c, by simpa using h1, by simpa using h2, h3⟩
theorem holdsT_at {M1 : TL} : ∀ {ls : List Nat} {vs : List C} {τ : TEnv}, holdsT M M1 ls vs τ → ∀ {i j : Nat} {c : C}, ls[i]? = some j → vs[i]? = some c → leC M M1 (τ j) c
  | [], vs, τ, h, i, j, c, e, _ => by simp at e
  | k :: ls, [], τ, h, i, j, c, _, e => by simp at e
  | k :: ls, v :: vs, τ, h, i, j, c, e1, e2 => by
    simp only [holdsT] at h
    cases i with
    | zero => simp at e1 e2; subst e1 e2; exact h.1
    | succ i => exact holdsT_at h.2 (by simpa using e1) (by simpa using e2)
theorem holdsT_wf {M1 : TL} (ht : TS G F L ρ M τ) : ∀ {ls : List Nat} {vs : List C}, vs.length = ls.length → holdsT M M1 ls vs τ → gives M M1 M1 → WfS vs
  | [], [], _, _, _ => by simp only [WfS]
  | [], v :: vs, hl, _, _ => by simp at hl
  | k :: ls, [], hl, _, _ => by simp at hl
  | k :: ls, v :: vs, hl, h, hg => by
    simp only [holdsT] at h
    simp only [WfS]
    refine ⟨?_, holdsT_wf ht (by simpa using hl) h.2 hg⟩
    have hr := cel_rel' (ht.env k)
    rcases h.1 with e | ⟨e, _⟩ | ⟨e1, e2⟩ | ⟨e1, k', t, sz, e2, _⟩ | ⟨els, e1, e2⟩
    · rw [e]; simp only [Wf]
    · rw [e] at hr
      have := hr.wf
      revert this
      cases v <;> simp [C.cel, Wf]
    · rw [e2]; simp [Wf, WfSS]
    · rw [e2]; simp only [Wf]
    · rw [e1] at hr
      have := (slx_sl hr).wf
      rw [e2]; exact this
theorem wf_row {M : TL} (ht : RelTL F L M) : ∀ {l : TL}, (∀ k o, l.get k = some o → M.get k = some o) → ∀ k o, l.get k = some o → o.Wf := by
  intro l h k o e
  rcases relK_get (ht k) with ⟨c1, _⟩ | ⟨q, p, c1, c2, hr⟩
  · rw [h k o e] at c1; cases c1
  · rw [h k o e] at c1
    injection c1 with c1
    subst c1
    exact hr.wf
/-- a tree that says nothing of rows -/
theorem unrw_leaf {L' : Loc} {F' : Frz} (hF : F.le F') (hk : ∀ k g t cs, L.get k = some (.box g t cs) → ∃ cs', L'.get k = some (.box g t cs')) :
    (∀ c v, C.leaf c = true → Rel F L c v → Rel F' L' (unrwLeaf c) v) ∧ (∀ c sv, C.leaf c = true → RelV F L c sv → RelV F' L' (unrwLeaf c) sv) := by
  have hb : ∀ {k : Nat}, (∃ g t cs, L.get k = some (.box g t cs)) → ∀ o, L.get k = some o → ∃ o', L'.get k = some o' ∧ Own.like o o' := by
    intro k hg o ho
    obtain ⟨g, t, cs, hg⟩ := hg
    rw [hg] at ho
    injection ho with ho
    subst ho
    obtain ⟨cs', h⟩ := hk k g t cs hg
    exact ⟨_, h, rfl⟩
  constructor
  · intro c v hc h
    cases c <;> simp only [C.leaf, Bool.false_eq_true] at hc <;> simp only [unrwLeaf]
    case rw => simp only [Rel]
    case elr => simp only [Rel]
    case own k off =>
      have h' := h
      simp only [Rel] at h'
      obtain ⟨g, t, cs, h1, _⟩ := h'
      refine rel_leaf hF (fun j e => ?_) rfl h
      rcases e with ⟨off, e⟩ | e
      · injection e with e e2; subst e; exact hb ⟨g, t, cs, h1⟩
      · cases e
    all_goals
      exact rel_leaf hF (fun j' e => by rcases e with ⟨off, e⟩ | e <;> cases e) rfl h
  · intro c sv hc h
    cases c <;> simp only [C.leaf, Bool.false_eq_true] at hc <;> simp only [unrwLeaf]
    case rw => trivial
    case elr => trivial
    case own k off =>
      have h' := h
      simp only [RelV] at h'
      refine relV_leaf hF (fun j e => ?_) rfl h
      rcases e with ⟨off, e⟩ | ⟨off, e⟩ | e | ⟨a, b, e⟩ <;> first | cases e; done | skip
      injection e with e e2
      subst e
      exact hb h'.2
    case ownv k off =>
      have h' := h
      simp only [RelV, Rel] at h'
      obtain ⟨v, _, g, t, cs, h1, _⟩ := h'
      refine relV_leaf hF (fun j e => ?_) rfl h
      rcases e with ⟨off, e⟩ | ⟨off, e⟩ | e | ⟨a, b, e⟩ <;> first | cases e; done | skip
      injection e with e e2
      subst e
      exact hb ⟨g, t, cs, h1⟩
    all_goals
      exact relV_leaf hF (fun j' e => by rcases e with ⟨off, e⟩ | ⟨off, e⟩ | e | ⟨a, b, e⟩ <;> cases e) rfl h
/-- the slot's place for a tree -/
def svOf (L : Loc) (c : C) (v : Value) : SV := match c with | .own k off => .own k off | .ownv _ _ => .v v | _ => .v v
theorem svOf_ok {c : C} {v : Value} (h : Rel F L c v) : RelV F L c (svOf L c v) ∧ conc L (svOf L c v) = v ∧ (∀ k off, svOf L c v = .own k off → ∃ g t cs, L.get k = some (.box g t cs)) ∧ (∀ ad j, svOf L c v ≠ .el ad j) := by
  cases c
  case own k off =>
    simp only [Rel] at h
    obtain ⟨g, t, cs, h, rfl⟩ := h
    refine ⟨⟨rfl, g, t, cs, h⟩, by simp only [svOf, conc, h], fun k' off' e => ?_, fun ad j e => (by cases e)⟩
    injection e with e1 e2
    subst e1
    exact ⟨g, t, cs, h⟩
  case pt es off =>
    simp only [Rel] at h
    obtain ⟨b, o, vs, rfl, h2, h3⟩ := h
    exact ⟨⟨b, o, 0, vs, .inl ⟨rfl, rfl⟩, h2, h3⟩, rfl, fun k' off' e => (by cases e), fun ad j e => (by cases e)⟩
  case ownv => exact h.elim
  case elr => exact h.elim
  case any => exact ⟨trivial, rfl, fun k' off' e => (by cases e), fun ad j e => (by cases e)⟩
  all_goals
    exact ⟨⟨v, rfl, h⟩, rfl, fun k' off' e => (by cases e), fun ad j e => (by cases e)⟩
/-- the head of a loop: a frame whose slots are known as far as it is said -/
theorem head_env {F0 : Frz} {L0 : Loc} {ρ0 : Env} {τ0 : TEnv} {a0 a1 : Act} {asg : List Nat} {ls : List Nat} {vs : List C} {L1 : Loc} {F1 : Frz} (he0 : EnvOk L0 ρ0 a0) (ht0 : ∀ j, RelV F0 L0 (τ0 j) (ρ0 j)) (hF : F0.le F1)
    (hb : ∀ k g t cs, L0.get k = some (.box g t cs) → ∃ cs', L1.get k = some (.box g t cs')) (hfr : ∀ j, j ∉ asg → a1.tmps.getD j undef = a0.tmps.getD j undef)
    (hv : ∀ (i j : Nat) c, ls[i]? = some j → vs[i]? = some c → Rel F1 L1 c (a1.tmps.getD j undef)) :
    ∃ ρ1, EnvOk L1 ρ1 a1 ∧ ∀ j, RelV F1 L1 (putsT ls vs (headE asg τ0) j) (ρ1 j) := by
  have key : ∀ j, ∃ sv, RelV F1 L1 (putsT ls vs (headE asg τ0) j) sv ∧ conc L1 sv = a1.tmps.getD j undef ∧ (∀ k off, sv = .own k off → ∃ g t cs, L1.get k = some (.box g t cs)) ∧ (∀ ad i, sv = .el ad i → ad ≠ none) := by
    intro j
    rcases putsT_eq ls vs (headE asg τ0) j with h | ⟨i, c, h1, h2, h3⟩
    · rw [h]
      simp only [headE]
      split
      · exact ⟨.v (a1.tmps.getD j undef), trivial, rfl, fun _ _ e => (by cases e), fun _ _ e => (by cases e)⟩
      · rename_i hm
        have hj : j ∉ asg := fun h => by rw [mem?_eq.2 h] at hm; cases hm
        obtain ⟨u1, u2⟩ := unrw_leaf hF hb
        refine ⟨ρ0 j, RelV.mp u1 u2 3 (ht0 j), ?_, ?_, he0.el j⟩
        · rw [hfr j hj, he0.eq j]
          cases e : ρ0 j with
          | v x => rfl
          | el x i => rfl
          | own k off =>
            obtain ⟨g, t, cs, hg⟩ := he0.own j k off e
            obtain ⟨cs', hg'⟩ := hb _ _ _ _ hg
            simp only [conc, hg, hg']
        · intro k off e
          obtain ⟨g, t, cs, hg⟩ := he0.own j k off e
          obtain ⟨cs', hg'⟩ := hb _ _ _ _ hg
          exact ⟨g, t, cs', hg'⟩
    · rw [h3]
      obtain ⟨s1, s2, s3, s4⟩ := svOf_ok (hv i j c h1 h2)
      exact ⟨_, s1, s2, s3, fun ad i e => absurd e (s4 ad i)⟩
  refine ⟨fun j => (key j).choose, ⟨fun t => ?_, fun t k off e => ?_, fun t ad j e => ?_⟩, fun j => (key j).choose_spec.1⟩
  · exact (key t).choose_spec.2.1.symm
  · exact (key t).choose_spec.2.2.1 k off e
  · exact (key t).choose_spec.2.2.2 ad j e

theorem next2_imp {n : Nat} {F : Frz} {L : Loc} {w : World} {a : Act} {asg : List Nat} {K K' : Kont} {a' : Act} {w' : World} (h : Next2 n F L w a asg K a' w') (hk : ∀ {F' L' ρ'}, K F' L' ρ' → K' F' L' ρ') : Next2 n F L w a asg K' a' w' := by
  obtain ⟨F', L', ρ', h1, h2, h3, h4, h5, h6, h7⟩ := h
  exact ⟨F', L', ρ', h1, h2, h3, h4, h5, h6, hk h7⟩
theorem ghostsT_sound {P : Program} {PS : Value → Prop} {G : Nat → Option (Nat × TypeId)} {ρ : Env} {a : Act} {w : World} {rest : List SStep} {K : TK} : ∀ (ks : List Nat) {F : Frz} {L : Loc} {M : TL} {τ : TEnv}, St F L w → EnvOk L ρ a → TS G F L ρ M τ → evalTOps P PS false (ks.map SStep.frz ++ rest) M τ K →
    ∃ F' L' M' τ', St F' L' w ∧ EnvOk L' ρ a ∧ Step F L w F' L' w ∧ TS G F' L' ρ M' τ' ∧ evalTOps P PS false rest M' τ' K := by
  intro ks
  induction ks with
  | nil => intro F L M τ hs he ht h; exact ⟨F, L, M, τ, hs, he, Step.refl _ _ _, ht, h⟩
  | cons k ks ihk =>
    intro F L M τ hs he ht h
    simp only [List.map_cons, List.cons_append, evalTOps_cons, stepT, fT_eq] at h
    split at h
    case h_2 => exact h.elim
    rename_i t sz els hk
    obtain ⟨F1, L1, g1, g2, g3, g4, _⟩ := frz1_sound hs he ht hk
    obtain ⟨F2, L2, M2, τ2, k1, k2, k3, k4, k5⟩ := ihk g1 g2 g4 h
    exact ⟨F2, L2, M2, τ2, k1, k2, g3.trans k3, k4, k5⟩
theorem frzDT_sound {P : Program} {PS : Value → Prop} {G : Nat → Option (Nat × TypeId)} {ρ : Env} {a : Act} {w : World} {ss : List SStep} {E : Nat → TK} {R N : TK} {F : Frz} {L : Loc} {M : TL} {τ : TEnv} : ∀ (ks : List Nat), St F L w → EnvOk L ρ a → TS G F L ρ M τ → evalTC P PS (frzD ks (.regD ss)) E R N M τ →
    ∃ F' L' M' τ', St F' L' w ∧ EnvOk L' ρ a ∧ Step F L w F' L' w ∧ TS G F' L' ρ M' τ' ∧ evalTOps P PS true ss M' τ' N
  | [], hs, he, ht, h => ⟨F, L, M, τ, hs, he, Step.refl _ _ _, ht, h⟩
  | k :: l, hs, he, ht, h => by
    have h' : evalTOps P PS false ((k :: l).map SStep.frz ++ []) M τ (fun M τ => evalTOps P PS true ss M τ N) := by rw [List.append_nil]; exact h
    obtain ⟨F1, L1, M1, τ1, h1, h2, h3, h4, h5⟩ := ghostsT_sound (k :: l) hs he ht h'
    exact ⟨F1, L1, M1, τ1, h1, h2, h3, h4, h5⟩

theorem evalTC_sound {A : Ann} : ∀ (c : Code) {sc : SCode}, low P A c = some sc → ∀ {G : Nat → Option (Nat × TypeId)} {E : Nat → TK} {R N : TK} {F : Frz} {L : Loc} {ρ : Env} {M : TL} {τ : TEnv} {a : Act} {w : World}, St F L w → EnvOk L ρ a → TS G F L ρ M τ → a.tmps.size = A.n →
    evalTC P PS sc E R N M τ → c.wp P (QQ A.n F L w a (asgOf c) (fun L' v => Kp G L' ∧ PS v) (fun j => Both G (E j)) (Both G R) (Both G N)) a w := by
  intro c
  induction c with
  | skip =>
    intro sc hl G E R N F L ρ M τ a w hs he ht hn hK
    simp only [low, Option.some.injEq] at hl; subst hl
    exact wp_skip ⟨F, L, ρ, hs, he, hn, rfl, Step.refl _ _ _, fun _ _ => rfl, M, τ, ht, hK⟩
  | label l =>
    intro sc hl G E R N F L ρ M τ a w hs he ht hn hK
    simp only [low, Option.some.injEq] at hl; subst hl
    exact wp_label ⟨F, L, ρ, hs, he, hn, rfl, Step.refl _ _ _, fun _ _ => rfl, M, τ, ht, hK⟩
  | exit id =>
    intro sc hl G E R N F L ρ M τ a w hs he ht hn hK
    simp only [low, Option.some.injEq] at hl; subst hl
    exact wp_exit ⟨F, L, ρ, hs, he, hn, rfl, Step.refl _ _ _, fun _ _ => rfl, M, τ, ht, hK⟩
  | ret =>
    intro sc hl G E R N F L ρ M τ a w hs he ht hn hK
    simp only [low, Option.some.injEq] at hl; subst hl
    exact wp_ret ⟨F, L, ρ, hs, he, hn, rfl, Step.refl _ _ _, fun _ _ => rfl, M, τ, ht, hK⟩
  | region r ops draw =>
    intro sc hl G E R N F L ρ M τ a w hs he ht hn hK
    cases draw with
    | false =>
      simp only [low] at hl
      split at hl
      case h_2 => cases hl
      rename_i ss hss
      injection hl with hl; subst hl
      simp only [evalTC_skip, evalTC_reg, evalTC_regD, evalTC_seq, evalTC_cond, evalTC_block, evalTC_loop, evalTC_exit, evalTC_ret] at hK
      exact wp_region (evalTOps_sound _ hss hs he ht hn hK (fun a' w' h => h) fun v a' w' h => ⟨v, rfl, h⟩)
    | true =>
      simp only [low] at hl
      split at hl
      case h_2 => cases hl
      rename_i is cl ss h1 h2
      split at hl
      case h_2 => cases hl
      rename_i h3
      injection hl with hl; subst hl
      obtain ⟨F1, L1, M1, τ1, hs1, he1, hst1, ht1, hK⟩ := frzDT_sound _ hs he ht hK
      have h4 : ordIs A.ord r = is := by simp only [ordIs, h1]
      rw [h4] at h2
      exact draw_sound h2 h3 hs1 he1 hn (simOps ss (lowRegD_ops h2) ht1 hK) fun a' w' h => Next2.after (asg1 := []) hst1 rfl (fun _ _ => rfl) h (fun _ h => absurd h List.not_mem_nil) (fun _ h => h)
  | seq x y ihx ihy =>
    intro sc hl G E R N F L ρ M τ a w hs he ht hn hK
    simp only [low] at hl
    split at hl
    case h_2 => cases hl
    rename_i h1 h2
    injection hl with hl; subst hl
    simp only [evalTC_skip, evalTC_reg, evalTC_regD, evalTC_seq, evalTC_cond, evalTC_block, evalTC_loop, evalTC_exit, evalTC_ret] at hK
    refine wp_seq (wp_mono (ihx h1 hs he ht hn hK) ?_)
    intro e a1 w1 hq
    cases e with
    | normal =>
      obtain ⟨F1, L1, ρ1, g1, g2, g3, g4, g5, g6, M1, τ1, g7, g8⟩ := hq
      refine wp_mono (ihy h2 g1 g2 g7 g3 g8) ?_
      intro e2 a2 w2 hq2
      cases e2 <;> first
        | exact Next2.after g5 g4 g6 hq2 (fun j h => List.mem_append.2 (.inl h)) (fun j h => List.mem_append.2 (.inr h))
        | exact (let ⟨v, e, h⟩ := hq2; ⟨v, e, PNext.after g5 g4 g6 h (fun j h => List.mem_append.2 (.inl h)) (fun j h => List.mem_append.2 (.inr h)) fun _ h => h⟩)
        | exact hq2
    | exit id => exact hq.mono fun j h => List.mem_append.2 (.inl h)
    | ret => exact hq.mono fun j h => List.mem_append.2 (.inl h)
    | goto l => exact hq
    | panic c => exact (let ⟨v, e, h⟩ := hq; ⟨v, e, h.mono fun j h => List.mem_append.2 (.inl h)⟩)
    | outgrown => exact hq
  | cond c x y ihx ihy =>
    intro sc hl G E R N F L ρ M τ a w hs he ht hn hK
    simp only [low] at hl
    split at hl
    case h_2 => cases hl
    rename_i h0 h1 h2
    injection hl with hl; subst hl
    simp only [evalTC_skip, evalTC_reg, evalTC_regD, evalTC_seq, evalTC_cond, evalTC_block, evalTC_loop, evalTC_exit, evalTC_ret] at hK
    split at hK
    case h_2 => exact hK.elim
    rename_i t htb
    have hc : a.eval c = .bool t := by rw [lowX_eval h0 he, val_v (inv_bool ht.env htb)]
    refine wp_cond hc ?_
    cases t
    · simp only [brn] at hK
      refine wp_mono (ihy h2 hs he ht hn hK) ?_
      intro e a1 w1 hq
      cases e <;> first
        | exact hq.mono fun j h => List.mem_append.2 (.inr h)
        | exact (let ⟨v, e, h⟩ := hq; ⟨v, e, h.mono fun j h => List.mem_append.2 (.inr h)⟩)
        | exact hq
    · simp only [brn] at hK
      refine wp_mono (ihx h1 hs he ht hn hK) ?_
      intro e a1 w1 hq
      cases e <;> first
        | exact hq.mono fun j h => List.mem_append.2 (.inl h)
        | exact (let ⟨v, e, h⟩ := hq; ⟨v, e, h.mono fun j h => List.mem_append.2 (.inl h)⟩)
        | exact hq
  | block id x ih =>
    intro sc hl G E R N F L ρ M τ a w hs he ht hn hK
    simp only [low] at hl
    split at hl
    case h_2 => cases hl
    rename_i h1
    injection hl with hl; subst hl
    simp only [evalTC_skip, evalTC_reg, evalTC_regD, evalTC_seq, evalTC_cond, evalTC_block, evalTC_loop, evalTC_exit, evalTC_ret] at hK
    refine wp_block (wp_mono (ih h1 hs he ht hn hK) ?_)
    intro e a1 w1 hq
    cases e with
    | exit j =>
      simp only [Exit.inBlock]
      simp only [QQ] at hq
      by_cases hj : j = id
      · subst hj
        have hb : Nat.beq j j = true := by simp
        rw [hb] at hq
        rw [if_pos rfl]
        exact hq
      · have hb : Nat.beq j id = false := by
          cases h : Nat.beq j id with
          | true => exact absurd (Nat.eq_of_beq_eq_true h) hj
          | false => rfl
        rw [hb] at hq
        rw [if_neg hj]
        exact hq
    | normal => exact hq
    | ret => exact hq
    | goto l => exact hq
    | panic c => exact hq
    | outgrown => exact hq
  | loop x ih =>
    intro sc hl G E R N F L ρ M τ a w hs he ht hn hK
    simp only [low] at hl
    split at hl
    case h_2 => cases hl
    rename_i sx h1
    injection hl with hl; subst hl
    simp only [evalTC_skip, evalTC_reg, evalTC_regD, evalTC_seq, evalTC_cond, evalTC_block, evalTC_loop, evalTC_exit, evalTC_ret] at hK
    obtain ⟨σ, x0, Inv, ls, lv, Lf, μ, i0, i1, i2, i3, i4, i5⟩ := hK
    -- the boxes that there are, with their addresses
    let G1 : Nat → Option (Nat × TypeId) := fun k => match L.get k with | some (.box g t _) => some (g, t) | _ => none
    have hG1 : ∀ k g t cs, L.get k = some (.box g t cs) → G1 k = some (g, t) := fun k g t cs e => by simp only [G1, e]
    have hkp1 : Kp G1 L := by
      intro k g t e
      simp only [G1] at e
      split at e
      · rename_i g' t' cs h
        injection e with e
        injection e with e1 e2
        subst e1 e2
        exact ⟨cs, h⟩
      · cases e
    have hG : ∀ {L' : Loc}, Kp G1 L' → Kp G L' := fun hk k g t e => let ⟨cs, h⟩ := ht.kp k g t e; hk k g t (hG1 k g t cs h)
    have hbox : ∀ {L' : Loc}, Kp G1 L' → ∀ k g t cs, L.get k = some (.box g t cs) → ∃ cs', L'.get k = some (.box g t cs') := fun hk k g t cs h => hk k g t (hG1 k g t cs h)
    have both : ∀ {K : TK} {F' L' ρ'}, Both G1 K F' L' ρ' → Both G K F' L' ρ' := fun ⟨M', τ', h1, h2⟩ => ⟨M', τ', ⟨h1.tl, h1.env, hG h1.kp⟩, h2⟩
    have wfs : ∀ {F' : Frz} {L' : Loc} {M' : TL}, RelTL F' L' M' → (∀ k o, M'.get k = some o → o.Wf) := fun h k o e => wf_row h (fun _ _ e => e) k o e
    -- a round's end, or what is ahead of the first round, is a head
    have enter : ∀ (y : σ) (F1 : Frz) (L1 : Loc) (ρ1 : Env) (M1 : TL) (τ1 : TEnv) (a1 : Act) (w1 : World), F.le F1 → St F1 L1 w1 → EnvOk L1 ρ1 a1 → TS G1 F1 L1 ρ1 M1 τ1 → (∀ j, j ∉ asgOf x → a1.tmps.getD j undef = a.tmps.getD j undef) →
        holdsT M1 (Lf y) ls (lv y) τ1 → gives M1 (Lf y) (Lf y) → ∃ L2, St F1 L2 w1 ∧ Step F1 L1 w1 F1 L2 w1 ∧ RelTL F1 L2 (Lf y) ∧ Kp G1 L2 ∧ WfS (lv y) ∧
          ∃ ρ2, EnvOk L2 ρ2 a1 ∧ ∀ j, RelV F1 L2 (putsT ls (lv y) (headE (asgOf x) τ) j) (ρ2 j) := by
      intro y F1 L1 ρ1 M1 τ1 a1 w1 hle hs1 he1 ht1 hfr hh hg
      obtain ⟨g1, g2⟩ := gives_St hs1 ht1.tl hg
      have hkp : Kp G1 (mkL L1 (Lf y)) := by
        intro k g t e
        obtain ⟨cs, hL1⟩ := ht1.kp k g t e
        obtain ⟨cs0, hL0⟩ := hkp1 k g t e
        refine ⟨cs, ?_⟩
        rcases relK_get (ht.tl k) with ⟨c1, c2⟩ | ⟨q, p, c1, c2, hr⟩
        · rw [hL0] at c2; cases c2
        · rw [hL0] at c2
          injection c2 with c2
          subst c2
          cases q with
          | row => exact hr.elim
          | box t' cs' =>
            obtain ⟨t2, cs2, e2⟩ := keepsT_box (i3 y) c1
            rw [mkL_get, e2]
            simp only [hL1]
      refine ⟨mkL L1 (Lf y), g1, g2, gives_tl ht1.tl hg, hkp, holdsT_wf ht1 (i4 y) hh hg, head_env he ht.env hle (hbox hkp) hfr ?_⟩
      intro i j c e1 e2
      have hr := cel_rel' (ht1.env j)
      have hv : a1.tmps.getD j undef = conc L1 (ρ1 j) := he1.eq j
      rw [hv]
      have hle1 := holdsT_at hh e1 e2
      rcases hle1 with e | ⟨e, hk⟩ | ⟨e, e'⟩ | ⟨e, k', t', sz', e', q1, q2⟩ | ⟨els, e, e'⟩
      · rw [e]; simp only [Rel]
      · have hc : (τ1 j).cel = τ1 j := by
          rw [e]
          rw [e] at hr
          cases c <;> first | rfl | (simp only [hasKeysA, hasKeys, Bool.false_eq_true] at hk; done)
        rw [hc] at hr
        exact leC_rel ht1.tl (.inr (.inl ⟨e, hk⟩)) hr
      · rw [e] at hr
        exact leC_rel ht1.tl (.inr (.inr (.inl ⟨rfl, e'⟩))) hr
      · rw [e] at hr
        exact leC_rel ht1.tl (.inr (.inr (.inr (.inl ⟨rfl, k', t', sz', e', q1, q2⟩)))) hr
      · rw [e] at hr
        exact leC_rel ht1.tl (.inr (.inr (.inr (.inr ⟨els, rfl, e'⟩)))) hr
    refine wp_loop_n (fun n a1 w1 => ∃ (y : σ) (F1 : Frz) (L1 : Loc), n = μ y ∧ F.le F1 ∧ Inv y ∧ St F1 L1 w1 ∧ a1.tmps.size = A.n ∧ a1.defers = a.defers ∧ Step F L w F1 L1 w1 ∧ (∀ j, j ∉ asgOf x → a1.tmps.getD j undef = a.tmps.getD j undef) ∧
      RelTL F1 L1 (Lf y) ∧ Kp G1 L1 ∧ WfS (lv y) ∧ ∃ ρ1, EnvOk L1 ρ1 a1 ∧ ∀ j, RelV F1 L1 (putsT ls (lv y) (headE (asgOf x) τ) j) (ρ1 j)) ?_ ?_
    · obtain ⟨L2, k1, k2, k3, k4, k5, k6⟩ := enter x0 F L ρ M τ a w (Frz.le_refl F) hs he ⟨ht.tl, ht.env, hkp1⟩ (fun _ _ => rfl) i1 i2
      exact ⟨_, x0, F, L2, rfl, Frz.le_refl F, i0, k1, hn, rfl, k2, fun _ _ => rfl, k3, k4, k5, k6⟩
    · rintro n a1 w1 ⟨y, F1, L1, rfl, hle, hinv, hs1, hn1, hd1, hst1, hfr1, htl1, hkp, hwf, ρ1, he1, henv1⟩
      refine wp_mono (ih h1 hs1 he1 (⟨htl1, henv1, hkp⟩ : TS G1 F1 L1 ρ1 (Lf y) (putsT ls (lv y) (headE (asgOf x) τ))) hn1 (i5 y hinv hwf (wfs htl1))) ?_
      intro e a2 w2 hq
      cases e with
      | normal =>
        obtain ⟨F2, L2, ρ2, g1, g2, g3, g4, g5, g6, M2, τ2, g7, y', k1, k2, k3, k4⟩ := hq
        have hfr2 : ∀ j, j ∉ asgOf x → a2.tmps.getD j undef = a.tmps.getD j undef := fun j hj => by rw [g6 j hj, hfr1 j hj]
        obtain ⟨L3, q1, q2, q3, q4, q5, q6⟩ := enter y' F2 L2 ρ2 M2 τ2 a2 w2 (Frz.le_trans hle g5.le) g1 g2 g7 hfr2 k2 k3
        exact ⟨μ y', k4, y', F2, L3, rfl, Frz.le_trans hle g5.le, k1, q1, g3, g4.trans hd1, (hst1.trans g5).trans q2, hfr2, q3, q4, q5, q6⟩
      | exit j => exact Next2.after hst1 hd1 hfr1 (next2_imp hq both) (fun j h => h) (fun j h => h)
      | ret => exact Next2.after hst1 hd1 hfr1 (next2_imp hq both) (fun j h => h) (fun j h => h)
      | goto l => exact hq
      | panic c => exact (let ⟨v, e, h⟩ := hq; ⟨v, e, PNext.after hst1 hd1 hfr1 h (fun j h => h) (fun j h => h) fun L' h => ⟨hG h.1, h.2⟩⟩)
      | outgrown => exact hq
  | rangeFunc f ps x y ihx ihy => intro sc hl; simp only [low] at hl; cases hl
  | scope x ih => intro sc hl; simp only [low] at hl; cases hl
  | goto l => intro sc hl; simp only [low] at hl; cases hl
  | refuse why => intro sc hl; simp only [low] at hl; cases hl
end
end Go.Fr.T

/- The evaluator over data speaks of functions. -/
set_option linter.unusedVariables false
set_option linter.unusedSimpArgs false
namespace Go.Fr.T
open Go Go.RowKit Go.Fr

section
variable {P : Program} {G : Nat → Option (Nat × TypeId)} {F : Frz} {L : Loc} {ρ : Env} {M : TL} {τ : TEnv} {a : Act} {w : World}

theorem ret_sound (ht : TS G F L ρ M τ) : ∀ {rs : List RV} {K : List C → Prop}, retT M τ rs K → retV L ρ rs (fun vs => ∃ cs, Rels F L cs vs ∧ K cs)
  | [], K, h => ⟨[], by simp only [Rels], h⟩
  | (t, none) :: l, K, h => by
    simp only [retT] at h
    simp only [retV]
    refine retV_imp (ret_sound ht h) ?_
    rintro vs ⟨cs, h1, h2⟩
    exact ⟨_, by simp only [Rels]; exact ⟨_, _, rfl, cel_rel' (ht.env t), h1⟩, h2⟩
  | (t, some (agg, n)) :: l, K, h => by
    simp only [retT] at h
    simp only [retV]
    split at h
    case h_2 => exact h.elim
    rename_i k off hk
    split at h
    case h_2 => exact h.elim
    rename_i ty cs hM
    split at h
    case h_2 => exact h.elim
    rename_i hl
    obtain ⟨e1, _⟩ := inv_own (x := .t t) ht.env hk
    have e1 : ρ t = .own k off := e1
    obtain ⟨g, vs, e2, hr⟩ := tl_box ht.tl hM
    have hr2 := (hr.drop off).take n
    simp only [e1, e2, len_of (show ((vs.drop off).take n).length = n by rw [hr2.len]; exact lenC_eq hl)]
    refine retV_imp (ret_sound ht h) ?_
    rintro us ⟨ds, h1, h2⟩
    refine ⟨_, ?_, h2⟩
    simp only [Rels]
    have := cel_rel' (asC_rel (agg := agg) hr2)
    exact ⟨_, _, rfl, this, h1⟩
where
  retV_imp {L : Loc} {ρ : Env} : ∀ {rs : List RV} {K K' : List Value → Prop}, retV L ρ rs K → (∀ vs, K vs → K' vs) → retV L ρ rs K'
  | [], K, K', h, hk => hk _ h
  | (t, none) :: l, K, K', h, hk => by
    simp only [retV] at h ⊢
    exact retV_imp h fun vs => hk _
  | (t, some (agg, n)) :: l, K, K', h, hk => by
    simp only [retV] at h ⊢
    generalize ρ t = z at h ⊢
    split at h
    case h_2 => exact h.elim
    rename_i k off
    generalize L.get k = y at h ⊢
    split at h
    case h_2 => exact h.elim
    rename_i cs
    generalize len? ((cs.drop off).take n) n = b at h ⊢
    cases b
    · exact h.elim
    · exact retV_imp h fun vs => hk _
theorem res_rel {cs : List C} {vs : List Value} (h : Rels F L cs vs) : Rel F L (resT cs) (resVal vs) := by
  match cs, vs, h with
  | [], vs, h =>
    simp only [Rels] at h
    subst h
    simp only [resT, resVal, Rel]
    exact ⟨[], rfl, by simp only [Rels]⟩
  | [c], vs, h =>
    simp only [Rels] at h
    obtain ⟨v, vs', rfl, h1, rfl⟩ := h
    exact h1
  | c1 :: c2 :: cs, vs, h =>
    have h' := h
    simp only [Rels] at h'
    obtain ⟨v, vs', rfl, h1, v2, vs2, rfl, h2⟩ := h'
    simp only [resT, resVal, Rel]
    exact ⟨_, rfl, h⟩
theorem ResA.mono' {Li : List Own} {R : List TO → C → Prop} : ∀ F G L v, Frz.le F G → ResA Li R F L v → ResA Li R G L v := by
  rintro F G L v hF ⟨Mo, c, q1, q2, q3, q4, q5⟩
  exact ⟨Mo, c, q1, q2.mono hF, q3.mono hF, q4, q5⟩
theorem argT_get : ∀ (l : List C) (k j : Nat), argT k l j = if k ≤ j then (l[j - k]?).getD .und else .und
  | [], k, j => by simp [argT]
  | v :: l, k, j => by
    simp only [argT, tput_eq]
    by_cases h : j = k
    · subst h; simp
    · rw [if_neg h, argT_get l (k + 1) j]
      by_cases h1 : k ≤ j
      · rw [if_pos (by omega), if_pos h1, show j - k = (j - (k + 1)) + 1 by omega, List.getElem?_cons_succ]
      · rw [if_neg (by omega), if_neg h1]

theorem canR_rel {c : C} {v : Value} (h : Rel F L c v) : Rel F L c.canR v := by
  cases c <;> first
    | exact h
    | exact can_rel (c := .nils) h
    | exact slx_sl h
    | (simp only [Rel] at h
       obtain ⟨vs, h1, h2⟩ := h
       simp only [C.canR, Rel]
       first
         | exact ⟨vs, h1, cans_rel h2⟩
         | exact ⟨vs, h1, h2.map fun c _ v => canA_rel⟩)

/-- what is there after a panic -/
theorem panic_back {F' : Frz} {L' : Loc} {w' : World} {Li : List Own} (hs : St F' L' w') (hst : Step F (inp Li) w F' L' w') (hb : ∀ (i : Nat) g t cs, Li[i]? = some (.box g t cs) → ∃ cs', L'.get (1000 + i) = some (.box g t cs')) :
    ∃ Lo, St F' (inp Lo) w' ∧ Step F (inp Li) w F' (inp Lo) w' ∧ Lo.length = Li.length ∧ ∀ (i : Nat) g t cs, Li[i]? = some (.box g t cs) → ∃ cs', Lo[i]? = some (.box g t cs') := by
  let Lo : List Own := Li.mapIdx fun i o => match o with
    | .box _ _ _ => match L'.get (1000 + i) with | some p => p | none => .row (.slice none 0 0) 0 0 0 []
    | .row _ t sz _ _ => .row (.slice none 0 0) t sz 0 []
  have get : ∀ k p, (inp Lo).get k = some p → L'.get k = some p ∨ ∃ t sz, p = .row (.slice none 0 0) t sz 0 [] := by
    intro k p e
    rw [inp_get] at e
    split at e
    case isFalse => cases e
    rename_i hk
    simp only [Lo, List.getElem?_mapIdx] at e
    cases h : Li[k - 1000]? with
    | none => rw [h] at e; cases e
    | some o =>
      rw [h] at e
      simp only [Option.map_some, Option.some.injEq] at e
      cases o with
      | box g t cs =>
        simp only at e
        rw [show 1000 + (k - 1000) = k by omega] at e
        cases h2 : L'.get k with
        | none => rw [h2] at e; exact .inr ⟨0, 0, e.symm⟩
        | some q => rw [h2] at e; exact .inl (by rw [← e])
      | row v t sz n xs => exact .inr ⟨t, sz, e.symm⟩
  refine ⟨Lo, ⟨hs.frz, fun k o e => ?_, fun k o g e hg => ?_, fun k k' o o' g e e' hg hg' => ?_⟩, ⟨hst.le, hst.os, hst.tape, hst.output, hst.size, hst.same, hst.frz, fun b ho => hst.own b ?_⟩, by simp [Lo], fun i g t cs hi => ?_⟩
  · rcases get k o e with h | ⟨t, sz, rfl⟩
    · exact hs.own k o h
    · exact World.ownsRow_nil w' 0 t sz
  · rcases get k o e with h | ⟨t, sz, rfl⟩
    · exact hs.off k o g h hg
    · cases hg
  · rcases get k o e with h | ⟨t, sz, rfl⟩ <;> rcases get k' o' e' with h' | ⟨t', sz', rfl⟩
    · exact hs.sep k k' o o' g h h' hg hg'
    · cases hg'
    · cases hg
    · cases hg
  · obtain ⟨k, o, e, hg⟩ := ho
    rcases get k o e with h | ⟨t, sz, rfl⟩
    · exact ⟨k, o, h, hg⟩
    · cases hg
  · obtain ⟨cs', h⟩ := hb i g t cs hi
    exact ⟨cs', by simp only [Lo, List.getElem?_mapIdx, hi, Option.map_some, h]⟩
theorem callsTX_facts {Pp : Value → Prop} {f : FuncId} {fn : Func} {sc : SCode} {A : Ann} {rs : List RV} {args : List C} {Lin : List TO} {R : List TO → C → Prop} (hf : P.funcs[f]? = some fn) (hfacts : factsOf P A fn = some (sc, A.n, rs, false)) (hlen : Nat.ble args.length A.n = true)
    (h : WfS args → (∀ o ∈ Lin, o.Wf) → evalTC P Pp sc (fun _ _ _ => False) (fun L ρ => retT L ρ rs fun vs => RetT Lin L (resT vs) R) (fun L ρ => retT L ρ rs fun vs => RetT Lin L (resT vs) R) (tinp Lin) (argT 0 args)) : CallsTX P f args Lin R Pp := by
  unfold factsOf at hfacts
  split at hfacts
  case h_2 => cases hfacts
  rename_i c hb
  split at hfacts
  case h_2 => cases hfacts
  rename_i sc' rs' hlow hres
  injection hfacts with hfacts
  injection hfacts with e1 e2
  injection e2 with e2 e3
  injection e3 with e3 hname
  subst e1 e3
  refine ⟨fun F Li vs hl htl ha => ⟨⟨fn, hf, by rw [hb]; rfl, hname⟩, ResA.mono', fun w hs => ?_⟩⟩
  refine calls_of_wp hf hb ?_
  have hwo : ∀ o ∈ Lin, o.Wf := by
    intro o ho
    obtain ⟨i, hi⟩ := List.mem_iff_getElem?.1 ho
    have := htl (1000 + i)
    rw [tinp_get, inp_get, if_pos (by omega), if_pos (by omega), show 1000 + i - 1000 = i by omega, hi] at this
    cases e : Li[i]? with
    | none => rw [e] at this; exact this.elim
    | some p => rw [e] at this; exact RelO.wf this
  have h := h ha.wf hwo
  have hla := ha.len
  have hlen := Nat.le_of_ble_eq_true hlen
  -- the frame
  have key : ∀ j, ∃ sv, RelV F (inp Li) (argT 0 args j) sv ∧ conc (inp Li) sv = (vs.toArray ++ Array.replicate (fn.ntmps - vs.toArray.size) undef).getD j undef ∧ (∀ k off, sv = .own k off → ∃ g t cs, (inp Li).get k = some (.box g t cs)) ∧ (∀ ad i, sv = .el ad i → ad ≠ none) := by
    intro j
    rw [argT_get]
    simp only [Nat.zero_le, if_true, Nat.sub_zero, Array.getD_eq_getD_getElem?]
    cases e : args[j]? with
    | some c =>
      have hlt : j < vs.length := by rw [hla]; exact (List.getElem?_eq_some_iff.1 e).1
      obtain ⟨s1, s2, s3, s4⟩ := svOf_ok (ha.at e (List.getElem?_eq_getElem hlt))
      refine ⟨_, s1, ?_, s3, fun ad i e => absurd e (s4 ad i)⟩
      rw [s2, Array.getElem?_append_left (by simpa using hlt)]
      simp [hlt]
    | none =>
      have hge : vs.length ≤ j := by rw [hla]; exact List.getElem?_eq_none_iff.1 e
      refine ⟨.v undef, relV_und, ?_, fun _ _ e => (by cases e), fun _ _ e => (by cases e)⟩
      rw [Array.getElem?_append_right (by simpa using hge)]
      simp only [Array.getElem?_replicate, conc]
      split <;> rfl
  let ρ0 : Env := fun j => (key j).choose
  have he : EnvOk (inp Li) ρ0 { tmps := vs.toArray ++ Array.replicate (fn.ntmps - vs.toArray.size) undef, defers := [] } :=
    ⟨fun t => (key t).choose_spec.2.1.symm, fun t k off e => (key t).choose_spec.2.2.1 k off e, fun t ad j e => (key t).choose_spec.2.2.2 ad j e⟩
  let G : Nat → Option (Nat × TypeId) := fun k => match (inp Li).get k with | some (.box g t _) => some (g, t) | _ => none
  have hG1 : ∀ k g t cs, (inp Li).get k = some (.box g t cs) → G k = some (g, t) := fun k g t cs e => by simp only [G, e]
  have hkp : Kp G (inp Li) := by
    intro k g t e
    simp only [G] at e
    split at e
    · rename_i g' t' cs h
      injection e with e
      injection e with e1 e2
      subst e1 e2
      exact ⟨cs, h⟩
    · cases e
  have ht : TS G F (inp Li) ρ0 (tinp Lin) (argT 0 args) := ⟨htl, fun j => (key j).choose_spec.1, hkp⟩
  refine wp_mono (evalTC_sound c hlow hs he ht (by simp [e2]; omega) h) ?_
  intro e a' w' hq
  have fin : ∀ {a0 : Act}, a0.defers = [] → Next2 A.n F (inp Li) w a0 (asgOf c) (Both G (fun L ρ => retT L ρ rs' fun vs => RetT Lin L (resT vs) R)) a' w' → a'.defers = [] ∧ ∃ v, (results fn a'.tmps).run P w' = .ok v w' ∧
      ∃ v' F' Lo, Ending.returned v = .returned v' ∧ St F' (inp Lo) w' ∧ Step F (inp Li) w F' (inp Lo) w' ∧ ResA Li R F' Lo v' := by
    rintro a0 hd0 ⟨F', L', ρ', g1, g2, g3, g4, g5, g6, M', τ', g7, hret⟩
    rw [hd0] at g4
    obtain ⟨us, hm, cs, hcs, ⟨fz, ko, hK⟩⟩ := retV_run g1 g2 hres (ret_sound g7 hret)
    have ht2 : TS G F' L' ρ' M' (fun _ => .any) := ⟨g7.tl, fun _ => trivial, g7.kp⟩
    obtain ⟨F2, L2, M2, τ2, args2, k1, k2, k3, k4, k5, M3, c2, c3, Mo, q1, q23, q4, q5, q6, q7⟩ := frzK_sound g1 g2 ht2 (by simp only [Rels]; exact ⟨_, [], rfl, res_rel hcs, rfl⟩) hK
    subst q1
    simp only [Rels] at k5
    obtain ⟨v, vs', ev, hv, rfl⟩ := k5
    injection ev with ev _
    subst ev
    have hw3 : ∃ L3, St F2 L3 w' ∧ Step F2 L2 w' F2 L3 w' ∧ RelTL F2 L3 M3 ∧ Rel F2 L3 c3 (resVal us) ∧ ∀ k g t cs, L2.get k = some (.box g t cs) → M3.get k ≠ none → L3.get k = some (.box g t cs) := by
      rcases q23 with ⟨rfl, rfl⟩ | ⟨q2, q3⟩
      · exact ⟨L2, k1, Step.refl _ _ _, k4.tl, hv, fun k g t cs h _ => h⟩
      · obtain ⟨b1, b2⟩ := gives_St k1 k4.tl q2
        refine ⟨_, b1, b2, gives_tl k4.tl q2, leC_rel k4.tl q3 hv, fun k g t cs h hne => ?_⟩
        rw [mkL_get]
        cases e : M3.get k with
        | none => exact absurd e hne
        | some o => simp only [h]
    obtain ⟨L3, b1, b2, htl3, hv3, hbx⟩ := hw3
    obtain ⟨Lo, d1, d2, d3⟩ := tl_sub htl3 q4
    have hno := nodup?_eq q5
    have hk3 : ∀ k g t, G k = some (g, t) → ∃ cs, (M3.get k ≠ none → L3.get k = some (.box g t cs)) := by
      intro k g t e
      obtain ⟨cs, h⟩ := k4.kp k g t e
      exact ⟨cs, fun hne => hbx _ _ _ _ h hne⟩
    refine ⟨g4, resVal us, ?_, resVal us, F2, Lo, rfl, b1.handed d1 hno, ?_, Mo.map (TO.mapC (C.ren (toIn ko 1000))), c3.canR.ren (toIn ko 1000), by simp [d2], tl_inp htl3 d2 d1 d3, (canR_rel hv3).ren (inp_sub d1), ?_, q7 (by simp only [WfS]; exact ⟨hv3.wf, trivial⟩)⟩
    · rw [results_eq]
      rw [Array.mapM_eq_mapM_toList]
      simp only [Sem.run_bind, Sem.run_map]
      rw [hm]
      simp only [Result.andThen_ok, Sem.run_pure]
      congr 1
      match us with
      | [] => rfl
      | [t] => rfl
      | t :: u :: r =>
        simp only [resVal]
        rw [dif_neg (by simp)]
    · have hst := (g5.trans k3).trans b2
      obtain ⟨x1, x2⟩ := sub_get d1
      refine ⟨hst.le, hst.os, hst.tape, hst.output, hst.size, hst.same, hst.frz, fun b hb => hst.own b ?_⟩
      obtain ⟨j, p, e, hb⟩ := hb
      rw [inp_get] at e
      split at e
      case isFalse => cases e
      have hlt : j - 1000 < Lo.length := (List.getElem?_eq_some_iff.1 e).1
      have hk : ko[j - 1000]? = some (ko[j - 1000]'(by omega)) := List.getElem?_eq_getElem (by omega)
      exact ⟨_, p, by rw [x2 _ _ hk]; exact e, hb⟩
    · intro i g t cs hi
      have hlt : i < Lin.length := by rw [← hl]; exact (List.getElem?_eq_some_iff.1 hi).1
      have hin : (inp Li).get (1000 + i) = some (.box g t cs) := by rw [inp_get, if_pos (by omega), show 1000 + i - 1000 = i by omega]; exact hi
      have hr := htl (1000 + i)
      rw [tinp_get, if_pos (by omega), show 1000 + i - 1000 = i by omega, hin, List.getElem?_eq_getElem hlt] at hr
      cases hLi : Lin[i] with
      | row => rw [hLi] at hr; exact hr.elim
      | box t' cs' =>
        obtain ⟨k', y1, y2⟩ := boxesAt_eq q6 i t' cs' (by rw [List.getElem?_eq_getElem hlt, hLi])
        rw [List.getElem?_range' hlt] at y1
        injection y1 with y1
        obtain ⟨x1, x2⟩ := sub_get d1
        obtain ⟨z1, z2⟩ := tsub_get q4
        have hlt2 : i < Mo.length := by rw [z1]; exact (List.getElem?_eq_some_iff.1 y2).1
        have hM3 : M3.get k' ≠ none := by rw [z2 i k' y2, List.getElem?_eq_getElem hlt2]; simp
        have hk' : k' = 1000 + i := by omega
        subst hk'
        obtain ⟨cs2, h2⟩ := hk3 _ g t (hG1 _ _ _ _ hin)
        exact ⟨cs2, by rw [← x2 i _ y2]; exact h2 hM3⟩
  cases e with
  | normal => exact (let ⟨h1, v, h2, h3⟩ := fin rfl hq; ⟨h1, v, h2, .inl h3⟩)
  | ret => exact (let ⟨h1, v, h2, h3⟩ := fin rfl hq; ⟨h1, v, h2, .inl h3⟩)
  | exit j => obtain ⟨F', L', ρ', _, _, _, _, _, _, M', τ', _, h⟩ := hq; exact h.elim
  | goto l => exact hq.elim
  | panic c =>
    obtain ⟨v, rfl, F', L', g1, g2, g3, g4, g5, kp, hp⟩ := hq
    obtain ⟨Lo, q1, q2, q3, q4⟩ := panic_back g1 g2 (fun i g t cs hi => kp (1000 + i) g t (hG1 _ g t cs (by rw [inp_get, if_pos (by omega), show 1000 + i - 1000 = i by omega]; exact hi)))
    exact ⟨g4, .inr ⟨v, F', Lo, rfl, q1, q2, q3, q4, hp⟩⟩
  | outgrown => exact hq.elim
theorem CallsTX.noPan {f : Nat} {args : List C} {Lin : List TO} {R : List TO → C → Prop} (h : CallsTX P f args Lin R fun _ => False) : CallsT P f args Lin R :=
  ⟨fun F Li vs h1 h2 h3 => let k := h.out F Li vs h1 h2 h3; ⟨k.ent, k.mono, fun w hs => (k.run w hs).mono fun e w' q => q.elim id fun ⟨_, _, _, _, _, _, _, _, q⟩ => q.elim⟩⟩
theorem callsT_facts {f : FuncId} {fn : Func} {sc : SCode} {A : Ann} {rs : List RV} {args : List C} {Lin : List TO} {R : List TO → C → Prop} (hf : P.funcs[f]? = some fn) (hfacts : factsOf P A fn = some (sc, A.n, rs, false)) (hlen : Nat.ble args.length A.n = true)
    (h : WfS args → (∀ o ∈ Lin, o.Wf) → evalTC P (fun _ => False) sc (fun _ _ _ => False) (fun L ρ => retT L ρ rs fun vs => RetT Lin L (resT vs) R) (fun L ρ => retT L ρ rs fun vs => RetT Lin L (resT vs) R) (tinp Lin) (argT 0 args)) : CallsT P f args Lin R :=
  (callsTX_facts hf hfacts hlen h).noPan
end
end Go.Fr.T

/- What a walk over data uses. -/
set_option linter.unusedVariables false
set_option linter.unusedSimpArgs false
namespace Go.Fr.T
open Go Go.RowKit Go.Fr

section
variable {P : Program} {L : TL} {ρ : TEnv}

/-- a contract that names its result -/
def Ret (Lo : List TO) (x : C) : List TO → C → Prop := fun Mo v => Mo = Lo ∧ v = x
/-- nothing handed over, nothing handed back but a value -/
theorem callP {f : Nat} {args args' : List C} {K : TL → TEnv → C → Prop} {x : C} (h : CallsT P f args' [] (Ret [] x)) (ha : (args.map fun c => c.canA.ren (toIn [] 1000)) = args') (k : Wf x → K L ρ (x.ren (fromIn [])).slt) : CallT P f args L ρ K := by
  subst ha
  exact ⟨[], [], [], L, [], _, .inl rfl, rfl, rfl, rfl, rfl, rfl, h, fun v Mo ⟨e1, e2⟩ hw _ => by subst e1 e2; exact ⟨rfl, k hw⟩⟩
theorem callPD {f : Nat} {args args' : List C} {K : TL → C → Prop} {d : Option Nat} {x : C} (h : CallsT P f args' [] (Ret [] x)) (ha : (args.map fun c => c.canA.ren (toIn [] 1000)) = args') (k : Wf x → K L x.slt) : CallDT P f args L d K := by
  subst ha
  exact .frz _ h fun v Mo ⟨e1, e2⟩ hw => by subst e1 e2; exact ⟨rfl, k hw⟩
/-- own blocks handed over and back -/
theorem callO (ks ko : List Nat) {f : Nat} {args args' : List C} {K : TL → TEnv → C → Prop} {x : C} {Lin Lin' Lo : List TO} (h : CallsT P f args' Lin' (Ret Lo x)) (hs : L.sub ks = some Lin)
    (hc : (nodup? ks && nodup? ko && koOk L ks ko && boxesAt Lin ks ko) = true) (ha : (args.map fun c => c.canA.ren (toIn ks 1000)) = args') (hl : Lin.map (TO.mapC (C.ren (toIn ks 1000))) = Lin') (hn : ko.length = Lo.length)
    (k : Wf x → (∀ o ∈ Lo, o.Wf) → K (((L.dels ks).kills ks).puts ko (Lo.map (TO.mapC (C.ren (fromIn ko))))) (killsE ks ρ) (x.ren (fromIn ko)).slt) : CallT P f args L ρ K := by
  subst ha hl
  simp only [Bool.and_eq_true] at hc
  obtain ⟨⟨⟨c1, c2⟩, c3⟩, c4⟩ := hc
  exact ⟨[], ks, ko, L, Lin, _, .inl rfl, hs, c1, c2, c3, c4, h, fun v Mo ⟨e1, e2⟩ hw hwo => by subst e1 e2; exact ⟨hn, k hw hwo⟩⟩
/-- the same, in a region that draws its order -/
theorem callOD (ks ko : List Nat) {f : Nat} {args args' : List C} {K : TL → TEnv → C → Prop} {x : C} {Lin Lin' Lo : List TO} (h : CallsT P f args' Lin' (Ret Lo x)) (hs : L.sub ks = some Lin)
    (hc : (nodup? ks && nodup? ko && koOk L ks ko && boxesAt Lin ks ko) = true) (ha : (args.map fun c => c.canA.ren (toIn ks 1000)) = args') (hl : Lin.map (TO.mapC (C.ren (toIn ks 1000))) = Lin') (hn : ko.length = Lo.length)
    (k : Wf x → (∀ o ∈ Lo, o.Wf) → K (((L.dels ks).kills ks).puts ko (Lo.map (TO.mapC (C.ren (fromIn ko))))) (killsE ks ρ) (x.ren (fromIn ko)).slt) : CallT0 P f args L ρ K := by
  subst ha hl
  simp only [Bool.and_eq_true] at hc
  obtain ⟨⟨⟨c1, c2⟩, c3⟩, c4⟩ := hc
  exact ⟨ks, ko, Lin, _, hs, c1, c2, c3, c4, h, fun v Mo ⟨e1, e2⟩ hw hwo => by subst e1 e2; exact ⟨hn, k hw hwo⟩⟩
/-- the same, where rows are had for nothing -/
theorem callG (L1 : TL) (ks ko : List Nat) {f : Nat} {args args' : List C} {K : TL → TEnv → C → Prop} {x : C} {Lin Lin' Lo : List TO} (h : CallsT P f args' Lin' (Ret Lo x)) (hg : gives L L1 L1) (hs : L1.sub ks = some Lin)
    (hc : (covers L L1 && nodup? ks && nodup? ko && koOk L1 ks ko && boxesAt Lin ks ko) = true) (ha : (args.map fun c => c.canA.ren (toIn ks 1000)) = args') (hl : Lin.map (TO.mapC (C.ren (toIn ks 1000))) = Lin') (hn : ko.length = Lo.length)
    (k : Wf x → (∀ o ∈ Lo, o.Wf) → K (((L1.dels ks).kills ks).puts ko (Lo.map (TO.mapC (C.ren (fromIn ko))))) (killsE ks ρ) (x.ren (fromIn ko)).slt) : CallT P f args L ρ K := by
  subst ha hl
  simp only [Bool.and_eq_true] at hc
  obtain ⟨⟨⟨⟨c0, c1⟩, c2⟩, c3⟩, c4⟩ := hc
  exact ⟨[], ks, ko, L1, Lin, _, .inr ⟨hg, c0⟩, hs, c1, c2, c3, c4, h, fun v Mo ⟨e1, e2⟩ hw hwo => by subst e1 e2; exact ⟨hn, k hw hwo⟩⟩
/-- the same, where rows are given up -/
theorem callF (fz ks ko : List Nat) {f : Nat} {args args' : List C} {K : TL → TEnv → C → Prop} {x : C} {Lo Lin' : List TO} (h : CallsT P f args' Lin' (Ret Lo x))
    (hf : frzK fz L ρ args fun L ρ args => ∃ Lin, L.sub ks = some Lin ∧ (nodup? ks && nodup? ko && koOk L ks ko && boxesAt Lin ks ko) = true ∧ (args.map fun c => c.canA.ren (toIn ks 1000)) = args' ∧ Lin.map (TO.mapC (C.ren (toIn ks 1000))) = Lin' ∧ ko.length = Lo.length ∧
      (Wf x → (∀ o ∈ Lo, o.Wf) → K (((L.dels ks).kills ks).puts ko (Lo.map (TO.mapC (C.ren (fromIn ko))))) (killsE ks ρ) (x.ren (fromIn ko)).slt)) : CallT P f args L ρ K := by
  refine ⟨fz, ks, ko, ?_⟩
  refine frzK_imp hf ?_
  rintro L ρ args ⟨Lin, hs, hc, rfl, rfl, hn, k⟩
  simp only [Bool.and_eq_true] at hc
  obtain ⟨⟨⟨c1, c2⟩, c3⟩, c4⟩ := hc
  exact ⟨L, Lin, _, .inl rfl, hs, c1, c2, c3, c4, h, fun v Mo ⟨e1, e2⟩ hw hwo => by subst e1 e2; exact ⟨hn, k hw hwo⟩⟩
where
  frzK_imp : ∀ {fz : List Nat} {L : TL} {ρ : TEnv} {args : List C} {K K' : TL → TEnv → List C → Prop}, frzK fz L ρ args K → (∀ L ρ args, K L ρ args → K' L ρ args) → frzK fz L ρ args K'
    | [], L, ρ, args, K, K', h, hk => hk _ _ _ h
    | k :: fz, L, ρ, args, K, K', h, hk => by
      simp only [frzK] at h ⊢
      generalize L.get k = z at h ⊢
      split at h
      · exact frzK_imp h hk
      · exact h.elim
/-- a value alone is handed back -/
theorem retP {Lin : List TO} {v x : C} (hb : boxesAt Lin (List.range' 1000 Lin.length) [] = true) (e : v.canR.ren (toIn [] 1000) = x) : RetT Lin L v (Ret [] x) :=
  ⟨[], [], L, v, v, [], rfl, .inl ⟨rfl, rfl⟩, rfl, rfl, hb, fun _ => ⟨rfl, e⟩⟩
theorem retO (ko : List Nat) {Lin Mo Lo : List TO} {v x : C} (hs : L.sub ko = some Mo) (hc : (nodup? ko && boxesAt Lin (List.range' 1000 Lin.length) ko) = true) (hl : Mo.map (TO.mapC (C.ren (toIn ko 1000))) = Lo) (e : v.canR.ren (toIn ko 1000) = x) : RetT Lin L v (Ret Lo x) := by
  simp only [Bool.and_eq_true] at hc
  exact ⟨[], ko, L, v, v, Mo, rfl, .inl ⟨rfl, rfl⟩, hs, hc.1, hc.2, fun _ => ⟨hl, e⟩⟩
/-- nil is handed back as an empty row -/
theorem retN (k t sz : Nat) {Lin : List TO} (hn : L = []) (hb : boxesAt Lin (List.range' 1000 Lin.length) [k] = true) : RetT Lin L .nils (Ret [.row t sz []] (.rw 1000)) := by
  subst hn
  have hk : Nat.beq k k = true := by simp
  refine ⟨[], [k], [(k, .row t sz [])], .nils, .rw k, [.row t sz []], rfl, .inr ⟨⟨.inr ⟨rfl, t, sz, rfl⟩, trivial⟩, .inr (.inr (.inr (.inl ⟨rfl, k, t, sz, rfl, rfl, ?_⟩)))⟩, ?_, rfl, hb, fun _ => ⟨rfl, ?_⟩⟩
  · simp only [TL.get, hk]
  · simp only [TL.sub, TL.get, hk]
  · simp only [C.canR, C.ren, C.mp, renLeaf, toIn, hk]
/-- rows are given up on the way back -/
theorem retF (fz ko : List Nat) {Lin Lo : List TO} {v x : C} (hf : frzK fz L (fun _ => .any) [v] fun L _ vs => ∃ c Mo, vs = [c] ∧ L.sub ko = some Mo ∧ (nodup? ko && boxesAt Lin (List.range' 1000 Lin.length) ko) = true ∧ Mo.map (TO.mapC (C.ren (toIn ko 1000))) = Lo ∧ c.canR.ren (toIn ko 1000) = x) : RetT Lin L v (Ret Lo x) := by
  refine ⟨fz, ko, ?_⟩
  refine callF.frzK_imp hf ?_
  rintro L ρ vs ⟨c, Mo, rfl, hs, hc, hl, e⟩
  simp only [Bool.and_eq_true] at hc
  exact ⟨L, c, c, Mo, rfl, .inl ⟨rfl, rfl⟩, hs, hc.1, hc.2, fun _ => ⟨hl, e⟩⟩

/-- a loop that counts up to a bound: slot ki the counter, the others as the state says -/
theorem loopN {β : Type} {body : TL → TEnv → TK → Prop} {asg : List Nat} (n : Nat) (ki : Nat) (ls : List Nat) (s0 : β) (lv : β → List C) (Lf : β → TL) (Inv : Nat → β → Prop) (h0 : Inv 0 s0) (hk : leC L (Lf s0) (ρ ki) (.int .i64 0)) (hh : holdsT L (Lf s0) ls (lv s0) ρ)
    (hg : gives L (Lf s0) (Lf s0)) (hb : ∀ s, keepsT L (Lf s) = true) (hl : ∀ s, (lv s).length = ls.length)
    (h : ∀ (k : Nat) s, k ≤ n → Inv k s → WfS (lv s) → (∀ j o, (Lf s).get j = some o → o.Wf) → (k : Int) ≤ 9223372036854775807 → body (Lf s) (putsT (ki :: ls) (.int .i64 k :: lv s) (headE asg ρ)) fun L' ρ' =>
      ∃ x' : Nat × β, (x'.1 ≤ n ∧ Inv x'.1 x'.2) ∧ holdsT L' (Lf x'.2) (ki :: ls) (.int .i64 x'.1 :: lv x'.2) ρ' ∧ gives L' (Lf x'.2) (Lf x'.2) ∧ n - x'.1 < n - k) : LoopT body asg L ρ := by
  refine ⟨Nat × β, (0, s0), fun x => x.1 ≤ n ∧ Inv x.1 x.2, ki :: ls, fun x => .int .i64 x.1 :: lv x.2, fun x => Lf x.2, fun x => n - x.1, ⟨Nat.zero_le _, h0⟩, ⟨hk, hh⟩, hg, fun x => hb x.2, fun x => by simp [hl], ?_⟩
  rintro ⟨k, s⟩ ⟨hkn, hi⟩ hw hwo
  simp only [WfS, Wf] at hw
  exact h k s hkn hi hw.2 hwo (wf_i64 hw.1).2
theorem nextI {L1 : TL} {k : Nat} : leC L L1 (.int .i64 ((k : Int) + 1)) (.int .i64 ((k + 1 : Nat) : Int)) := .inr (.inl ⟨rfl, rfl⟩)
theorem nextM {n k : Nat} (h : k < n) : n - (k + 1) < n - k := by omega
theorem wf_len {els : List (List C)} (h : Wf (.sl els)) : els.length ≤ 9223372036854775807 := by simp only [Wf, maxLen] at h; omega
theorem wf_lenM {α : Type} {f : α → List C} {l : List α} (h : Wf (.sl (l.map f))) : l.length ≤ 9223372036854775807 := by have := wf_len h; simpa using this
theorem wf_lenB {bs : List UInt8} (h : Wf (.sl (bcells bs))) : bs.length ≤ 9223372036854775807 := wf_lenM h
/-- an element of a slice is read -/
theorem idxT {α : Type} {f : α → List C} {l : List α} {k sz : Nat} {x : α} {es : List C} {K : List C → Prop} (hx : l[k]? = some x) (he : f x = es) (hl : lenC? es sz = true) (h : K es) : IdxT (l.map f) (k : Int) sz K :=
  ⟨es, by omega, by simp [hx, he], hl, h⟩
theorem idxB {bs : List UInt8} {k : Nat} {x : UInt8} {K : List C → Prop} (hx : bs[k]? = some x) (h : K [bcell x]) : IdxT (bcells bs) (k : Int) 1 K :=
  ⟨[bcell x], by omega, by simp [bcells, hx], rfl, h⟩
theorem WfSS_iff : ∀ {l : List (List C)}, WfSS l ↔ ∀ es ∈ l, WfS es
  | [] => by simp [WfSS]
  | es :: l => by simp [WfSS, WfSS_iff]
theorem WfS_iff : ∀ {l : List C}, WfS l ↔ ∀ c ∈ l, Wf c
  | [] => by simp [WfS]
  | c :: l => by simp [WfS, WfS_iff]
/-- a part of a list of numbers goes on -/
theorem same_keys {L1 : TL} {c : C} (h : hasKeysA L1 3 c = true) : leC L L1 c c := .inr (.inl ⟨rfl, h⟩)
theorem drop_cons {α : Type} {l : List α} {k : Nat} (h : k < l.length) : ∃ x, l[k]? = some x ∧ l.drop k = x :: l.drop (k + 1) := ⟨l[k], by simp [h], List.drop_eq_getElem_cons h⟩
theorem drop_end {α : Type} {l : List α} {k : Nat} (h : ¬ k < l.length) : l.drop k = [] := List.drop_eq_nil_iff.2 (by omega)
/-- calls that may panic -/
theorem callX {PS Pp : Value → Prop} {f : Nat} {args args' : List C} {K : TL → TEnv → C → Prop} {x : C} (h : CallsTX P f args' [] (Ret [] x) Pp) (ha : (args.map fun c => c.canA.ren (toIn [] 1000)) = args') (hp : ∀ v, Pp v → PS v) (k : Wf x → K L ρ (x.ren (fromIn [])).slt) : CallXT P PS f args L ρ K := by
  subst ha
  exact ⟨[], [], [], L, [], _, _, .inl rfl, rfl, rfl, rfl, rfl, rfl, h, hp, fun v Mo ⟨e1, e2⟩ hw _ => by subst e1 e2; exact ⟨rfl, k hw⟩⟩
theorem callXO (ks ko : List Nat) {PS Pp : Value → Prop} {f : Nat} {args args' : List C} {K : TL → TEnv → C → Prop} {x : C} {Lin Lin' Lo : List TO} (h : CallsTX P f args' Lin' (Ret Lo x) Pp) (hs : L.sub ks = some Lin)
    (hc : (nodup? ks && nodup? ko && koOk L ks ko && boxesAt Lin ks ko) = true) (ha : (args.map fun c => c.canA.ren (toIn ks 1000)) = args') (hl : Lin.map (TO.mapC (C.ren (toIn ks 1000))) = Lin') (hn : ko.length = Lo.length) (hp : ∀ v, Pp v → PS v)
    (k : Wf x → (∀ o ∈ Lo, o.Wf) → K (((L.dels ks).kills ks).puts ko (Lo.map (TO.mapC (C.ren (fromIn ko))))) (killsE ks ρ) (x.ren (fromIn ko)).slt) : CallXT P PS f args L ρ K := by
  subst ha hl
  simp only [Bool.and_eq_true] at hc
  obtain ⟨⟨⟨c1, c2⟩, c3⟩, c4⟩ := hc
  exact ⟨[], ks, ko, L, Lin, _, _, .inl rfl, hs, c1, c2, c3, c4, h, hp, fun v Mo ⟨e1, e2⟩ hw hwo => by subst e1 e2; exact ⟨hn, k hw hwo⟩⟩
theorem callXG (L1 : TL) (ks ko : List Nat) {PS Pp : Value → Prop} {f : Nat} {args args' : List C} {K : TL → TEnv → C → Prop} {x : C} {Lin Lin' Lo : List TO} (h : CallsTX P f args' Lin' (Ret Lo x) Pp) (hg : gives L L1 L1) (hs : L1.sub ks = some Lin)
    (hc : (covers L L1 && nodup? ks && nodup? ko && koOk L1 ks ko && boxesAt Lin ks ko) = true) (ha : (args.map fun c => c.canA.ren (toIn ks 1000)) = args') (hl : Lin.map (TO.mapC (C.ren (toIn ks 1000))) = Lin') (hn : ko.length = Lo.length) (hp : ∀ v, Pp v → PS v)
    (k : Wf x → (∀ o ∈ Lo, o.Wf) → K (((L1.dels ks).kills ks).puts ko (Lo.map (TO.mapC (C.ren (fromIn ko))))) (killsE ks ρ) (x.ren (fromIn ko)).slt) : CallXT P PS f args L ρ K := by
  subst ha hl
  simp only [Bool.and_eq_true] at hc
  obtain ⟨⟨⟨⟨c0, c1⟩, c2⟩, c3⟩, c4⟩ := hc
  exact ⟨[], ks, ko, L1, Lin, _, _, .inr ⟨hg, c0⟩, hs, c1, c2, c3, c4, h, hp, fun v Mo ⟨e1, e2⟩ hw hwo => by subst e1 e2; exact ⟨hn, k hw hwo⟩⟩
/-- a call that surely panics -/
theorem callXN {PS Pp : Value → Prop} {f : Nat} {args args' : List C} {K : TL → TEnv → C → Prop} (h : CallsTX P f args' [] (fun _ _ => False) Pp) (ha : (args.map fun c => c.canA.ren (toIn [] 1000)) = args') (hp : ∀ v, Pp v → PS v) : CallXT P PS f args L ρ K := by
  subst ha
  exact ⟨[], [], [], L, [], _, _, .inl rfl, rfl, rfl, rfl, rfl, rfl, h, hp, fun v Mo e => e.elim⟩
theorem panT {PS : Value → Prop} {c : C} {v : Value} (hv : ifcV c = some v) (h : PS v) : PanT PS c := ⟨v, hv, h⟩
end
end Go.Fr.T

/- From the reading of an argument to data in frozen memory. -/
set_option linter.unusedVariables false
set_option linter.unusedSimpArgs false
namespace Go.Fr
open Go Go.RowKit

mutual
def G.bulk : G → Nat
  | .int _ _ => 1
  | .bool _ => 1
  | .str s => s.size + 1
  | .sl _ l => G.bulkAll l + 1
  | .st l => G.bulkAll l + 1
def G.bulkAll : List G → Nat
  | [] => 0
  | x :: l => G.bulk x + G.bulkAll l
end
mutual
def bulkD {H : Type} : DataW H → Nat
  | .lit (.string bytes) => bytes.length + 1
  | .lit _ => 1
  | .nil => 1
  | .ptr d => bulkD d + 1
  | .slice elems spare => bulkDAll elems + bulkDAll spare + 1
  | .agg parts => bulkDAll parts + 1
  | .iface _ d => bulkD d + 1
  | .map entries => bulkDEntries entries + 1
  | .held _ => 1
def bulkDAll {H : Type} : List (DataW H) → Nat
  | [] => 0
  | d :: r => bulkD d + bulkDAll r
def bulkDEntries {H : Type} : List (Lit × DataW H) → Nat
  | [] => 0
  | x :: r => bulkDEntry x + bulkDEntries r
def bulkDEntry {H : Type} : Lit × DataW H → Nat
  | (.string bytes, d) => bytes.length + bulkD d + 1
  | (_, d) => bulkD d + 1
end

/-- of a type -/
def Ok (P : Program) : Nat → TypeId → G → Prop
  | 0, _, _ => False
  | n + 1, t, g => match P.underlying t with
    | some .bool => ∃ b, g = .bool b
    | some (.int k) => ∃ x, g = .int k x ∧ (Lit.int k x).wf = true
    | some .string => ∃ s, g = .str s
    | some (.slice e) => ∃ l, g = .sl (P.cellsOf e) l ∧ ∀ x ∈ l, Ok P n e x
    | some (.struct fs) => ∃ l, g = .st l ∧ l.length = fs.size ∧ ∀ (i : Nat) (f : Field) (x : G), fs[i]? = some f → l[i]? = some x → Ok P n f.type x
    | _ => False

def contig (P : Program) : Nat → List Field → Nat → Bool
  | o, [], n => Nat.beq o n
  | o, f :: fs, n => Nat.beq f.offset o && contig P (o + P.cellsOf f.type) fs n
def flatT (P : Program) (S : List TypeId) (t : TypeId) : Bool :=
  match P.underlying t with
  | some .bool => true
  | some (.int _) => true
  | some .string => true
  | some (.slice e) => mem? S e && Nat.blt 0 (P.cellsOf e)
  | some (.struct fs) => contig P 0 fs.toList (P.cellsOf t) && fs.toList.all fun f => mem? S f.type
  | _ => false
def flat (P : Program) (S : List TypeId) : Bool := S.all (flatT P S)

theorem choose_list {Q : Nat → G → Prop} : ∀ (n : Nat), (∀ i, i < n → ∃ g, Q i g) → ∃ l : List G, l.length = n ∧ ∀ i g, l[i]? = some g → Q i g
  | 0, _ => ⟨[], rfl, fun i g h => by simp at h⟩
  | n + 1, h => by
    obtain ⟨l, h1, h2⟩ := choose_list n (fun i hi => h i (by omega))
    obtain ⟨g, hg⟩ := h n (by omega)
    refine ⟨l ++ [g], by simp [h1], fun i x hx => ?_⟩
    by_cases hi : i < l.length
    · rw [List.getElem?_append_left hi] at hx; exact h2 i x hx
    · rw [List.getElem?_append_right (by omega)] at hx
      have : i - l.length = 0 := by
        cases e : i - l.length with
        | zero => rfl
        | succ k => rw [e] at hx; simp at hx
      rw [this] at hx
      simp only [List.getElem?_cons_zero, Option.some.injEq] at hx
      subst hx
      have : i = n := by omega
      subst this
      exact hg
theorem bulkAll_le {H : Type} : ∀ {l : List G} {ds : List (DataW H)}, l.length = ds.length → (∀ (i : Nat) g d, l[i]? = some g → ds[i]? = some d → g.bulk ≤ bulkD d) → G.bulkAll l ≤ bulkDAll ds
  | [], _, _, _ => by simp [G.bulkAll]
  | x :: l, [], h, _ => by simp at h
  | x :: l, d :: ds, h, hb => by
    simp only [G.bulkAll, bulkDAll]
    have h1 := hb 0 x d (by simp) (by simp)
    have h2 := bulkAll_le (l := l) (ds := ds) (by simpa using h) (fun i g d' hg hd => hb (i + 1) g d' (by simpa using hg) (by simpa using hd))
    omega

section
variable {H : Type} {enc : TypeId × Value → H} {P : Program} {w : World} {base : Nat} {spare : Nat → Bool} {held : Bool}

/-- the heap as it stands -/
def frzOf (w : World) : Frz := fun b => w.heap[b]?

theorem fcells_of {a : Addr} {n : Nat} {cs : List Value} (h : w.cells? base a n = some cs) (hn : 0 < n) : cs.length = n ∧ FCells (frzOf w) (some a) 0 cs := by
  obtain ⟨_, hlen, hc⟩ := World.cells?_some h
  refine ⟨hlen, ?_⟩
  have h0 := hc 0 hn
  rw [List.getElem?_eq_getElem (by omega)] at h0
  have hspot : a.spot = none := by simpa [Addr.add] using World.cell?_spot h0
  have hblk : ∃ arr t fr, w.heap[a.block]? = some (.cells arr t fr) := by
    simp only [World.cell?, Addr.add] at h0
    split at h0
    · rename_i c t fr e; exact ⟨c, t, fr, e⟩
    · cases h0
  obtain ⟨arr, t, fr, hb⟩ := hblk
  refine ⟨a, arr, t, fr, rfl, hb, hspot, fun i v hv => ?_⟩
  have hi : i < n := by rw [← hlen]; exact (List.getElem?_eq_some_iff.1 hv).1
  have := hc i hi
  obtain ⟨b, o, sp⟩ := a
  simp only at hspot
  subst hspot
  rw [hv, add_none] at this
  simp only [World.cell?] at this
  simp only at hb
  rw [hb] at this
  simpa using this
theorem fcells_shift {F : Frz} {a : Addr} {n : Nat} {cs : List Value} (hs : a.spot = none) (h : FCells F (some (a.add n)) 0 cs) : FCells F (some a) n cs := by
  obtain ⟨b, o, sp⟩ := a
  simp only at hs
  subst hs
  rw [add_none] at h
  obtain ⟨ad, arr, t, fr, e, hb, hsp, hc⟩ := h
  injection e with e
  subst e
  exact ⟨_, arr, t, fr, rfl, hb, rfl, fun i v hv => by have := hc i v hv; simpa [Nat.add_assoc] using this⟩
theorem fcells_spot {F : Frz} {a : Addr} {cs : List Value} (h : FCells F (some a) 0 cs) : a.spot = none := by
  obtain ⟨ad, arr, t, fr, e, hb, hsp, hc⟩ := h
  injection e with e
  subst e
  exact hsp

theorem trod_rd {S : List TypeId} (hS : flat P S = true) : ∀ (fuel : Nat) (t : TypeId) (cs : List Value) (x : DataW H × List MemPlace), t ∈ S → DataW.trod enc P w base spare held fuel t cs = some x →
    ∃ g, Ok P fuel t g ∧ Rd (frzOf w) g cs ∧ g.bulk ≤ bulkD x.1 := by
  intro fuel
  induction fuel with
  | zero => intro t cs x _ h; simp [DataW.trod] at h
  | succ n ih =>
    intro t cs x ht h
    have hf := List.all_eq_true.1 hS t ht
    simp only [flatT] at hf
    split at hf
    · rename_i hu
      obtain ⟨b, rfl, rfl⟩ := DataW.trod_bool hu h
      exact ⟨.bool b, by simp [Ok, hu], by simp [Rd], by simp [G.bulk, bulkD]⟩
    · rename_i k hu
      obtain ⟨m, rfl, rfl, hw⟩ := DataW.trod_int hu h
      exact ⟨.int k m, by simp [Ok, hu, hw], by simp [Rd, hw], by simp [G.bulk, bulkD]⟩
    · rename_i hu
      obtain ⟨s, rfl, rfl, hw⟩ := DataW.trod_string hu h
      exact ⟨.str s, by simp [Ok, hu], by simp [Rd], by simp [G.bulk, bulkD]⟩
    · rename_i e hu
      simp only [Bool.and_eq_true] at hf
      have he : e ∈ S := mem?_eq.1 hf.1
      have hpos : 0 < P.cellsOf e := by simpa using hf.2
      rcases DataW.trod_slice hu h with ⟨rfl, rfl⟩ | ⟨a, len, cap, elems, rest, m, e1, rfl, rfl, hb, hl, hm, hlen, hel, _, _⟩
      · refine ⟨.sl (P.cellsOf e) [], by simp [Ok, hu], ?_, by simp [G.bulk, G.bulkAll, bulkD]⟩
        rw [Rd_sl]
        exact ⟨none, 0, rfl, by simp, by simp, fun _ => ⟨rfl, rfl⟩, fun j x hx => by simp at hx⟩
      · obtain rfl : m = n := by omega
        have hspot : 0 < len → a.spot = none := by
          intro h0
          have h1 := hel 0 h0
          rw [List.getElem?_eq_getElem (by omega)] at h1
          obtain ⟨es, h2, h3⟩ := Option.bind_eq_some_iff.1 h1
          have := fcells_spot (fcells_of h2 hpos).2
          simpa [Addr.add] using this
        obtain ⟨l, hl1, hl2⟩ := choose_list (Q := fun i g => Ok P m e g ∧ (∃ es, es.length = P.cellsOf e ∧ FCells (frzOf w) (some a) (i * P.cellsOf e) es ∧ Rd (frzOf w) g es) ∧ ∀ y, elems[i]? = some y → g.bulk ≤ bulkD y.1) len (by
          intro i hi
          have h1 := hel i hi
          rw [List.getElem?_eq_getElem (by omega)] at h1
          obtain ⟨es, h2, h3⟩ := Option.bind_eq_some_iff.1 h1
          obtain ⟨g, g1, g2, g3⟩ := ih e es _ he h3
          obtain ⟨g4, g5⟩ := fcells_of h2 hpos
          refine ⟨g, g1, ⟨es, g4, fcells_shift (hspot (by omega)) g5, g2⟩, fun y hy => ?_⟩
          rw [List.getElem?_eq_getElem (by omega)] at hy
          injection hy with hy
          subst hy
          exact g3)
        refine ⟨.sl (P.cellsOf e) l, ?_, ?_, ?_⟩
        · simp only [Ok, hu]
          refine ⟨l, rfl, fun x hx => ?_⟩
          obtain ⟨i, hi⟩ := List.mem_iff_getElem?.1 hx
          exact (hl2 i x hi).1
        · rw [Rd_sl]
          exact ⟨some a, cap, by rw [hl1], by omega, hm, fun e => (by cases e), fun j x hx => (hl2 j x hx).2.1⟩
        · simp only [G.bulk, bulkD]
          have := bulkAll_le (l := l) (ds := elems.map (·.1)) (by simp [hl1, hlen]) (fun i g d hg hd => by
            simp only [List.getElem?_map, Option.map_eq_some_iff] at hd
            obtain ⟨y, hy, rfl⟩ := hd
            exact (hl2 i g hg).2.2 y hy)
          omega
    · rename_i fs hu
      simp only [Bool.and_eq_true] at hf
      obtain ⟨hcont, hall⟩ := hf
      obtain ⟨xs, m, e1, rfl, hlen, hxl, hfs⟩ := DataW.trod_struct hu h
      obtain rfl : m = n := by omega
      have key : ∀ (fl : List Field) (ys : List (DataW H × List MemPlace)) (o : Nat), contig P o fl (P.cellsOf t) = true → ys.length = fl.length → (∀ f ∈ fl, f.type ∈ S) →
          (∀ (i : Nat) f, fl[i]? = some f → DataW.trod enc P w base spare held m f.type ((cs.drop f.offset).take (P.cellsOf f.type)) = ys[i]?) →
          ∃ l, l.length = fl.length ∧ (∀ (i : Nat) f g, fl[i]? = some f → l[i]? = some g → Ok P m f.type g) ∧ RdAll (frzOf w) l (cs.drop o) ∧ G.bulkAll l ≤ bulkDAll (ys.map (·.1)) := by
        intro fl
        induction fl with
        | nil =>
          intro ys o hc _ _ _
          simp only [contig] at hc
          have := Nat.eq_of_beq_eq_true hc
          refine ⟨[], rfl, fun i f g h => by simp at h, ?_, by simp [G.bulkAll]⟩
          simp only [RdAll]
          rw [List.drop_eq_nil_iff]; omega
        | cons f fl ihf =>
          intro ys o hc hy hmem hfs
          simp only [contig, Bool.and_eq_true] at hc
          have hoff := Nat.eq_of_beq_eq_true hc.1
          match ys, hy with
          | y :: ys, hy =>
            have h0 := hfs 0 f (by simp)
            simp only [List.getElem?_cons_zero] at h0
            obtain ⟨g, g1, g2, g3⟩ := ih f.type _ _ (hmem f (by simp)) h0
            obtain ⟨l, l1, l2, l3, l4⟩ := ihf ys (o + P.cellsOf f.type) hc.2 (by simpa using hy) (fun f' hf' => hmem f' (by simp [hf'])) (fun i f' hf' => by
              have := hfs (i + 1) f' (by simpa using hf')
              simpa using this)
            refine ⟨g :: l, by simp [l1], fun i f' g' hf' hg' => ?_, ?_, ?_⟩
            · cases i with
              | zero => simp only [List.getElem?_cons_zero, Option.some.injEq] at hf' hg'; subst hf'; subst hg'; exact g1
              | succ i => exact l2 i f' g' (by simpa using hf') (by simpa using hg')
            · simp only [RdAll]
              refine ⟨(cs.drop o).take (P.cellsOf f.type), cs.drop (o + P.cellsOf f.type), ?_, by rw [← hoff]; exact g2, l3⟩
              rw [← List.drop_drop, List.take_append_drop]
            · simp only [G.bulkAll, List.map_cons, bulkDAll]; omega
      obtain ⟨l, l1, l2, l3, l4⟩ := key fs.toList xs 0 hcont (by simp [hxl]) (fun f hf => mem?_eq.1 (List.all_eq_true.1 hall f hf)) (fun i f hi => hfs i f (by simpa using hi))
      refine ⟨.st l, ?_, ?_, ?_⟩
      · simp only [Ok, hu]
        exact ⟨l, rfl, by simpa using l1, fun i f x hi hx => l2 i f x (by simpa using hi) hx⟩
      · simp only [Rd]; simpa using l3
      · simp only [G.bulk, bulkD]; omega
    · cases hf
end
end Go.Fr

/- The records of the program's package of types, as data of Lean, and as cells. -/
set_option linter.unusedVariables false
set_option linter.unusedSimpArgs false
namespace Go.Fr
open Go Go.RowKit
namespace Api

abbrev I (n : Int) : G := .int .i64 n
inductive Ty where
  | mk (kind id : Int) (args : List Ty)
  deriving Inhabited
def Ty.kind : Ty → Int | .mk k _ _ => k
def Ty.id : Ty → Int | .mk _ i _ => i
def Ty.args : Ty → List Ty | .mk _ _ l => l
mutual
def Ty.g : Ty → G
  | .mk k i l => .st [I k, I i, .sl 3 (Ty.gs l)]
def Ty.gs : List Ty → List G
  | [] => []
  | t :: l => t.g :: Ty.gs l
end
theorem Ty.gs_map : ∀ l : List Ty, Ty.gs l = l.map Ty.g
  | [] => rfl
  | t :: l => by simp [Ty.gs, Ty.gs_map l]
structure Bound where
  param : Int
  trait : Int
def Bound.g (b : Bound) : G := .st [I b.param, I b.trait]
structure Term where
  kind : Int
  a : Int
  targets : List Int
def Term.g (x : Term) : G := .st [I x.kind, I x.a, .sl 1 (x.targets.map I)]
structure Ins where
  op : Int
  dst : Int
  a : Int
  b : Int
  n : Int
  args : List Int
  types : List Ty
def Ins.g (x : Ins) : G := .st [I x.op, I x.dst, I x.a, I x.b, I x.n, .sl 1 (x.args.map I), .sl 3 (x.types.map Ty.g)]
structure Block where
  code : List Ins
  fin : Term
def Block.g (x : Block) : G := .st [.sl 7 (x.code.map Ins.g), x.fin.g]
structure Fun where
  name : ByteArray
  module : Int
  params : Int
  bounds : List Bound
  arity : Int
  result : Ty
  locals : List Ty
  blocks : List Block
  ties : List Int
def Fun.g (f : Fun) : G := .st [.str f.name, I f.module, I f.params, .sl 2 (f.bounds.map Bound.g), I f.arity, f.result.g, .sl 3 (f.locals.map Ty.g), .sl 4 (f.blocks.map Block.g), .sl 1 (f.ties.map I)]
structure Variant where
  name : ByteArray
  fields : List Ty
def Variant.g (x : Variant) : G := .st [.str x.name, .sl 3 (x.fields.map Ty.g)]
structure Data where
  name : ByteArray
  module : Int
  params : Int
  variants : List Variant
  drop : Int
def Data.g (d : Data) : G := .st [.str d.name, I d.module, I d.params, .sl 2 (d.variants.map Variant.g), I d.drop]
structure Impl where
  trait : Int
  module : Int
  params : Int
  bounds : List Bound
  type : Ty
  func : Int
def Impl.g (x : Impl) : G := .st [I x.trait, I x.module, I x.params, .sl 2 (x.bounds.map Bound.g), x.type.g, I x.func]
structure Prog where
  modules : List ByteArray
  uses : List (List Int)
  datas : List Data
  traits : List ByteArray
  homes : List Int
  impls : List Impl
  funcs : List Fun
  main : Int
def Prog.g (p : Prog) : G := .st [.sl 1 (p.modules.map .str), .sl 1 (p.uses.map fun l => .sl 1 (l.map I)), .sl 5 (p.datas.map Data.g), .sl 1 (p.traits.map .str), .sl 1 (p.homes.map I), .sl 8 (p.impls.map Impl.g), .sl 11 (p.funcs.map Fun.g), I p.main]

/- what the cells are -/
section
variable {F : Frz} {cs : List Value}
theorem rd_int {n : Int} : Rd F (I n) cs ↔ cs = [.int .i64 n] ∧ (Lit.int .i64 n).wf = true := by simp only [Rd]
theorem rd_ty {t : Ty} : Rd F t.g cs ↔ ∃ a c, cs = [.int .i64 t.kind, .int .i64 t.id, .slice a t.args.length c] ∧ (Lit.int .i64 t.kind).wf = true ∧ (Lit.int .i64 t.id).wf = true ∧ Sl F 3 (t.args.map Ty.g) a c := by
  obtain ⟨k, i, l⟩ := t
  simp only [Ty.g, Rd, RdAll, Ty.gs_map, Ty.kind, Ty.id, Ty.args]
  constructor
  · rintro ⟨c1, c2, rfl, ⟨rfl, h1⟩, c3, c4, rfl, ⟨rfl, h2⟩, c5, c6, rfl, h, rfl⟩
    obtain ⟨a, c, rfl, h3⟩ := Rd_sl.1 (show Rd F (.sl 3 (l.map Ty.g)) c5 by simp only [Rd]; exact h)
    exact ⟨a, c, by simp, h1, h2, h3⟩
  · rintro ⟨a, c, rfl, h1, h2, h3⟩
    refine ⟨_, _, rfl, ⟨rfl, h1⟩, _, _, rfl, ⟨rfl, h2⟩, [.slice a l.length c], [], rfl, ?_, rfl⟩
    have : Rd F (.sl 3 (l.map Ty.g)) [.slice a l.length c] := Rd_sl.2 ⟨a, c, by simp, h3⟩
    simpa only [Rd] using this
theorem rd_st2 {x y : G} : Rd F (.st [x, y]) cs ↔ ∃ c1 c2, cs = c1 ++ c2 ∧ Rd F x c1 ∧ Rd F y c2 := by
  simp only [Rd, RdAll]
  constructor
  · rintro ⟨c1, c2, rfl, h1, c3, c4, rfl, h2, rfl⟩
    exact ⟨c1, c3, by simp, h1, h2⟩
  · rintro ⟨c1, c2, rfl, h1, h2⟩
    exact ⟨c1, c2, rfl, h1, c2, [], by simp, h2, rfl⟩
theorem rd_cons {x : G} {l : List G} (hl : l ≠ []) : Rd F (.st (x :: l)) cs ↔ ∃ c1 c2, cs = c1 ++ c2 ∧ Rd F x c1 ∧ Rd F (.st l) c2 := by
  simp only [Rd, RdAll]
theorem rd_one {x : G} : Rd F (.st [x]) cs ↔ Rd F x cs := by
  simp only [Rd, RdAll]
  constructor
  · rintro ⟨c1, c2, rfl, h, rfl⟩; simpa using h
  · intro h; exact ⟨cs, [], by simp, h, rfl⟩
theorem rd_str {s : ByteArray} : Rd F (.str s) cs ↔ cs = [.string s] := by simp only [Rd]
theorem rd_bound {b : Bound} : Rd F b.g cs ↔ cs = [.int .i64 b.param, .int .i64 b.trait] ∧ (Lit.int .i64 b.param).wf = true ∧ (Lit.int .i64 b.trait).wf = true := by
  simp only [Bound.g, rd_st2, rd_int]
  constructor
  · rintro ⟨c1, c2, rfl, ⟨rfl, h1⟩, rfl, h2⟩; exact ⟨rfl, h1, h2⟩
  · rintro ⟨rfl, h1, h2⟩; exact ⟨_, _, rfl, ⟨rfl, h1⟩, rfl, h2⟩
/-- from the parts to the whole, one way: what a walk needs -/
theorem rd_term {x : Term} (h : Rd F x.g cs) : ∃ a c, cs = [.int .i64 x.kind, .int .i64 x.a, .slice a x.targets.length c] ∧ (Lit.int .i64 x.kind).wf = true ∧ (Lit.int .i64 x.a).wf = true ∧ Sl F 1 (x.targets.map I) a c := by
  simp only [Term.g, rd_cons (List.cons_ne_nil _ _), rd_one, rd_int, Rd_sl] at h
  obtain ⟨c1, _, rfl, ⟨rfl, h1⟩, c2, _, rfl, ⟨rfl, h2⟩, a, c, rfl, h3⟩ := h
  exact ⟨a, c, by simp, h1, h2, h3⟩
theorem rd_ins {x : Ins} (h : Rd F x.g cs) : ∃ a1 c1 a2 c2, cs = [.int .i64 x.op, .int .i64 x.dst, .int .i64 x.a, .int .i64 x.b, .int .i64 x.n, .slice a1 x.args.length c1, .slice a2 x.types.length c2] ∧
    ((Lit.int .i64 x.op).wf = true ∧ (Lit.int .i64 x.dst).wf = true ∧ (Lit.int .i64 x.a).wf = true ∧ (Lit.int .i64 x.b).wf = true ∧ (Lit.int .i64 x.n).wf = true) ∧ Sl F 1 (x.args.map I) a1 c1 ∧ Sl F 3 (x.types.map Ty.g) a2 c2 := by
  simp only [Ins.g, rd_cons (List.cons_ne_nil _ _), rd_one, rd_int, Rd_sl] at h
  obtain ⟨_, _, rfl, ⟨rfl, h1⟩, _, _, rfl, ⟨rfl, h2⟩, _, _, rfl, ⟨rfl, h3⟩, _, _, rfl, ⟨rfl, h4⟩, _, _, rfl, ⟨rfl, h5⟩, _, _, rfl, ⟨a1, c1, rfl, h6⟩, a2, c2, rfl, h7⟩ := h
  exact ⟨a1, c1, a2, c2, by simp, ⟨h1, h2, h3, h4, h5⟩, h6, h7⟩
theorem rd_block {x : Block} (h : Rd F x.g cs) : ∃ a1 c1 a2 c2, cs = [.slice a1 x.code.length c1, .int .i64 x.fin.kind, .int .i64 x.fin.a, .slice a2 x.fin.targets.length c2] ∧
    ((Lit.int .i64 x.fin.kind).wf = true ∧ (Lit.int .i64 x.fin.a).wf = true) ∧ Sl F 7 (x.code.map Ins.g) a1 c1 ∧ Sl F 1 (x.fin.targets.map I) a2 c2 := by
  simp only [Block.g, rd_cons (List.cons_ne_nil _ _), rd_one, Rd_sl] at h
  obtain ⟨_, _, rfl, ⟨a1, c1, rfl, h1⟩, h2⟩ := h
  obtain ⟨a2, c2, rfl, h3, h4, h5⟩ := rd_term h2
  exact ⟨a1, c1, a2, c2, by simp, ⟨h3, h4⟩, h1, h5⟩
theorem rd_func {x : Fun} (h : Rd F x.g cs) : ∃ a1 c1 a2 c2 a3 c3 a4 c4 a5 c5, cs = [.string x.name, .int .i64 x.module, .int .i64 x.params, .slice a1 x.bounds.length c1, .int .i64 x.arity,
      .int .i64 x.result.kind, .int .i64 x.result.id, .slice a2 x.result.args.length c2, .slice a3 x.locals.length c3, .slice a4 x.blocks.length c4, .slice a5 x.ties.length c5] ∧
    ((Lit.int .i64 x.module).wf = true ∧ (Lit.int .i64 x.params).wf = true ∧ (Lit.int .i64 x.arity).wf = true ∧ (Lit.int .i64 x.result.kind).wf = true ∧ (Lit.int .i64 x.result.id).wf = true) ∧
    Sl F 2 (x.bounds.map Bound.g) a1 c1 ∧ Sl F 3 (x.result.args.map Ty.g) a2 c2 ∧ Sl F 3 (x.locals.map Ty.g) a3 c3 ∧ Sl F 4 (x.blocks.map Block.g) a4 c4 ∧ Sl F 1 (x.ties.map I) a5 c5 := by
  simp only [Fun.g, rd_cons (List.cons_ne_nil _ _), rd_one, rd_int, rd_str, Rd_sl, rd_ty] at h
  obtain ⟨_, _, rfl, rfl, _, _, rfl, ⟨rfl, h1⟩, _, _, rfl, ⟨rfl, h2⟩, _, _, rfl, ⟨a1, c1, rfl, h3⟩, _, _, rfl, ⟨rfl, h4⟩, _, _, rfl, ⟨a2, c2, rfl, h5, h6, h7⟩, _, _, rfl, ⟨a3, c3, rfl, h8⟩, _, _, rfl, ⟨a4, c4, rfl, h9⟩, a5, c5, rfl, h10⟩ := h
  exact ⟨a1, c1, a2, c2, a3, c3, a4, c4, a5, c5, by simp, ⟨h1, h2, h4, h5, h6⟩, h3, h7, h8, h9, h10⟩
theorem rd_variant {x : Variant} (h : Rd F x.g cs) : ∃ a c, cs = [.string x.name, .slice a x.fields.length c] ∧ Sl F 3 (x.fields.map Ty.g) a c := by
  simp only [Variant.g, rd_cons (List.cons_ne_nil _ _), rd_one, rd_str, Rd_sl] at h
  obtain ⟨_, _, rfl, rfl, a, c, rfl, h1⟩ := h
  exact ⟨a, c, by simp, h1⟩
theorem rd_data {x : Data} (h : Rd F x.g cs) : ∃ a c, cs = [.string x.name, .int .i64 x.module, .int .i64 x.params, .slice a x.variants.length c, .int .i64 x.drop] ∧
    ((Lit.int .i64 x.module).wf = true ∧ (Lit.int .i64 x.params).wf = true ∧ (Lit.int .i64 x.drop).wf = true) ∧ Sl F 2 (x.variants.map Variant.g) a c := by
  simp only [Data.g, rd_cons (List.cons_ne_nil _ _), rd_one, rd_int, rd_str, Rd_sl] at h
  obtain ⟨_, _, rfl, rfl, _, _, rfl, ⟨rfl, h1⟩, _, _, rfl, ⟨rfl, h2⟩, _, _, rfl, ⟨a, c, rfl, h3⟩, rfl, h4⟩ := h
  exact ⟨a, c, by simp, ⟨h1, h2, h4⟩, h3⟩
theorem rd_impl {x : Impl} (h : Rd F x.g cs) : ∃ a1 c1 a2 c2, cs = [.int .i64 x.trait, .int .i64 x.module, .int .i64 x.params, .slice a1 x.bounds.length c1, .int .i64 x.type.kind, .int .i64 x.type.id, .slice a2 x.type.args.length c2, .int .i64 x.func] ∧
    ((Lit.int .i64 x.trait).wf = true ∧ (Lit.int .i64 x.module).wf = true ∧ (Lit.int .i64 x.params).wf = true ∧ (Lit.int .i64 x.type.kind).wf = true ∧ (Lit.int .i64 x.type.id).wf = true ∧ (Lit.int .i64 x.func).wf = true) ∧
    Sl F 2 (x.bounds.map Bound.g) a1 c1 ∧ Sl F 3 (x.type.args.map Ty.g) a2 c2 := by
  simp only [Impl.g, rd_cons (List.cons_ne_nil _ _), rd_one, rd_int, Rd_sl, rd_ty] at h
  obtain ⟨_, _, rfl, ⟨rfl, h1⟩, _, _, rfl, ⟨rfl, h2⟩, _, _, rfl, ⟨rfl, h3⟩, _, _, rfl, ⟨a1, c1, rfl, h4⟩, _, _, rfl, ⟨a2, c2, rfl, h5, h6, h7⟩, rfl, h8⟩ := h
  exact ⟨a1, c1, a2, c2, by simp, ⟨h1, h2, h3, h5, h6, h8⟩, h4, h7⟩
theorem rd_program {x : Prog} (h : Rd F x.g cs) : ∃ a1 c1 a2 c2 a3 c3 a4 c4 a5 c5 a6 c6 a7 c7, cs = [.slice a1 x.modules.length c1, .slice a2 x.uses.length c2, .slice a3 x.datas.length c3, .slice a4 x.traits.length c4, .slice a5 x.homes.length c5,
      .slice a6 x.impls.length c6, .slice a7 x.funcs.length c7, .int .i64 x.main] ∧ (Lit.int .i64 x.main).wf = true ∧
    Sl F 1 (x.modules.map .str) a1 c1 ∧ Sl F 1 (x.uses.map fun l => .sl 1 (l.map I)) a2 c2 ∧ Sl F 5 (x.datas.map Data.g) a3 c3 ∧ Sl F 1 (x.traits.map .str) a4 c4 ∧ Sl F 1 (x.homes.map I) a5 c5 ∧ Sl F 8 (x.impls.map Impl.g) a6 c6 ∧ Sl F 11 (x.funcs.map Fun.g) a7 c7 := by
  simp only [Prog.g, rd_cons (List.cons_ne_nil _ _), rd_one, rd_int, Rd_sl] at h
  obtain ⟨_, _, rfl, ⟨a1, c1, rfl, h1⟩, _, _, rfl, ⟨a2, c2, rfl, h2⟩, _, _, rfl, ⟨a3, c3, rfl, h3⟩, _, _, rfl, ⟨a4, c4, rfl, h4⟩, _, _, rfl, ⟨a5, c5, rfl, h5⟩, _, _, rfl, ⟨a6, c6, rfl, h6⟩, _, _, rfl, ⟨a7, c7, rfl, h7⟩, rfl, h8⟩ := h
  exact ⟨a1, c1, a2, c2, a3, c3, a4, c4, a5, c5, a6, c6, a7, c7, by simp, h8, h1, h2, h3, h4, h5, h6, h7⟩
end
end Api
end Go.Fr

/- What is of a type of the program's is such a record. -/
set_option linter.unusedVariables false
set_option linter.unusedSimpArgs false
namespace Go.Fr
open Go Go.RowKit
namespace Api
section
variable {P : Program}
def OkL (P : Program) (n : Nat) : List TypeId → List G → Prop
  | [], [] => True
  | t :: ts, x :: l => Ok P n t x ∧ OkL P n ts l
  | _, _ => False
theorem okL_of {n : Nat} : ∀ {fl : List Field} {l : List G}, l.length = fl.length → (∀ (i : Nat) (f : Field) (x : G), fl[i]? = some f → l[i]? = some x → Ok P n f.type x) → OkL P n (fl.map (·.type)) l
  | [], [], _, _ => trivial
  | [], x :: l, h, _ => by simp at h
  | f :: fl, [], h, _ => by simp at h
  | f :: fl, x :: l, h, hk => ⟨hk 0 f x (by simp) (by simp), okL_of (by simpa using h) fun i f' x' hf hx => hk (i + 1) f' x' (by simpa using hf) (by simpa using hx)⟩
theorem ok_int {n : Nat} {t : TypeId} {g : G} {k : IntKind} (h : P.underlying t = some (.int k)) (hg : Ok P n t g) : ∃ x, g = .int k x := by
  cases n with
  | zero => exact hg.elim
  | succ n => simp only [Ok, h] at hg; obtain ⟨x, h1, _⟩ := hg; exact ⟨x, h1⟩
theorem ok_bool {n : Nat} {t : TypeId} {g : G} (h : P.underlying t = some .bool) (hg : Ok P n t g) : ∃ x, g = .bool x := by
  cases n with
  | zero => exact hg.elim
  | succ n => simp only [Ok, h] at hg; exact hg
theorem ok_str {n : Nat} {t : TypeId} {g : G} (h : P.underlying t = some .string) (hg : Ok P n t g) : ∃ x, g = .str x := by
  cases n with
  | zero => exact hg.elim
  | succ n => simp only [Ok, h] at hg; exact hg
theorem ok_list {α : Type} {f : α → G} : ∀ {l : List G}, (∀ x ∈ l, ∃ y, x = f y) → ∃ l' : List α, l = l'.map f
  | [], _ => ⟨[], rfl⟩
  | x :: l, h => by
    obtain ⟨y, rfl⟩ := h x (by simp)
    obtain ⟨l', rfl⟩ := ok_list (l := l) (fun z hz => h z (by simp [hz]))
    exact ⟨y :: l', rfl⟩
theorem ok_sl' {n : Nat} {t e : TypeId} {g : G} {sz : Nat} {α : Type} {f : α → G} (h : P.underlying t = some (.slice e)) (hsz : P.cellsOf e = sz) (hg : Ok P n t g) (he : ∀ m x, m < n → Ok P m e x → ∃ y, x = f y) : ∃ l : List α, g = .sl sz (l.map f) := by
  cases n with
  | zero => exact hg.elim
  | succ n =>
    simp only [Ok, h] at hg
    obtain ⟨l, rfl, hl⟩ := hg
    obtain ⟨l', rfl⟩ := ok_list (f := f) (fun x hx => he n x (by omega) (hl x hx))
    exact ⟨l', by rw [hsz]⟩
theorem ok_st {n : Nat} {t : TypeId} {g : G} {fs : Array Field} {ts : List TypeId} (h : P.underlying t = some (.struct fs)) (hts : fs.toList.map (·.type) = ts) (hg : Ok P n t g) : ∃ m l, m < n ∧ g = .st l ∧ OkL P m ts l := by
  cases n with
  | zero => exact hg.elim
  | succ n =>
    simp only [Ok, h] at hg
    obtain ⟨l, rfl, hl, hk⟩ := hg
    subst hts
    exact ⟨n, l, by omega, rfl, okL_of (by simpa using hl) fun i f x hf hx => hk i f x (by simpa using hf) hx⟩

def isSt (P : Program) (t : TypeId) (ts : List TypeId) : Bool := match P.underlying t with | some (.struct fs) => decide (fs.toList.map (·.type) = ts) | _ => false
def isSl (P : Program) (t e sz : Nat) : Bool := match P.underlying t with | some (.slice e') => Nat.beq e' e && Nat.beq (P.cellsOf e) sz | _ => false
def isI (P : Program) (t : TypeId) : Bool := match P.underlying t with | some (.int .i64) => true | _ => false
def isS (P : Program) (t : TypeId) : Bool := match P.underlying t with | some .string => true | _ => false
theorem isSt_ok {t : TypeId} {ts : List TypeId} (h : isSt P t ts = true) {n : Nat} {g : G} (hg : Ok P n t g) : ∃ m l, m < n ∧ g = .st l ∧ OkL P m ts l := by
  simp only [isSt] at h
  split at h
  · rename_i fs hu; exact ok_st hu (by simpa using h) hg
  · cases h
theorem isSl_ok {t e sz : Nat} (h : isSl P t e sz = true) {n : Nat} {g : G} {α : Type} {f : α → G} (hg : Ok P n t g) (he : ∀ m x, m < n → Ok P m e x → ∃ y, x = f y) : ∃ l : List α, g = .sl sz (l.map f) := by
  simp only [isSl] at h
  split at h
  · rename_i e' hu
    simp only [Bool.and_eq_true] at h
    have h1 := Nat.eq_of_beq_eq_true h.1
    have h2 := Nat.eq_of_beq_eq_true h.2
    subst h1
    exact ok_sl' hu h2 hg he
  · cases h
theorem isI_ok {t : TypeId} (h : isI P t = true) {n : Nat} {g : G} (hg : Ok P n t g) : ∃ x, g = I x := by
  simp only [isI] at h
  split at h
  · rename_i hu; exact ok_int hu hg
  · cases h
theorem isS_ok {t : TypeId} (h : isS P t = true) {n : Nat} {g : G} (hg : Ok P n t g) : ∃ x, g = .str x := by
  simp only [isS] at h
  split at h
  · rename_i hu; exact ok_str hu hg
  · cases h

theorem okL1 {n : Nat} {t1 : TypeId} {l : List G} (h : OkL P n [t1] l) : ∃ a, l = [a] ∧ Ok P n t1 a := by
  match l, h with
  | [a], h => exact ⟨a, rfl, h.1⟩
theorem okL_cons {n : Nat} {t1 : TypeId} {ts : List TypeId} {l : List G} (h : OkL P n (t1 :: ts) l) : ∃ a r, l = a :: r ∧ Ok P n t1 a ∧ OkL P n ts r := by
  match l, h with
  | a :: r, h => exact ⟨a, r, rfl, h.1, h.2⟩
theorem okL_nil {n : Nat} {l : List G} (h : OkL P n [] l) : l = [] := by
  match l, h with
  | [], _ => rfl

theorem ok_ty {t ti ts : TypeId} (hi : isI P ti = true) (ht : isSt P t [ti, ti, ts] = true) (hs : isSl P ts t 3 = true) : ∀ (n : Nat) (g : G), Ok P n t g → ∃ x : Ty, g = x.g := by
  intro n
  induction n using Nat.strongRecOn with
  | _ n ih =>
    intro g hg
    obtain ⟨m, l, hm, rfl, hl⟩ := isSt_ok ht hg
    obtain ⟨a, l, rfl, ha, hl⟩ := okL_cons hl
    obtain ⟨b, l, rfl, hb, hl⟩ := okL_cons hl
    obtain ⟨c, rfl, hc⟩ := okL1 hl
    obtain ⟨k, rfl⟩ := isI_ok hi ha
    obtain ⟨i, rfl⟩ := isI_ok hi hb
    obtain ⟨xs, rfl⟩ := isSl_ok hs hc (f := Ty.g) (fun m' x hm' hx => ih m' (by omega) x hx)
    exact ⟨.mk k i xs, by simp [Ty.g, Ty.gs_map]⟩
theorem ok_ints {tis ti : TypeId} (hi : isI P ti = true) (hs : isSl P tis ti 1 = true) {n : Nat} {g : G} (hg : Ok P n tis g) : ∃ x : List Int, g = .sl 1 (x.map I) :=
  isSl_ok hs hg fun _ _ _ h => isI_ok hi h
theorem ok_strs {tss tstr : TypeId} (hi : isS P tstr = true) (hs : isSl P tss tstr 1 = true) {n : Nat} {g : G} (hg : Ok P n tss g) : ∃ x : List ByteArray, g = .sl 1 (x.map .str) :=
  isSl_ok hs hg fun _ _ _ h => isS_ok hi h
theorem ok_bound {t ti : TypeId} (hi : isI P ti = true) (ht : isSt P t [ti, ti] = true) {n : Nat} {g : G} (hg : Ok P n t g) : ∃ x : Bound, g = x.g := by
  obtain ⟨m, l, hm, rfl, hl⟩ := isSt_ok ht hg
  obtain ⟨a, l, rfl, ha, hl⟩ := okL_cons hl
  obtain ⟨b, rfl, hb⟩ := okL1 hl
  obtain ⟨k, rfl⟩ := isI_ok hi ha
  obtain ⟨i, rfl⟩ := isI_ok hi hb
  exact ⟨⟨k, i⟩, rfl⟩

/-- the numbers of the types, and what they must be -/
structure Ids where
  int : TypeId
  str : TypeId
  ints : TypeId
  strs : TypeId
  intss : TypeId
  ty : TypeId
  tys : TypeId
  bound : TypeId
  bounds : TypeId
  term : TypeId
  ins : TypeId
  inss : TypeId
  block : TypeId
  blocks : TypeId
  func : TypeId
  funcs : TypeId
  variant : TypeId
  variants : TypeId
  data : TypeId
  datas : TypeId
  impl : TypeId
  impls : TypeId
  prog : TypeId
def Ids.tyOk (P : Program) (d : Ids) : Bool := isI P d.int && isSt P d.ty [d.int, d.int, d.tys] && isSl P d.tys d.ty 3
def Ids.funcOk (P : Program) (d : Ids) : Bool := d.tyOk P && isS P d.str && isSl P d.ints d.int 1 && isSt P d.bound [d.int, d.int] && isSl P d.bounds d.bound 2 && isSt P d.term [d.int, d.int, d.ints] &&
  isSt P d.ins [d.int, d.int, d.int, d.int, d.int, d.ints, d.tys] && isSl P d.inss d.ins 7 && isSt P d.block [d.inss, d.term] && isSl P d.blocks d.block 4 &&
  isSt P d.func [d.str, d.int, d.int, d.bounds, d.int, d.ty, d.tys, d.blocks, d.ints]
def Ids.progOk (P : Program) (d : Ids) : Bool := d.funcOk P && isSl P d.strs d.str 1 && isSl P d.intss d.ints 1 && isSt P d.variant [d.str, d.tys] && isSl P d.variants d.variant 2 && isSt P d.data [d.str, d.int, d.int, d.variants, d.int] &&
  isSl P d.datas d.data 5 && isSt P d.impl [d.int, d.int, d.int, d.bounds, d.ty, d.int] && isSl P d.impls d.impl 8 && isSl P d.funcs d.func 11 && isSt P d.prog [d.strs, d.intss, d.datas, d.strs, d.ints, d.impls, d.funcs, d.int]

theorem Ids.func_of {d : Ids} (h : d.progOk P = true) : d.funcOk P = true := by
  simp only [Ids.progOk, Bool.and_eq_true] at h
  exact h.1.1.1.1.1.1.1.1.1.1
theorem Ids.ty_of {d : Ids} (h : d.funcOk P = true) : d.tyOk P = true := by
  simp only [Ids.funcOk, Bool.and_eq_true] at h
  exact h.1.1.1.1.1.1.1.1.1.1
theorem Ids.ty' {d : Ids} (h : d.tyOk P = true) {n : Nat} {g : G} (hg : Ok P n d.ty g) : ∃ x : Ty, g = x.g := by
  simp only [Ids.tyOk, Bool.and_eq_true] at h
  exact ok_ty h.1.1 h.1.2 h.2 n g hg
theorem Ids.i {d : Ids} (h : d.tyOk P = true) {n : Nat} {g : G} (hg : Ok P n d.int g) : ∃ x : Int, g = I x := by
  simp only [Ids.tyOk, Bool.and_eq_true] at h
  exact isI_ok h.1.1 hg
theorem Ids.tysOk {d : Ids} (h : d.tyOk P = true) {n : Nat} {g : G} (hg : Ok P n d.tys g) : ∃ x : List Ty, g = .sl 3 (x.map Ty.g) := by
  have h' := h
  simp only [Ids.tyOk, Bool.and_eq_true] at h'
  exact isSl_ok h'.2 hg fun m x _ hx => Ids.ty' h hx
theorem Ids.bnd {d : Ids} (h : d.funcOk P = true) {n : Nat} {g : G} (hg : Ok P n d.bound g) : ∃ x : Bound, g = x.g := by
  have hf := h
  have ht := Ids.ty_of hf
  have hf' := hf
  simp only [Ids.funcOk, Bool.and_eq_true] at hf'
  obtain ⟨⟨⟨⟨⟨⟨⟨⟨⟨⟨_, k1⟩, k2⟩, k3⟩, k4⟩, k5⟩, k6⟩, k7⟩, k8⟩, k9⟩, k10⟩ := hf'
  obtain ⟨m, l0, hm, rfl, hl0⟩ := isSt_ok k3 hg
  obtain ⟨g0, l1, rfl, e0, hl1⟩ := okL_cons hl0
  obtain ⟨v0, rfl⟩ := Ids.i ht e0
  obtain ⟨g1, rfl, e1⟩ := okL1 hl1
  obtain ⟨v1, rfl⟩ := Ids.i ht e1
  exact ⟨⟨v0, v1⟩, rfl⟩
theorem Ids.trm {d : Ids} (h : d.funcOk P = true) {n : Nat} {g : G} (hg : Ok P n d.term g) : ∃ x : Term, g = x.g := by
  have hf := h
  have ht := Ids.ty_of hf
  have hf' := hf
  simp only [Ids.funcOk, Bool.and_eq_true] at hf'
  obtain ⟨⟨⟨⟨⟨⟨⟨⟨⟨⟨_, k1⟩, k2⟩, k3⟩, k4⟩, k5⟩, k6⟩, k7⟩, k8⟩, k9⟩, k10⟩ := hf'
  obtain ⟨m, l0, hm, rfl, hl0⟩ := isSt_ok k5 hg
  obtain ⟨g0, l1, rfl, e0, hl1⟩ := okL_cons hl0
  obtain ⟨v0, rfl⟩ := Ids.i ht e0
  obtain ⟨g1, l2, rfl, e1, hl2⟩ := okL_cons hl1
  obtain ⟨v1, rfl⟩ := Ids.i ht e1
  obtain ⟨g2, rfl, e2⟩ := okL1 hl2
  obtain ⟨v2, rfl⟩ := isSl_ok k2 e2 (f := I) fun m x _ hx => Ids.i ht hx
  exact ⟨⟨v0, v1, v2⟩, rfl⟩
theorem Ids.ins' {d : Ids} (h : d.funcOk P = true) {n : Nat} {g : G} (hg : Ok P n d.ins g) : ∃ x : Ins, g = x.g := by
  have hf := h
  have ht := Ids.ty_of hf
  have hf' := hf
  simp only [Ids.funcOk, Bool.and_eq_true] at hf'
  obtain ⟨⟨⟨⟨⟨⟨⟨⟨⟨⟨_, k1⟩, k2⟩, k3⟩, k4⟩, k5⟩, k6⟩, k7⟩, k8⟩, k9⟩, k10⟩ := hf'
  obtain ⟨m, l0, hm, rfl, hl0⟩ := isSt_ok k6 hg
  obtain ⟨g0, l1, rfl, e0, hl1⟩ := okL_cons hl0
  obtain ⟨v0, rfl⟩ := Ids.i ht e0
  obtain ⟨g1, l2, rfl, e1, hl2⟩ := okL_cons hl1
  obtain ⟨v1, rfl⟩ := Ids.i ht e1
  obtain ⟨g2, l3, rfl, e2, hl3⟩ := okL_cons hl2
  obtain ⟨v2, rfl⟩ := Ids.i ht e2
  obtain ⟨g3, l4, rfl, e3, hl4⟩ := okL_cons hl3
  obtain ⟨v3, rfl⟩ := Ids.i ht e3
  obtain ⟨g4, l5, rfl, e4, hl5⟩ := okL_cons hl4
  obtain ⟨v4, rfl⟩ := Ids.i ht e4
  obtain ⟨g5, l6, rfl, e5, hl6⟩ := okL_cons hl5
  obtain ⟨v5, rfl⟩ := isSl_ok k2 e5 (f := I) fun m x _ hx => Ids.i ht hx
  obtain ⟨g6, rfl, e6⟩ := okL1 hl6
  obtain ⟨v6, rfl⟩ := Ids.tysOk ht e6
  exact ⟨⟨v0, v1, v2, v3, v4, v5, v6⟩, rfl⟩
theorem Ids.blk {d : Ids} (h : d.funcOk P = true) {n : Nat} {g : G} (hg : Ok P n d.block g) : ∃ x : Block, g = x.g := by
  have hf := h
  have ht := Ids.ty_of hf
  have hf' := hf
  simp only [Ids.funcOk, Bool.and_eq_true] at hf'
  obtain ⟨⟨⟨⟨⟨⟨⟨⟨⟨⟨_, k1⟩, k2⟩, k3⟩, k4⟩, k5⟩, k6⟩, k7⟩, k8⟩, k9⟩, k10⟩ := hf'
  obtain ⟨m, l0, hm, rfl, hl0⟩ := isSt_ok k8 hg
  obtain ⟨g0, l1, rfl, e0, hl1⟩ := okL_cons hl0
  obtain ⟨v0, rfl⟩ := isSl_ok k7 e0 (f := Ins.g) fun m x _ hx => Ids.ins' hf hx
  obtain ⟨g1, rfl, e1⟩ := okL1 hl1
  obtain ⟨v1, rfl⟩ := Ids.trm hf e1
  exact ⟨⟨v0, v1⟩, rfl⟩
theorem Ids.fn {d : Ids} (h : d.funcOk P = true) {n : Nat} {g : G} (hg : Ok P n d.func g) : ∃ x : Fun, g = x.g := by
  have hf := h
  have ht := Ids.ty_of hf
  have hf' := hf
  simp only [Ids.funcOk, Bool.and_eq_true] at hf'
  obtain ⟨⟨⟨⟨⟨⟨⟨⟨⟨⟨_, k1⟩, k2⟩, k3⟩, k4⟩, k5⟩, k6⟩, k7⟩, k8⟩, k9⟩, k10⟩ := hf'
  obtain ⟨m, l0, hm, rfl, hl0⟩ := isSt_ok k10 hg
  obtain ⟨g0, l1, rfl, e0, hl1⟩ := okL_cons hl0
  obtain ⟨v0, rfl⟩ := isS_ok k1 e0
  obtain ⟨g1, l2, rfl, e1, hl2⟩ := okL_cons hl1
  obtain ⟨v1, rfl⟩ := Ids.i ht e1
  obtain ⟨g2, l3, rfl, e2, hl3⟩ := okL_cons hl2
  obtain ⟨v2, rfl⟩ := Ids.i ht e2
  obtain ⟨g3, l4, rfl, e3, hl4⟩ := okL_cons hl3
  obtain ⟨v3, rfl⟩ := isSl_ok k4 e3 (f := Bound.g) fun m x _ hx => Ids.bnd hf hx
  obtain ⟨g4, l5, rfl, e4, hl5⟩ := okL_cons hl4
  obtain ⟨v4, rfl⟩ := Ids.i ht e4
  obtain ⟨g5, l6, rfl, e5, hl6⟩ := okL_cons hl5
  obtain ⟨v5, rfl⟩ := Ids.ty' ht e5
  obtain ⟨g6, l7, rfl, e6, hl7⟩ := okL_cons hl6
  obtain ⟨v6, rfl⟩ := Ids.tysOk ht e6
  obtain ⟨g7, l8, rfl, e7, hl8⟩ := okL_cons hl7
  obtain ⟨v7, rfl⟩ := isSl_ok k9 e7 (f := Block.g) fun m x _ hx => Ids.blk hf hx
  obtain ⟨g8, rfl, e8⟩ := okL1 hl8
  obtain ⟨v8, rfl⟩ := isSl_ok k2 e8 (f := I) fun m x _ hx => Ids.i ht hx
  exact ⟨⟨v0, v1, v2, v3, v4, v5, v6, v7, v8⟩, rfl⟩
theorem Ids.var' {d : Ids} (h : d.progOk P = true) {n : Nat} {g : G} (hg : Ok P n d.variant g) : ∃ x : Variant, g = x.g := by
  have h0 := h
  have hf := Ids.func_of h
  have ht := Ids.ty_of hf
  have hf' := hf
  simp only [Ids.funcOk, Bool.and_eq_true] at hf'
  obtain ⟨⟨⟨⟨⟨⟨⟨⟨⟨⟨_, k1⟩, k2⟩, k3⟩, k4⟩, k5⟩, k6⟩, k7⟩, k8⟩, k9⟩, k10⟩ := hf'
  simp only [Ids.progOk, Bool.and_eq_true] at h
  obtain ⟨⟨⟨⟨⟨⟨⟨⟨⟨⟨h, p1⟩, p2⟩, p3⟩, p4⟩, p5⟩, p6⟩, p7⟩, p8⟩, p9⟩, p10⟩ := h
  obtain ⟨m, l0, hm, rfl, hl0⟩ := isSt_ok p3 hg
  obtain ⟨g0, l1, rfl, e0, hl1⟩ := okL_cons hl0
  obtain ⟨v0, rfl⟩ := isS_ok k1 e0
  obtain ⟨g1, rfl, e1⟩ := okL1 hl1
  obtain ⟨v1, rfl⟩ := Ids.tysOk ht e1
  exact ⟨⟨v0, v1⟩, rfl⟩
theorem Ids.dat {d : Ids} (h : d.progOk P = true) {n : Nat} {g : G} (hg : Ok P n d.data g) : ∃ x : Data, g = x.g := by
  have h0 := h
  have hf := Ids.func_of h
  have ht := Ids.ty_of hf
  have hf' := hf
  simp only [Ids.funcOk, Bool.and_eq_true] at hf'
  obtain ⟨⟨⟨⟨⟨⟨⟨⟨⟨⟨_, k1⟩, k2⟩, k3⟩, k4⟩, k5⟩, k6⟩, k7⟩, k8⟩, k9⟩, k10⟩ := hf'
  simp only [Ids.progOk, Bool.and_eq_true] at h
  obtain ⟨⟨⟨⟨⟨⟨⟨⟨⟨⟨h, p1⟩, p2⟩, p3⟩, p4⟩, p5⟩, p6⟩, p7⟩, p8⟩, p9⟩, p10⟩ := h
  obtain ⟨m, l0, hm, rfl, hl0⟩ := isSt_ok p5 hg
  obtain ⟨g0, l1, rfl, e0, hl1⟩ := okL_cons hl0
  obtain ⟨v0, rfl⟩ := isS_ok k1 e0
  obtain ⟨g1, l2, rfl, e1, hl2⟩ := okL_cons hl1
  obtain ⟨v1, rfl⟩ := Ids.i ht e1
  obtain ⟨g2, l3, rfl, e2, hl3⟩ := okL_cons hl2
  obtain ⟨v2, rfl⟩ := Ids.i ht e2
  obtain ⟨g3, l4, rfl, e3, hl4⟩ := okL_cons hl3
  obtain ⟨v3, rfl⟩ := isSl_ok p4 e3 (f := Variant.g) fun m x _ hx => Ids.var' h0 hx
  obtain ⟨g4, rfl, e4⟩ := okL1 hl4
  obtain ⟨v4, rfl⟩ := Ids.i ht e4
  exact ⟨⟨v0, v1, v2, v3, v4⟩, rfl⟩
theorem Ids.imp {d : Ids} (h : d.progOk P = true) {n : Nat} {g : G} (hg : Ok P n d.impl g) : ∃ x : Impl, g = x.g := by
  have h0 := h
  have hf := Ids.func_of h
  have ht := Ids.ty_of hf
  have hf' := hf
  simp only [Ids.funcOk, Bool.and_eq_true] at hf'
  obtain ⟨⟨⟨⟨⟨⟨⟨⟨⟨⟨_, k1⟩, k2⟩, k3⟩, k4⟩, k5⟩, k6⟩, k7⟩, k8⟩, k9⟩, k10⟩ := hf'
  simp only [Ids.progOk, Bool.and_eq_true] at h
  obtain ⟨⟨⟨⟨⟨⟨⟨⟨⟨⟨h, p1⟩, p2⟩, p3⟩, p4⟩, p5⟩, p6⟩, p7⟩, p8⟩, p9⟩, p10⟩ := h
  obtain ⟨m, l0, hm, rfl, hl0⟩ := isSt_ok p7 hg
  obtain ⟨g0, l1, rfl, e0, hl1⟩ := okL_cons hl0
  obtain ⟨v0, rfl⟩ := Ids.i ht e0
  obtain ⟨g1, l2, rfl, e1, hl2⟩ := okL_cons hl1
  obtain ⟨v1, rfl⟩ := Ids.i ht e1
  obtain ⟨g2, l3, rfl, e2, hl3⟩ := okL_cons hl2
  obtain ⟨v2, rfl⟩ := Ids.i ht e2
  obtain ⟨g3, l4, rfl, e3, hl4⟩ := okL_cons hl3
  obtain ⟨v3, rfl⟩ := isSl_ok k4 e3 (f := Bound.g) fun m x _ hx => Ids.bnd hf hx
  obtain ⟨g4, l5, rfl, e4, hl5⟩ := okL_cons hl4
  obtain ⟨v4, rfl⟩ := Ids.ty' ht e4
  obtain ⟨g5, rfl, e5⟩ := okL1 hl5
  obtain ⟨v5, rfl⟩ := Ids.i ht e5
  exact ⟨⟨v0, v1, v2, v3, v4, v5⟩, rfl⟩
theorem Ids.prg {d : Ids} (h : d.progOk P = true) {n : Nat} {g : G} (hg : Ok P n d.prog g) : ∃ x : Prog, g = x.g := by
  have h0 := h
  have hf := Ids.func_of h
  have ht := Ids.ty_of hf
  have hf' := hf
  simp only [Ids.funcOk, Bool.and_eq_true] at hf'
  obtain ⟨⟨⟨⟨⟨⟨⟨⟨⟨⟨_, k1⟩, k2⟩, k3⟩, k4⟩, k5⟩, k6⟩, k7⟩, k8⟩, k9⟩, k10⟩ := hf'
  simp only [Ids.progOk, Bool.and_eq_true] at h
  obtain ⟨⟨⟨⟨⟨⟨⟨⟨⟨⟨h, p1⟩, p2⟩, p3⟩, p4⟩, p5⟩, p6⟩, p7⟩, p8⟩, p9⟩, p10⟩ := h
  obtain ⟨m, l0, hm, rfl, hl0⟩ := isSt_ok p10 hg
  obtain ⟨g0, l1, rfl, e0, hl1⟩ := okL_cons hl0
  obtain ⟨v0, rfl⟩ := isSl_ok p1 e0 (f := G.str) fun m x _ hx => isS_ok k1 hx
  obtain ⟨g1, l2, rfl, e1, hl2⟩ := okL_cons hl1
  obtain ⟨v1, rfl⟩ := isSl_ok p2 e1 (f := fun (l : List Int) => G.sl 1 (l.map I)) fun m x _ hx => isSl_ok k2 hx (f := I) fun m x _ hx => Ids.i ht hx
  obtain ⟨g2, l3, rfl, e2, hl3⟩ := okL_cons hl2
  obtain ⟨v2, rfl⟩ := isSl_ok p6 e2 (f := Data.g) fun m x _ hx => Ids.dat h0 hx
  obtain ⟨g3, l4, rfl, e3, hl4⟩ := okL_cons hl3
  obtain ⟨v3, rfl⟩ := isSl_ok p1 e3 (f := G.str) fun m x _ hx => isS_ok k1 hx
  obtain ⟨g4, l5, rfl, e4, hl5⟩ := okL_cons hl4
  obtain ⟨v4, rfl⟩ := isSl_ok k2 e4 (f := I) fun m x _ hx => Ids.i ht hx
  obtain ⟨g5, l6, rfl, e5, hl6⟩ := okL_cons hl5
  obtain ⟨v5, rfl⟩ := isSl_ok p8 e5 (f := Impl.g) fun m x _ hx => Ids.imp h0 hx
  obtain ⟨g6, l7, rfl, e6, hl7⟩ := okL_cons hl6
  obtain ⟨v6, rfl⟩ := isSl_ok p9 e6 (f := Fun.g) fun m x _ hx => Ids.fn hf hx
  obtain ⟨g7, rfl, e7⟩ := okL1 hl7
  obtain ⟨v7, rfl⟩ := Ids.i ht e7
  exact ⟨⟨v0, v1, v2, v3, v4, v5, v6, v7⟩, rfl⟩
end
end Api
end Go.Fr

/- Data that was read, and the records of the program's package of types, as cells. -/
set_option linter.unusedVariables false
set_option linter.unusedSimpArgs false
namespace Go.Fr.T
open Go Go.RowKit Go.Fr

mutual
def gcs : G → List C
  | .int k n => [.int k n]
  | .bool b => [.bool b]
  | .str s => [.str s]
  | .sl _ l => [.sl (gcss l)]
  | .st l => gflat l
def gcss : List G → List (List C)
  | [] => []
  | x :: l => gcs x :: gcss l
def gflat : List G → List C
  | [] => []
  | x :: l => gcs x ++ gflat l
end
theorem gcss_map : ∀ l : List G, gcss l = l.map gcs
  | [] => rfl
  | x :: l => by simp only [gcss, List.map_cons, gcss_map l]
theorem onesL_append {a b : List C} (h : onesL a = true) (k : onesL b = true) : onesL (a ++ b) = true := by
  rw [onesL_iff] at *
  intro c hc
  rcases List.mem_append.1 hc with hc | hc
  · exact h c hc
  · exact k c hc
mutual
theorem rd_rels {F : Frz} : ∀ {g : G} {cs : List Value}, Rd F g cs → g.bulk ≤ maxLen → Rels F [] (gcs g) cs ∧ onesL (gcs g) = true
  | .int k n, cs, h, hb => by
    simp only [Rd] at h
    obtain ⟨rfl, h⟩ := h
    simp only [gcs, Rels, Rel]
    exact ⟨⟨_, _, rfl, ⟨rfl, h⟩, rfl⟩, rfl⟩
  | .bool b, cs, h, hb => by
    simp only [Rd] at h
    subst h
    simp only [gcs, Rels, Rel]
    exact ⟨⟨_, _, rfl, rfl, rfl⟩, rfl⟩
  | .str s, cs, h, hb => by
    simp only [Rd] at h
    subst h
    simp only [G.bulk] at hb
    simp only [gcs, Rels, Rel]
    exact ⟨⟨_, _, rfl, ⟨rfl, by omega⟩, rfl⟩, rfl⟩
  | .sl sz l, cs, h, hb => by
    simp only [Rd] at h
    obtain ⟨a, c, rfl, h1, h2, h3, h4⟩ := h
    simp only [G.bulk] at hb
    have hl : (gcss l).length = l.length := by simp [gcss_map]
    simp only [gcs, Rels, Rel]
    refine ⟨⟨_, _, rfl, ⟨a, c, by rw [hl], by rw [hl]; exact h1, by rw [hl]; omega, fun e => ?_, sz, rdSl_rels h4 (by omega)⟩, rfl⟩, rfl⟩
    obtain ⟨e1, e2⟩ := h3 e
    subst e1
    exact ⟨rfl, e2⟩
  | .st l, cs, h, hb => by
    simp only [Rd] at h
    simp only [G.bulk] at hb
    simp only [gcs]
    exact rdAll_rels h (by omega)
theorem rdSl_rels {F : Frz} {a : Option Addr} {sz : Nat} : ∀ {i : Nat} {l : List G}, RdSl F a sz i l → G.bulkAll l ≤ maxLen → RelS F a sz i (gcss l)
  | _, [], _, _ => by simp only [gcss, RelS]
  | i, x :: l, h, hb => by
    simp only [RdSl] at h
    obtain ⟨⟨es, h1, h2, h3⟩, h4⟩ := h
    simp only [G.bulkAll] at hb
    obtain ⟨r1, r2⟩ := rd_rels h3 (by omega)
    simp only [gcss, RelS]
    exact ⟨⟨es, h1, h2, r2, r1⟩, rdSl_rels h4 (by omega)⟩
theorem rdAll_rels {F : Frz} : ∀ {l : List G} {cs : List Value}, RdAll F l cs → G.bulkAll l ≤ maxLen → Rels F [] (gflat l) cs ∧ onesL (gflat l) = true
  | [], cs, h, _ => by simp only [RdAll] at h; subst h; simp only [gflat, Rels]; exact ⟨trivial, rfl⟩
  | x :: l, cs, h, hb => by
    simp only [RdAll] at h
    obtain ⟨c1, c2, rfl, h1, h2⟩ := h
    simp only [G.bulkAll] at hb
    obtain ⟨r1, r2⟩ := rd_rels h1 (by omega)
    obtain ⟨q1, q2⟩ := rdAll_rels h2 (by omega)
    simp only [gflat]
    exact ⟨r1.append q1, onesL_append r2 q2⟩
end

open Api
abbrev IC (n : Int) : C := .int .i64 n
def ics (l : List Int) : List (List C) := l.map fun n => [IC n]
def scs (l : List ByteArray) : List (List C) := l.map fun s => [C.str s]
mutual
def tyC : Ty → List C
  | .mk k i l => [IC k, IC i, .sl (tyCs l)]
def tyCs : List Ty → List (List C)
  | [] => []
  | t :: l => tyC t :: tyCs l
end
theorem tyCs_map : ∀ l : List Ty, tyCs l = l.map tyC
  | [] => rfl
  | t :: l => by simp only [tyCs, List.map_cons, tyCs_map l]
theorem tyC_eq (t : Ty) : tyC t = [IC t.kind, IC t.id, .sl (t.args.map tyC)] := by
  cases t
  simp only [tyC, tyCs_map, Ty.kind, Ty.id, Ty.args]
def boundC (b : Bound) : List C := [IC b.param, IC b.trait]
def termC (x : Term) : List C := [IC x.kind, IC x.a, .sl (ics x.targets)]
def insC (x : Ins) : List C := [IC x.op, IC x.dst, IC x.a, IC x.b, IC x.n, .sl (ics x.args), .sl (x.types.map tyC)]
def blockC (x : Block) : List C := [.sl (x.code.map insC), IC x.fin.kind, IC x.fin.a, .sl (ics x.fin.targets)]
def funC (f : Fun) : List C := [.str f.name, IC f.module, IC f.params, .sl (f.bounds.map boundC), IC f.arity, IC f.result.kind, IC f.result.id, .sl (f.result.args.map tyC), .sl (f.locals.map tyC), .sl (f.blocks.map blockC), .sl (ics f.ties)]
def variantC (x : Variant) : List C := [.str x.name, .sl (x.fields.map tyC)]
def dataC (d : Api.Data) : List C := [.str d.name, IC d.module, IC d.params, .sl (d.variants.map variantC), IC d.drop]
def implC (x : Impl) : List C := [IC x.trait, IC x.module, IC x.params, .sl (x.bounds.map boundC), IC x.type.kind, IC x.type.id, .sl (x.type.args.map tyC), IC x.func]
def progC (p : Prog) : List C := [.sl (scs p.modules), .sl (p.uses.map fun l => [.sl (ics l)]), .sl (p.datas.map dataC), .sl (scs p.traits), .sl (ics p.homes), .sl (p.impls.map implC), .sl (p.funcs.map funC), IC p.main]

theorem gcs_I (n : Int) : gcs (I n) = [IC n] := rfl
theorem gcss_of {α : Type} {f : α → G} {h : α → List C} (hf : ∀ x, gcs (f x) = h x) (l : List α) : gcss (l.map f) = l.map h := by
  rw [gcss_map, List.map_map]
  exact List.map_congr_left fun x _ => hf x
theorem gcss_I (l : List Int) : gcss (l.map I) = ics l := gcss_of (fun _ => rfl) l
theorem gcss_S (l : List ByteArray) : gcss (l.map .str) = scs l := gcss_of (fun _ => rfl) l
mutual
theorem gcs_ty : ∀ t : Ty, gcs t.g = tyC t
  | .mk k i l => by simp only [Ty.g, gcs, gflat, tyC, gcs_tys l, List.append_nil, List.cons_append, List.nil_append]
theorem gcs_tys : ∀ l : List Ty, gcss (Ty.gs l) = tyCs l
  | [] => rfl
  | t :: l => by simp only [Ty.gs, gcss, tyCs, gcs_ty t, gcs_tys l]
end
theorem gcss_ty (l : List Ty) : gcss (l.map Ty.g) = l.map tyC := gcss_of gcs_ty l
theorem gcs_bound (b : Bound) : gcs b.g = boundC b := rfl
theorem gcs_term (x : Term) : gcs x.g = termC x := by simp only [Term.g, gcs, gflat, termC, gcss_I, List.append_nil, List.cons_append, List.nil_append]
theorem gcs_ins (x : Ins) : gcs x.g = insC x := by simp only [Ins.g, gcs, gflat, insC, gcss_I, gcss_ty, List.append_nil, List.cons_append, List.nil_append]
theorem gcs_block (x : Block) : gcs x.g = blockC x := by simp only [Block.g, gcs, gflat, blockC, gcs_term, termC, gcss_of gcs_ins, List.append_nil, List.cons_append, List.nil_append]
theorem gcs_fun (f : Fun) : gcs f.g = funC f := by simp only [Fun.g, gcs, gflat, funC, gcs_ty, tyC_eq, gcss_ty, gcss_I, gcss_of gcs_bound, gcss_of gcs_block, List.append_nil, List.cons_append, List.nil_append]
theorem gcs_variant (x : Variant) : gcs x.g = variantC x := by simp only [Variant.g, gcs, gflat, variantC, gcss_ty, List.append_nil, List.cons_append, List.nil_append]
theorem gcs_data (x : Api.Data) : gcs x.g = dataC x := by simp only [Data.g, gcs, gflat, dataC, gcss_of gcs_variant, List.append_nil, List.cons_append, List.nil_append]
theorem gcs_impl (x : Impl) : gcs x.g = implC x := by simp only [Impl.g, gcs, gflat, implC, gcs_ty, tyC_eq, gcss_of gcs_bound, List.append_nil, List.cons_append, List.nil_append]
theorem gcs_prog (x : Prog) : gcs x.g = progC x := by
  simp only [Prog.g, gcs, gflat, progC, gcss_I, gcss_S, gcss_of gcs_data, gcss_of gcs_impl, gcss_of gcs_fun, List.append_nil, List.cons_append, List.nil_append]
  rw [gcss_of (f := fun l => G.sl 1 (l.map I)) (h := fun l => [C.sl (ics l)]) (fun l => by simp only [gcs, gcss_I])]
/-- an element of a list of numbers -/
theorem idxI {l : List Int} {k : Nat} {x : Int} {K : List C → Prop} (hx : l[k]? = some x) (h : K [IC x]) : IdxT (ics l) (k : Int) 1 K := ⟨[IC x], by omega, by simp [ics, hx], rfl, h⟩
theorem idxS {l : List ByteArray} {k : Nat} {x : ByteArray} {K : List C → Prop} (hx : l[k]? = some x) (h : K [.str x]) : IdxT (scs l) (k : Int) 1 K := ⟨[.str x], by omega, by simp [scs, hx], rfl, h⟩
theorem idxTy {l : List Ty} {k : Nat} {x : Ty} {K : List C → Prop} (hx : l[k]? = some x) (h : K [IC x.kind, IC x.id, .sl (x.args.map tyC)]) : IdxT (l.map tyC) (k : Int) 3 K := idxT hx (tyC_eq x) rfl h
theorem wf_I {n : Int} (h : Wf (IC n)) : -9223372036854775808 ≤ n ∧ n ≤ 9223372036854775807 := by simp only [Wf] at h; exact wf_i64 h
end Go.Fr.T

/- From a contract to a statement: what a law that answers true must show. -/
set_option linter.unusedVariables false
set_option linter.unusedSimpArgs false
namespace Go.Fr.T
open Go Go.RowKit Go.Fr Go.ChangeShapes Go.WideShapes Go.ChangeAt

def argC : G → C
  | .int k n => .int k n
  | .bool b => .bool b
  | .str s => .str s
  | .sl _ l => .sl (gcss l)
  | .st l => .agg (gflat l)
def OkA (P : Program) : List TypeId → List G → Prop
  | [], [] => True
  | t :: ts, g :: gs => (∃ n, Ok P n t g) ∧ OkA P ts gs
  | _, _ => False

section
variable {H : Type} {enc : TypeId × Value → H} {P : Program} {W : World}

theorem rels_one {F : Frz} {L : Loc} {c : C} {v : Value} (h : Rels F L [c] [v]) : Rel F L c v := by
  simp only [Rels] at h
  obtain ⟨x, y, e, h1, h2⟩ := h
  injection e with e1 e2
  subst e1
  exact h1

theorem arg_rel {S : List TypeId} (hS : flat P S = true) {t : TypeId} (ht : t ∈ S) {r : Reach} {b0 : Nat} {sp : Nat → Bool} {hd : Bool} {v : Value} {d : DataW H} {ps : List MemPlace} (hval : Value.okWide P W r b0 t v)
    (h : DataW.Trod enc P W 0 sp hd t v d ps) (hb : bulkD d ≤ maxLen) : ∃ n g, Ok P n t g ∧ Rel (frzOf W) [] (argC g) v ∧ g.bulk ≤ bulkD d := by
  obtain ⟨fuel, h⟩ := h
  obtain ⟨g, h1, h2, h3⟩ := trod_rd hS fuel t _ _ ht h
  refine ⟨fuel, g, h1, ?_, h3⟩
  have h4 := (rd_rels h2 (Nat.le_trans h3 hb)).1
  have hf := List.all_eq_true.1 hS t ht
  cases fuel with
  | zero => exact h1.elim
  | succ n =>
  simp only [flatT] at hf
  simp only [Ok] at h1
  split at hf
  · rename_i hu
    obtain ⟨b, rfl⟩ := okWide_bool hu hval
    simp only [hu] at h1
    obtain ⟨b', rfl⟩ := h1
    exact rels_one h4
  · rename_i k hu
    obtain ⟨m, rfl⟩ := okWide_int hu hval
    simp only [hu] at h1
    obtain ⟨b', rfl, _⟩ := h1
    exact rels_one h4
  · rename_i hu
    obtain ⟨m, rfl⟩ := okWide_string hu hval
    simp only [hu] at h1
    obtain ⟨b', rfl⟩ := h1
    exact rels_one h4
  · rename_i e hu
    obtain ⟨a, l, c, rfl⟩ := okWide_slice hu hval
    simp only [hu] at h1
    obtain ⟨b', rfl, _⟩ := h1
    exact rels_one h4
  · rename_i fs hu
    simp only [Value.okWide, hu] at hval
    obtain ⟨cs, rfl, _, _⟩ := hval
    simp only [hu] at h1
    obtain ⟨l, rfl, _⟩ := h1
    simp only [argC, Rel]
    exact ⟨cs.toList, by simp, h4⟩
  · cases hf

theorem args_rels {S : List TypeId} (hS : flat P S = true) {r : Reach} {b0 : Nat} {sp : Nat → Bool} {hd : Bool} : ∀ {ts : List TypeId} {vs : List Value} {ds : List (DataW H)} {ps : List MemPlace}, (∀ t ∈ ts, t ∈ S) →
    (∀ (j : Nat) t v, ts[j]? = some t → vs[j]? = some v → Value.okWide P W r b0 t v) → DataW.TrodAll enc P W 0 sp hd ts vs ds ps → bulkDAll ds ≤ maxLen →
    ∃ gs, OkA P ts gs ∧ Rels (frzOf W) [] (gs.map argC) vs ∧ G.bulkAll gs ≤ bulkDAll ds
  | [], [], [], _, _, _, _, _ => ⟨[], trivial, by simp only [List.map_nil, Rels], by simp [G.bulkAll]⟩
  | t :: ts, v :: vs, d :: ds, ps, hm, hv, ⟨p, q, h1, h2, _⟩, hb => by
    simp only [bulkDAll] at hb ⊢
    obtain ⟨n, g, g1, g2, g3⟩ := arg_rel hS (hm t (by simp)) (hv 0 t v rfl rfl) h1 (by omega)
    obtain ⟨gs, k1, k2, k3⟩ := args_rels hS (fun t ht => hm t (by simp [ht])) (fun j t v ht hv' => hv (j + 1) t v (by simpa using ht) (by simpa using hv')) h2 (by omega)
    refine ⟨g :: gs, ⟨⟨n, g1⟩, k1⟩, ?_, by simp only [G.bulkAll]; omega⟩
    simp only [List.map_cons, Rels]
    exact ⟨v, vs, rfl, g2, k2⟩
  | [], _ :: _, _, _, _, _, h, _ => h.elim
  | [], [], _ :: _, _, _, _, h, _ => h.elim
  | _ :: _, [], _, _, _, _, h, _ => h.elim
  | _ :: _, _ :: _, [], _, _, _, h, _ => h.elim

theorem trodAll_below {ts : List TypeId} (hl : laidOutB P = true) (hr : ts.all (fun t => P.readableRec t && decide (t < P.types.size)) = true) {W' : World} (hb : Below W.heap.size W W') {sp : Nat → Bool} :
    ∀ {vs : List Value} {ds : List (DataW H)} {ps : List MemPlace}, DataW.TrodAll enc P W 0 (fun _ => true) true ts vs ds ps → (∀ x ∈ ps, x.block < W.heap.size) → (∀ x ∈ ps, sp x.block = true) → DataW.TrodAll enc P W' 0 sp true ts vs ds ps := by
  induction ts with
  | nil =>
    intro vs ds ps h _ _
    match vs, ds, h with
    | [], [], h => exact h
  | cons t ts ih =>
    intro vs ds ps h h1 h2
    match vs, ds, h with
    | v :: vs, d :: ds, ⟨p, q, k1, k2, e⟩ =>
      subst e
      simp only [List.all_cons, Bool.and_eq_true, decide_eq_true_eq] at hr
      refine ⟨p, q, WideElems.Trod_stays hl hr.1.1 hr.1.2 k1 (fun x hx => hb.same (h1 x (by simp [hx]))) (fun x hx => h2 x (by simp [hx])), ih (by simpa using hr.2) k2 (fun x hx => h1 x (by simp [hx])) (fun x hx => h2 x (by simp [hx])), rfl⟩

/-- post_of_same, where of old blocks alone is known that they stand as they were -/
theorem post_of_below {f : Func} {s : ChangeSpec} {W W' : World} {args : Array Value} {v : Value} {ds gs : List (DataW H)} {before pa pv : List MemPlace}
    (hW : DataW.Whole enc P f.params.toList s.vars false W args.toList ds gs before)
    (hres : ∀ (b : Nat) (sp : Nat → Bool) (hd : Bool), DataW.TrodAll enc P W' b sp hd f.resultTypes.toList (v.resultList f.resultTypes.size) (s.fn H (ds ++ gs)).results [])
    (hargs : ∀ sp : Nat → Bool, (∀ p ∈ before, sp p.block = true) → DataW.TrodAll enc P W' 0 sp true f.params.toList args.toList (s.fn H (ds ++ gs)).args pa)
    (hvars : ∀ sp : Nat → Bool, (∀ p ∈ before, sp p.block = true) → DataW.TrodVars enc P W' sp s.vars (s.fn H (ds ++ gs)).vars pv)
    (hps : before = pa ++ pv) (hb : Below W.heap.size W W')
    (hok : ∀ (j : Nat) (t : TypeId) (r : Value), f.resultTypes[j]? = some t → (v.resultList f.resultTypes.size)[j]? = some r → Value.okWide P W' .any 0 t r) :
    s.post enc P f false true false false W args v W' := by
  have hold : ∀ p ∈ before, (fun b => decide (b < W.heap.size)) p.block = true := fun p hp => by simpa using hW.lt p hp
  have hlt : ∀ p ∈ before, p.block < W.heap.size := fun p hp => hW.lt p hp
  refine ⟨ds, gs, before, [], pa, pv, hW, hres _ _ _, hargs _ hold, hvars _ hold, World.keptBut_mono (fun p hp => ⟨hp, ?_⟩) (hb.frame (· ∈ before)), fun _ => ?_⟩
  · rw [hps, List.mem_append] at hp
    exact Or.inr hp
  · obtain ⟨_, _, _, _, _, hz, hn⟩ := hW
    refine ⟨hok, _, _, ([] ++ pa) ++ pv, ⟨[] ++ pa, pv, trodAll_append (hargs _ (fun _ _ => rfl)) (hres _ _ _), hvars _ (fun _ _ => rfl), rfl, ?_, ?_⟩, ?_⟩
    · intro b off hp
      have hp' : MemPlace.cell b off ∈ before := by rw [hps]; simpa using hp
      rw [hb.frozen (p := ⟨b, off, none⟩) (hlt _ hp')]
      exact hz b off hp'
    · intro ha
      cases ha
    · intro p hp _
      rw [hps]
      simpa using hp

theorem entry {f : FuncId} {ts : List TypeId} {S : List TypeId} (hS : flat P S = true) (hm : ∀ t ∈ ts, t ∈ S) {r : Reach} {b0 : Nat} {args : Array Value} {ds : List (DataW H)} {ps : List MemPlace}
    (hval : ∀ (j : Nat) t v, ts[j]? = some t → args.toList[j]? = some v → Value.okWide P W r b0 t v) (h : DataW.TrodAll enc P W 0 (fun _ => true) true ts args.toList ds ps) (hk : bulkDAll ds ≤ 1048576)
    (law : ∀ gs, OkA P ts gs → G.bulkAll gs ≤ 1048576 → CallsT P f (gs.map argC) [] (Ret [] (.bool true))) :
    Calls P f args W fun e W' => e = .returned (.bool true) ∧ Below W.heap.size W W' := by
  obtain ⟨gs, k1, k2, k3⟩ := args_rels hS hm hval h (Nat.le_trans hk (by decide))
  have hc := (law gs k1 (by omega)).out (frzOf W) [] args.toList rfl (fun k => by rw [show (inp []).get k = none from rfl, show (tinp []).get k = none from rfl]; trivial) k2
  have he : ∀ k, (inp []).get k = none := fun _ => rfl
  have hs0 : St (frzOf W) (inp []) W := ⟨fun b o h => h, fun k o h => (by rw [he] at h; cases h), fun k o g h => (by rw [he] at h; cases h), fun k k' o o' g h => (by rw [he] at h; cases h)⟩
  refine Calls.mono (hc.run W hs0) ?_
  rintro e W' ⟨v, F', Lo, rfl, hs, hst, Mo, c, q1, q2, q3, q4, rfl, rfl⟩
  simp only [Rel] at q3
  subst q3
  exact ⟨rfl, hst.os, hst.tape, hst.output, hst.size, fun k hk => hst.same k hk (by rintro ⟨_, _, h, _⟩; cases h)⟩

theorem contract_bool {f : FuncId} {fn : Func} {s : ChangeSpec} {S : List TypeId} {tb : TypeId} (hl : laidOutB P = true) (hS : flat P S = true) (hm : fn.params.toList.all (fun t => S.contains t && (P.readableRec t && decide (t < P.types.size))) = true)
    (hres : fn.resultTypes = #[tb]) (htb : P.underlying tb = some .bool) (hvars : s.vars = [])
    (law : ∀ gs, OkA P fn.params.toList gs → G.bulkAll gs ≤ 1048576 → CallsT P f (gs.map argC) [] (Ret [] (.bool true)))
    {r : Reach} {b0 : Nat} {args : Array Value} {ds gs : List (DataW H)} {before : List MemPlace} (hfn : s.fn H ds = { results := [.lit (.bool true)], args := ds })
    (hval : ∀ (j : Nat) t v, fn.params[j]? = some t → args[j]? = some v → Value.okWide P W r b0 t v)
    (hW : DataW.Whole enc P fn.params.toList s.vars false W args.toList ds gs before) (hk : bulkDAll ds ≤ 1048576) :
    Calls P f args W fun e W' => ∃ v, e = .returned v ∧ s.post enc P fn false true false false W args v W' := by
  have hW' := hW
  rw [hvars] at hW
  obtain ⟨p, q, hA, hV, rfl, hfz, hnd⟩ := hW
  obtain ⟨rfl, rfl⟩ := trodVars_none hV
  have hm' := List.all_eq_true.1 hm
  refine (entry hS (fun t ht => by have := hm' t ht; simp only [Bool.and_eq_true, List.contains_iff_mem] at this; exact this.1) (fun j t v h1 h2 => hval j t v (by simpa using h1) (by simpa using h2)) hA hk law).mono ?_
  rintro e W' ⟨rfl, hb⟩
  refine ⟨_, rfl, post_of_below (pa := p) (pv := []) hW' ?_ ?_ ?_ rfl hb (ok_one hres rfl (okWide_bool_mk htb _))⟩
  · intro b sp hd
    simp only [List.append_nil, hfn, hres]
    exact trodAll_cons_mk (shut_bool htb _) trodAll_mk0
  · intro sp hsp
    simp only [List.append_nil, hfn]
    exact trodAll_below hl (List.all_eq_true.2 fun t ht => by have := hm' t ht; simp only [Bool.and_eq_true] at this ⊢; exact this.2) hb hA (fun x hx => hW'.lt x (by simp [hx])) (fun x hx => hsp x (by simp [hx]))
  · intro sp hsp
    rw [hvars]
    simp only [List.append_nil, hfn]
    exact rfl
end
end Go.Fr.T

/- Bytes and small numbers among the arguments. -/
set_option linter.unusedVariables false
set_option linter.unusedSimpArgs false
namespace Go.Fr.T
open Go Go.RowKit Go.Fr Go.Fr.Api
def bG (b : UInt8) : G := .int .u8 b.toNat
def isK (P : Program) (t : TypeId) (k : IntKind) : Bool := match P.underlying t with | some (.int k') => decide (k' = k) | _ => false
def isB (P : Program) (t : TypeId) : Bool := match P.underlying t with | some .bool => true | _ => false
theorem isK_ok {P : Program} {t : TypeId} {k : IntKind} (h : isK P t k = true) {n : Nat} {g : G} (hg : Ok P n t g) : ∃ x, g = .int k x ∧ (Lit.int k x).wf = true := by
  simp only [isK] at h
  split at h
  · rename_i k' hu
    have e := of_decide_eq_true h
    subst e
    cases n with
    | zero => exact hg.elim
    | succ n => simp only [Ok, hu] at hg; exact hg
  · cases h
theorem isB_ok {P : Program} {t : TypeId} (h : isB P t = true) {n : Nat} {g : G} (hg : Ok P n t g) : ∃ x, g = .bool x := by
  simp only [isB] at h
  split at h
  · rename_i hu; exact ok_bool hu hg
  · cases h
theorem u8_ok {P : Program} {t : TypeId} (h : isK P t .u8 = true) {n : Nat} {g : G} (hg : Ok P n t g) : ∃ b : UInt8, g = bG b := by
  obtain ⟨x, rfl, hx⟩ := isK_ok h hg
  simp only [Lit.wf, Bool.and_eq_true, decide_eq_true_eq] at hx
  have h1 : 0 ≤ x := hx.1
  have h2 : x ≤ 255 := hx.2
  refine ⟨UInt8.ofNat x.toNat, ?_⟩
  simp only [bG, UInt8.toNat_ofNat']
  congr 1
  omega
theorem u16_ok {P : Program} {t : TypeId} (h : isK P t .u16 = true) {n : Nat} {g : G} (hg : Ok P n t g) : ∃ x : Int, g = .int .u16 x ∧ 0 ≤ x ∧ x ≤ 65535 := by
  obtain ⟨x, rfl, hx⟩ := isK_ok h hg
  simp only [Lit.wf, Bool.and_eq_true, decide_eq_true_eq] at hx
  exact ⟨x, rfl, hx.1, hx.2⟩
theorem i64_ok {P : Program} {t : TypeId} (h : isK P t .i64 = true) {n : Nat} {g : G} (hg : Ok P n t g) : ∃ x : Int, g = .int .i64 x ∧ -9223372036854775808 ≤ x ∧ x ≤ 9223372036854775807 := by
  obtain ⟨x, rfl, hx⟩ := isK_ok h hg
  exact ⟨x, rfl, wf_i64 hx⟩
theorem bytes_ok {P : Program} {t e : TypeId} (hs : isSl P t e 1 = true) (h : isK P e .u8 = true) {n : Nat} {g : G} (hg : Ok P n t g) : ∃ bs : List UInt8, g = .sl 1 (bs.map bG) :=
  isSl_ok hs hg fun _ _ _ hx => u8_ok h hx
theorem argC_bytes (bs : List UInt8) : argC (.sl 1 (bs.map bG)) = .sl (bcells bs) := by
  simp only [argC, gcss_of (f := bG) (h := fun b => [bcell b]) (fun _ => rfl), bcells]
theorem argC_u8 (b : UInt8) : argC (bG b) = bcell b := rfl
theorem bulk_map {α : Type} {f : α → G} (l : List α) : l.length ≤ G.bulkAll (l.map f) := by
  induction l with
  | nil => simp
  | cons x l ih =>
    simp only [List.map_cons, G.bulkAll, List.length_cons]
    have : 1 ≤ (f x).bulk := by cases f x <;> simp only [G.bulk] <;> omega
    omega
theorem bulk_sl {α : Type} {f : α → G} (l : List α) {sz : Nat} : l.length + 1 ≤ (G.sl sz (l.map f)).bulk := by
  have := bulk_map (f := f) l
  simp only [G.bulk]; omega
/-- the arguments, one by one -/
theorem okA_cons {P : Program} {t : TypeId} {ts : List TypeId} {gs : List G} (h : OkA P (t :: ts) gs) : ∃ g r n, gs = g :: r ∧ Ok P n t g ∧ OkA P ts r := by
  cases gs with
  | nil => exact h.elim
  | cons g r => obtain ⟨⟨n, h1⟩, h2⟩ := h; exact ⟨g, r, n, rfl, h1, h2⟩
theorem okA_nil {P : Program} {gs : List G} (h : OkA P [] gs) : gs = [] := by
  cases gs with
  | nil => rfl
  | cons g r => exact h.elim
end Go.Fr.T

/- The records of the program's package of types as arguments. -/
set_option linter.unusedVariables false
set_option linter.unusedSimpArgs false
namespace Go.Fr.T
open Go Go.RowKit Go.Fr Go.Fr.Api
theorem argC_st {l : List G} : argC (.st l) = .agg (gcs (.st l)) := by simp only [argC, gcs]
theorem argC_ty (x : Ty) : argC x.g = .agg (tyC x) := by
  rw [← gcs_ty]; cases x; exact argC_st
theorem argC_fun (x : Fun) : argC x.g = .agg (funC x) := by
  rw [← gcs_fun]; exact argC_st
theorem argC_prog (x : Prog) : argC x.g = .agg (progC x) := by
  rw [← gcs_prog]; exact argC_st
theorem argC_data (x : Api.Data) : argC x.g = .agg (dataC x) := by
  rw [← gcs_data]; exact argC_st
theorem argC_I (n : Int) : argC (I n) = IC n := rfl
theorem argC_ints (l : List Int) : argC (.sl 1 (l.map I)) = .sl (ics l) := by simp only [argC, gcss_I]
theorem argC_tys (l : List Ty) {n : Nat} : argC (.sl n (l.map Ty.g)) = .sl (l.map tyC) := by simp only [argC, gcss_ty]
theorem argC_blocks (l : List Block) {n : Nat} : argC (.sl n (l.map Block.g)) = .sl (l.map blockC) := by simp only [argC, gcss_of gcs_block]
theorem argC_datas (l : List Api.Data) {n : Nat} : argC (.sl n (l.map Data.g)) = .sl (l.map dataC) := by simp only [argC, gcss_of gcs_data]
end Go.Fr.T

/- Contracts that tell of a truth value only what is asked. -/
set_option linter.unusedVariables false
set_option linter.unusedSimpArgs false
namespace Go.Fr.T
open Go Go.RowKit Go.Fr Go.Fr.Api
/-- out of a claim of existence, without a look at the goal -/
theorem exE {α : Sort _} {p : α → Prop} {K : Prop} (h : ∃ x, p x) (H : ∀ x, p x → K) : K := h.elim H
theorem withGet {α : Type} {l : List α} {k : Nat} {K : Prop} (h : k < l.length) (H : ∀ x, l[k]? = some x → x ∈ l → K) : K := H l[k] (List.getElem?_eq_getElem h) (List.getElem_mem h)
theorem withDrop {α : Type} {l : List α} {k : Nat} {K : Prop} (h : k < l.length) (H : ∀ x, l[k]? = some x → x ∈ l → l.drop k = x :: l.drop (k + 1) → K) : K := H l[k] (List.getElem?_eq_getElem h) (List.getElem_mem h) (List.drop_eq_getElem_cons h)
section
variable {P : Program} {L : TL} {ρ : TEnv}
/-- a truth value; if it is true, something holds -/
def Such (p : Prop) : List TO → C → Prop := fun Mo v => Mo = [] ∧ ∃ b, v = .bool b ∧ (b = true → p)
theorem callB {f : Nat} {args args' : List C} {K : TL → TEnv → C → Prop} {p : Prop} (h : CallsT P f args' [] (Such p)) (ha : (args.map fun c => c.canA.ren (toIn [] 1000)) = args') (k : ∀ b : Bool, (b = true → p) → K L ρ (.bool b)) : CallT P f args L ρ K := by
  subst ha
  exact ⟨[], [], [], L, [], _, .inl rfl, rfl, rfl, rfl, rfl, rfl, h, fun v Mo ⟨e1, b, e2, hp⟩ hw _ => by subst e1 e2; exact ⟨rfl, k b hp⟩⟩
theorem callBD {f : Nat} {args args' : List C} {K : TL → C → Prop} {d : Option Nat} {p : Prop} (h : CallsT P f args' [] (Such p)) (ha : (args.map fun c => c.canA.ren (toIn [] 1000)) = args') (k : ∀ b : Bool, (b = true → p) → K L (.bool b)) : CallDT P f args L d K := by
  subst ha
  exact .frz _ h fun v Mo ⟨e1, b, e2, hp⟩ hw => by subst e1 e2; exact ⟨rfl, k b hp⟩
theorem retB {Lin : List TO} {v : C} {p : Prop} (b : Bool) (hb : boxesAt Lin (List.range' 1000 Lin.length) [] = true) (e : v.canR.ren (toIn [] 1000) = .bool b) (hp : b = true → p) : RetT Lin L v (Such p) :=
  ⟨[], [], L, v, v, [], rfl, .inl ⟨rfl, rfl⟩, rfl, rfl, hb, fun _ => ⟨rfl, b, e, hp⟩⟩
end
end Go.Fr.T

/- A row that a call hands back may be taken as given up. -/
set_option linter.unusedVariables false
set_option linter.unusedSimpArgs false
namespace Go.Fr.T
open Go Go.RowKit Go.Fr
theorem CallsT.give {P : Program} {f : Nat} {args : List C} {t sz : Nat} {els : List (List C)} (h : CallsT P f args [] (Ret [.row t sz els] (.rw 1000))) : CallsT P f args [] (Ret [] (.sl els)) := by
  refine ⟨fun F Li vs hl htl hr => ?_⟩
  obtain rfl : Li = [] := List.length_eq_zero_iff.1 hl
  have hc := h.out F [] vs rfl htl hr
  refine ⟨hc.ent, ResA.mono', fun w hs => Calls.mono (hc.run w hs) ?_⟩
  rintro e w' ⟨v, F', Lo, rfl, hs', hst, Mo, c, q1, q2, q3, q4, rfl, rfl⟩
  have he0 : EnvOk (inp Lo) (fun _ => .v undef) (⟨#[], []⟩ : Act) := by
    refine ⟨fun j => ?_, fun j k off e => (by cases e), fun j a i e => (by cases e)⟩
    simp [conc]
  obtain ⟨F2, L2, g1, g2, g3, g4, g5⟩ := frz1_sound (G := fun _ => none) (k := 1000) hs' he0 (τ := fun _ => .any) ⟨q2, fun j => trivial, fun k g t e => (by cases e)⟩ (show (tinp [TO.row t sz els]).get 1000 = some (.row t sz els) from rfl)
  refine ⟨v, F2, [], rfl, g1.part (fun k o e => by cases e), ?_, [], .sl els, rfl, fun k => trivial, ?_, fun i g t cs e => (by cases e), rfl, rfl⟩
  · have hs2 := hst.trans g3
    exact ⟨hs2.le, hs2.os, hs2.tape, hs2.output, hs2.size, hs2.same, hs2.frz, fun b ⟨k, o, e, _⟩ => (by cases e)⟩
  · have := g5 q3
    have e : (C.rw 1000).frz 1000 els = .sl els := rfl
    rw [e] at this
    simp only [Rel] at this ⊢
    exact this
end Go.Fr.T
