/- The plain law of DigestBytes: the hash's step can be undone. -/
namespace Go.Fr.Try.Pure
def stp (h x : Int) : Int := (h * 1000003 + x + 1) % 2147483647
theorem cancel {p m mi q d : Int} (e : m * mi = 1 + p * q) (h : p ∣ d * m) : p ∣ d := by
  obtain ⟨c, hc⟩ := h
  refine ⟨c * mi - q * d, ?_⟩
  have h1 : d * (m * mi) = p * c * mi := by rw [← Int.mul_assoc, hc]
  rw [e, Int.mul_add, Int.mul_one] at h1
  have h2 : d = p * c * mi - d * (p * q) := by omega
  rw [Int.mul_sub]
  have h3 : p * (c * mi) = p * c * mi := (Int.mul_assoc _ _ _).symm
  have h4 : p * (q * d) = d * (p * q) := by rw [← Int.mul_assoc, Int.mul_comm]
  rw [h3, h4]
  exact h2
theorem dvd_of {a b p : Int} (h : a % p = b % p) : p ∣ a - b := Int.dvd_of_emod_eq_zero (Int.emod_eq_emod_iff_emod_sub_eq_zero.1 h)
theorem zero_of {d : Int} (h : (2147483647 : Int) ∣ d) (h0 : -2147483647 < d) (h1 : d < 2147483647) : d = 0 := by omega
theorem inv1 : (1000003 : Int) * 1523789695 = 1 + 2147483647 * 709572 := by decide +kernel
theorem inv2 : (1000002 : Int) * 1434793232 = 1 + 2147483647 * 668129 := by decide +kernel
theorem stp_inj {h k x : Int} (h0 : 0 ≤ h) (h1 : h < 2147483647) (k0 : 0 ≤ k) (k1 : k < 2147483647) (e : stp h x = stp k x) : h = k := by
  have e1 := dvd_of e
  rw [show (h * 1000003 + x + 1) - (k * 1000003 + x + 1) = (h - k) * 1000003 by clear e; rw [Int.sub_mul]; omega] at e1
  clear e
  have dd := cancel (mi := 1523789695) (q := 709572) inv1 e1
  clear e1
  have := zero_of dd (by clear dd; omega) (by clear dd; omega)
  clear dd
  omega
theorem stp_inj2 {h x y : Int} (h0 : -256 < x - y) (h1 : x - y < 256) (e : stp h x = stp h y) : x = y := by
  have e1 := dvd_of e
  rw [show (h * 1000003 + x + 1) - (h * 1000003 + y + 1) = x - y by omega] at e1
  have := zero_of e1 (by omega) (by omega)
  omega
theorem stp_bd (h x : Int) : 0 ≤ stp h x ∧ stp h x < 2147483647 := by simp only [stp]; omega
theorem stp_nn (h x : Int) : stp h x = (h * 1000003 + x + 1) % 2147483647 := rfl
def run (h : Int) (l : List Int) : Int := l.foldl stp h
theorem run_inj : ∀ {l : List Int} {h k : Int}, 0 ≤ h → h < 2147483647 → 0 ≤ k → k < 2147483647 → run h l = run k l → h = k
  | [], h, k, _, _, _, _, e => e
  | x :: l, h, k, h0, h1, k0, k1, e => by
    have := run_inj (stp_bd h x).1 (stp_bd h x).2 (stp_bd k x).1 (stp_bd k x).2 (show run (stp h x) l = run (stp k x) l from e)
    exact stp_inj h0 h1 k0 k1 this
theorem run_append (h : Int) (a b : List Int) : run h (a ++ b) = run (run h a) b := List.foldl_append
theorem run_bd {l : List Int} {h : Int} (h0 : 0 ≤ h) (h1 : h < 2147483647) : 0 ≤ run h l ∧ run h l < 2147483647 := by
  induction l generalizing h with
  | nil => exact ⟨h0, h1⟩
  | cons x l ih => exact ih (stp_bd h x).1 (stp_bd h x).2
theorem run_cons_ne {v : Int} {l : List Int} (v0 : 0 ≤ v) (v1 : v < 256) : run 7 (v :: l) ≠ run 7 l := by
  intro e
  have := run_inj (stp_bd 7 v).1 (stp_bd 7 v).2 (by decide) (by decide) (show run (stp 7 v) l = run 7 l from e)
  have e1 := dvd_of (show (7 * 1000003 + v + 1) % 2147483647 = 7 % 2147483647 from this)
  have := zero_of e1 (by omega) (by omega)
  omega
theorem run_set {a b : List Int} {x v : Int} (x0 : 0 ≤ x) (x1 : x < 256) (v0 : 0 ≤ v) (v1 : v < 256) : run 7 (a ++ v :: b) = run 7 (a ++ x :: b) ↔ v = x := by
  constructor
  · intro e
    rw [run_append, run_append] at e
    have := run_inj (stp_bd _ v).1 (stp_bd _ v).2 (stp_bd _ x).1 (stp_bd _ x).2 (show run (stp (run 7 a) v) b = run (stp (run 7 a) x) b from e)
    exact stp_inj2 (by omega) (by omega) this
  · rintro rfl; rfl
theorem run_swap {a b : List Int} {x y : Int} (x0 : 0 ≤ x) (x1 : x < 256) (y0 : 0 ≤ y) (y1 : y < 256) : run 7 (a ++ y :: x :: b) = run 7 (a ++ x :: y :: b) ↔ y = x := by
  constructor
  · intro e
    rw [run_append, run_append] at e
    generalize run 7 a = s at e
    have := run_inj (stp_bd _ _).1 (stp_bd _ _).2 (stp_bd _ _).1 (stp_bd _ _).2 (show run (stp (stp s y) x) b = run (stp (stp s x) y) b from e)
    clear e
    have e2 : ((s * 1000003 + y + 1) * 1000003 + x + 1) % 2147483647 = ((s * 1000003 + x + 1) * 1000003 + y + 1) % 2147483647 := by
      have : ∀ a b : Int, stp (stp s a) b = ((s * 1000003 + a + 1) * 1000003 + b + 1) % 2147483647 := by
        intro a b
        simp only [stp]
        have h1 : ∀ z c : Int, (z % 2147483647 * 1000003 + c) % 2147483647 = (z * 1000003 + c) % 2147483647 := by
          intro z c
          rw [Int.add_emod, Int.mul_emod, Int.emod_emod, ← Int.mul_emod, ← Int.add_emod]
        rw [Int.add_assoc, h1, ← Int.add_assoc]
      rw [← this, ← this]; assumption
    have e1 := dvd_of e2
    clear e2
    rw [show ((s * 1000003 + y + 1) * 1000003 + x + 1) - ((s * 1000003 + x + 1) * 1000003 + y + 1) = (y - x) * 1000002 by rw [Int.sub_mul]; omega] at e1
    have dd := cancel (mi := 1434793232) (q := 668129) inv2 e1
    clear e1
    have := zero_of dd (by clear dd; omega) (by clear dd; omega)
    omega
  · rintro rfl; rfl
end Go.Fr.Try.Pure
