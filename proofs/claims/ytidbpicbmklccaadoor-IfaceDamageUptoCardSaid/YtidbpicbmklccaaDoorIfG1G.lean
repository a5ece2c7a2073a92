/- Part of the proofs of the statements of this seat. -/
import Derived.Test.YtidbpicbmklccaaDoorIfP2G
import Derived.Test.YtidbpicbmklccaaDoorFW3
import Derived.Test.YtidbpicbmklccaaDoorRows
import Derived.WideKeyMaps
import Derived.MakeChecks
import Derived.ChangeArms
set_option linter.unusedVariables false
set_option linter.unusedSimpArgs false
namespace Go.Fr.Tryd
open Go Go.RowKit Go.Proofs Go.Fr Go.Fr.T Go.Fr.Api

theorem t9z : CallsT PZ 9 [.agg [.sl [], .sl [], .sl [], .sl [], .sl [], .sl [], .sl [], IC 0], IC 0, .sl []] [] (Ret [] (.tup [.agg (ifC zI), IC 1])) := by
  refine callsT_facts Tryd.func9 facts9 rfl fun hw _ => ?_
  refine ⟨by decide, ?_⟩
  exact retP rfl rfl
def exE : List UInt8 := [2, 109, 0, 0, 174, 191, 214, 6, 2, 1]
theorem vint_s {z : Nat} (h : z < 128) : vint z = [UInt8.ofNat z] := by rw [vint, dif_pos h]
theorem vint_l {z : Nat} (h : ¬ z < 128) : vint z = UInt8.ofNat (128 + z % 128) :: vint (z / 128) := by rw [vint, dif_neg h]
theorem n0 : numB 0 = [0] := vint_s (by decide)
theorem n1 : numB 1 = [2] := vint_s (by decide)
theorem n7 : numB 7000023 = [174, 191, 214, 6] := by
  show vint 14000046 = _
  rw [vint_l (by decide), vint_l (by decide), vint_l (by decide), vint_s (by decide)]
  rfl
theorem exI_enc : encI exI = exE := by
  unfold encI exI textB listB
  simp only [List.map_nil, List.flatten_nil, List.length_nil, List.length_cons, List.append_nil]
  rw [show (((ByteArray.mk #[109]).size : Nat) : Int) = 1 from rfl, show (((0 + 1 : Nat)) : Int) = 1 from rfl, show ((0 : Nat) : Int) = 0 from rfl, n0, n1, n7]
  rfl
theorem exI_ok : validI exI = true := by decide +kernel
def exB : List UInt8 := exE ++ [42, 104, 50, 138]
theorem exB_eq : encB exI = exB := by
  rw [enc_eq exI_ok, exI_enc]
  decide +kernel
theorem ex_dec : decI exB = (exI, 0) := by
  rw [← exB_eq]
  exact dec_enc exI_ok (okI_of exI_ok (fun n hn => by cases hn) (by decide) (by decide) (fun s hs => by cases hs) (by decide) (by decide))
theorem ex_cut : decI (exB.take 13) = (zI, 17) := decI_2 (s := exB.take 9) (by decide) (by decide) (by decide +kernel)
theorem dec_nil : decI [] = (zI, 16) := decI_1 (by decide)
def badI : Ifc := { exI with digest := 1 }
theorem bad_no : validI badI = false := by decide +kernel
theorem bad_enc : encB badI = [] := by unfold encB; rw [bad_no]
theorem h15a : CallsT PZ 15 [.agg (ifC exI)] [] (Ret [] (.sl (bcells exB))) := exB_eq ▸ t15 exI (by rw [exI_enc]; decide)
theorem len_bad : (encI badI).length ≤ 100 := by
  unfold encI badI exI textB listB
  simp only [List.map_nil, List.flatten_nil, List.length_nil, List.length_cons, List.append_nil]
  rw [show (((ByteArray.mk #[109]).size : Nat) : Int) = 1 from rfl, show (((0 + 1 : Nat)) : Int) = 1 from rfl, show ((0 : Nat) : Int) = 0 from rfl, n0, n1]
  decide
theorem h15b : CallsT PZ 15 [.agg (ifC badI)] [] (Ret [] (.sl (bcells []))) := bad_enc ▸ t15 badI (by have := len_bad; omega)
theorem h11a : CallsT PZ 11 [.sl (bcells exB)] [] (Ret [] (.tup [.agg (ifC exI), IC 0])) := by
  have := t11 exB (by decide)
  rwa [ex_dec] at this
theorem h11b : CallsT PZ 11 [.sl (bcells (exB.take 13))] [] (Ret [] (.tup [.agg (ifC zI), IC 17])) := by
  have := t11 (exB.take 13) (by decide)
  rwa [ex_cut] at this
theorem h11c : CallsT PZ 11 [.sl (bcells [])] [] (Ret [] (.tup [.agg (ifC zI), IC 16])) := by
  have := t11 [] (by decide)
  rwa [dec_nil] at this
theorem h17a : CallsT PZ 17 [.agg (ifC exI), .sl ([].map ifC)] [] (Ret [] (.bool true)) := by
  have := t17 exI []
  rwa [show fitsI exI [] = true by decide +kernel] at this
theorem h17b : CallsT PZ 17 [.agg (ifC exI), .sl ([exI].map ifC)] [] (Ret [] (.bool false)) := by
  have := t17 exI [exI]
  rwa [show fitsI exI [exI] = false by decide +kernel] at this
theorem h22 : CallsT PZ 22 [.sl (bcells (exB.take 10))] [] (Ret [] (IC 711471754)) := by
  have := t22 (exB.take 10)
  rwa [show dig (exB.take 10) = 711471754 by decide +kernel] at this
set_option maxRecDepth 20000 in
theorem t6 : CallsT PZ 6 [] [] (Ret [] (.bool true)) := by
  refine callsT_facts Tryd.func6 facts6 rfl fun hw _ => ?_
  refine callP t21 rfl fun _ => ?_
  refine callP h15a rfl fun _ => ?_
  refine SlcT.mk (by omega) (by omega) (by decide) bcells_sz ?_
  refine callP h22 rfl fun _ => ?_
  refine idxB (bs := exB) (k := 10) (x := 42) rfl ?_
  refine Fit.to (m := 42) rfl ?_
  refine Fit.to (m := 704643072) rfl ?_
  refine idxB (bs := exB) (k := 11) (x := 104) rfl ?_
  refine Fit.to (m := 104) rfl ?_
  refine Fit.to (m := 6815744) rfl ?_
  refine Fit.to (m := 711458816) rfl ?_
  refine idxB (bs := exB) (k := 12) (x := 50) rfl ?_
  refine Fit.to (m := 50) rfl ?_
  refine Fit.to (m := 12800) rfl ?_
  refine Fit.to (m := 711471616) rfl ?_
  refine idxB (bs := exB) (k := 13) (x := 138) rfl ?_
  refine Fit.to (m := 138) rfl ?_
  refine Fit.to (m := 711471754) rfl ?_
  refine callP h11a rfl fun _ => ?_
  refine SlcT.mk (by omega) (by omega) (by decide) bcells_sz ?_
  refine callP h11b rfl fun _ => ?_
  refine callP h11c rfl fun _ => ?_
  refine callP t9z rfl fun _ => ?_
  refine callP t21 rfl fun _ => ?_
  refine SlcT.mk (by omega) (by omega) (by decide) bcells_sz ?_
  refine BytesT.mk ⟨exB.take 10, rfl, ?_⟩
  refine BytesT.mk ⟨exE, rfl, ?_⟩
  refine callPD t21 rfl fun _ => ?_
  refine callPD (t13 exI) rfl fun _ => ?_
  refine callP h15b rfl fun _ => ?_
  refine callP t21 rfl fun _ => ?_
  refine callP h17a rfl fun _ => ?_
  refine callP t21 rfl fun _ => ?_
  refine callP t21 rfl fun _ => ?_
  refine callP h17b rfl fun _ => ?_
  exact retP rfl rfl
end Go.Fr.Tryd

set_option linter.unusedVariables false
set_option linter.unusedSimpArgs false
namespace Go.Fr.Tryd
open Go Go.RowKit Go.Proofs Go.Fr Go.Fr.T Go.Fr.Api

end Go.Fr.Tryd

set_option linter.unusedVariables false
set_option linter.unusedSimpArgs false
namespace Go.Fr.Tryd
open Go Go.RowKit Go.Proofs Go.Fr Go.Fr.T Go.Fr.Api

theorem bcells_get {bs : List UInt8} {k : Nat} {x : UInt8} (h : bs[k]? = some x) : (bcells bs)[k]? = some [bcell x] := by simp [bcells, h]
theorem bcells_set (bs : List UInt8) (k : Nat) (v : UInt8) : (bcells bs).set k [bcell v] = bcells (bs.set k v) := by simp [bcells, List.map_set]
theorem rowSt {els : List (List C)} {j off n : Nat} {es0 : List C} {K : List C → Prop} (h : els[j]? = some es0) (hl : lenC? ((es0.drop off).take n) n = true) (k : K es0) : RowT els j off n fun _ => ∀ es, els[j]? = some es → K es :=
  ⟨es0, h, hl, fun es he => by rw [h] at he; injection he with he; rw [← he]; exact k⟩
theorem rowLd {els : List (List C)} {j n : Nat} {es0 : List C} {K : List C → Prop} (h : els[j]? = some es0) (hl : lenC? ((es0.drop 0).take n) n = true) (k : K ((es0.drop 0).take n)) : RowT els j 0 n K := ⟨es0, h, hl, k⟩
def other (x by_ : UInt8) : UInt8 := UInt8.ofNat ((x.toNat + 1 + by_.toNat % 255) % 256)
theorem other_ne (x y : UInt8) : other x y ≠ x := fun h => by
  have := congrArg UInt8.toNat h
  have hx := x.toNat_lt
  have hy := y.toNat_lt
  simp only [other, UInt8.toNat_ofNat'] at this
  omega
theorem u8_wrap (n : Int) : IntKind.wrap .u8 n = n % 256 := by simp [IntKind.wrap, IntKind.bits, IntKind.signed]
theorem other_wrap (x y : UInt8) : IntKind.wrap .u8 (((x.toNat : Int) + 1) % 256 + (y.toNat : Int) % 255) = ((other x y).toNat : Int) := by
  have hx := x.toNat_lt
  have hy := y.toNat_lt
  rw [u8_wrap]
  simp only [other, UInt8.toNat_ofNat']
  omega
set_option maxRecDepth 20000 in
theorem t5w (i : Ifc) (b : List UInt8) (at0 : Int) (y : UInt8) (hat : 0 ≤ at0 ∧ at0 ≤ 65535) (h15 : CallsT PZ 15 [.agg (ifC i)] [] (Ret [] (.sl (bcells b)))) (hbl : (bcells b).length = b.length) (hl : b.length ≤ 1000000007) (k : Nat) (hk : b.length ≠ 0 → at0.tmod (bcells b).length = k ∧ k < b.length)
    (x : UInt8) (hx : b.length ≠ 0 → b[k]? = some x) (h11 : b.length ≠ 0 → CallsT PZ 11 [.sl (bcells (b.set k (other x y)))] [] (Ret [] (.tup [.agg (ifC zI), IC 17]))) :
    CallsT PZ 5 [.agg (ifC i), .int .u16 at0, bcell y] [] (Ret [] (.bool true)) := by
  refine callsT_facts Tryd.func5 facts5 rfl fun hw _ => ?_
  refine callP t6 rfl fun _ => ?_
  refine callB (t8 i) rfl fun q _ => ?_
  refine brn_split (fun hq => ?_) (fun hq => ?_)
  · exact retP rfl rfl
  refine callP h15 rfl fun _ => ?_
  refine AppT.mk bcells_sz ?_ ?_ ?_
  · show 0 + (bcells b).length ≤ maxLen
    simp only [maxLen]
    omega
  · show (0 + (bcells b).length) * 1 ≤ _
    omega
  refine brn_p (fun h0 => ?_) (fun h0 => ?_)
  · exact retP rfl rfl
  have h0 : ¬ (((([] ++ bcells b : List (List C)).length : Nat) : Int) = 0) := h0
  rw [List.nil_append] at h0
  have hn : b.length ≠ 0 := by omega
  have hk1 := (hk hn).1
  have hk2 := (hk hn).2
  have hx := hx hn
  have h11 := h11 hn
  have hxb := x.toNat_lt
  have hyb := y.toNat_lt
  refine Fit.in64 (by omega) (by omega) ?_
  refine NonZ.mk (show ((bcells b).length : Int) ≠ 0 by omega) ?_
  refine InB.mk (show 0 ≤ at0.tmod ((bcells b).length : Int) by omega) (show at0.tmod ((bcells b).length : Int) < ((bcells b).length : Int) by omega) ?_
  have hg0 : (bcells b)[(at0.tmod ↑(bcells b).length).toNat]? = some [bcell x] := by rw [hk1]; exact bcells_get hx
  refine rowLd hg0 rfl ?_
  refine Fit.to (m := ((x.toNat : Int) + 1) % 256) (u8_wrap _) ?_
  refine NonZ.mk (by omega) ?_
  have hr3 : (y.toNat : Int).tmod 255 = (y.toNat : Int) % 255 := Int.tmod_eq_emod_of_nonneg (by omega)
  refine Fit.to (m := ((other x y).toNat : Int)) (by rw [hr3]; exact other_wrap x y) ?_
  refine InB.mk (show 0 ≤ at0.tmod ((bcells b).length : Int) by omega) (show at0.tmod ((bcells b).length : Int) < ((bcells b).length : Int) by omega) ?_
  refine ⟨rfl, rowSt hg0 rfl ?_⟩
  refine callF [17] [] [] h11 ⟨[], rfl, rfl, ?_, rfl, rfl, fun _ _ => ?_⟩
  · show [C.sl ((bcells b).set (at0.tmod ↑(bcells b).length).toNat [bcell (other x y)])] = _
    rw [hk1, Int.toNat_natCast, bcells_set]
  refine callP (t13 zI) rfl fun _ => ?_
  exact retP rfl rfl
theorem t5 (i : Ifc) (he : (encI i).length ≤ 1000000000) (at0 : Int) (y : UInt8) (hat : 0 ≤ at0 ∧ at0 ≤ 65535) : CallsT PZ 5 [.agg (ifC i), .int .u16 at0, bcell y] [] (Ret [] (.bool true)) := by
  have hl : (encB i).length ≤ 1000000007 := by
    unfold encB
    split
    · rw [seal_len]; omega
    · simp
  have hbl := bcells_len (bs := encB i)
  by_cases h0 : (encB i).length = 0
  · exact t5w i (encB i) at0 y hat (t15 i (by omega)) hbl hl 0 (fun h => absurd h0 h) 0 (fun h => absurd h0 h) (fun h => absurd h0 h)
  · have h9 : at0.tmod ↑(bcells (encB i)).length < ↑(bcells (encB i)).length := by
      rw [Int.tmod_eq_emod_of_nonneg hat.1]
      exact Int.emod_lt_of_pos _ (by omega)
    obtain ⟨k, hk⟩ := Int.eq_ofNat_of_zero_le (show 0 ≤ at0.tmod ↑(bcells (encB i)).length by
      rw [Int.tmod_eq_emod_of_nonneg hat.1]
      exact Int.emod_nonneg at0 (by omega))
    have hkl : k < (encB i).length := by omega
    have hx : (encB i)[k]? = some (encB i)[k] := by simp [hkl]
    have hd := damaged ((enc_ne i).1 (by omega)) hx (other_ne (encB i)[k] y)
    refine t5w i (encB i) at0 y hat (t15 i (by omega)) hbl hl k (fun _ => ⟨hk, hkl⟩) (encB i)[k] (fun _ => hx) (fun _ => ?_)
    have h11 := t11 ((encB i).set k (other (encB i)[k] y)) (by rw [List.length_set]; omega)
    rw [hd] at h11
    exact h11
end Go.Fr.Tryd

set_option linter.unusedVariables false
set_option linter.unusedSimpArgs false
namespace Go.Fr.Tryd
open Go Go.RowKit Go.Proofs Go.Fr Go.WideMaps
theorem gEOF : Tryd.prog.globalNamed "io.EOF" = some 0 := by kernel_rfl
open Go.Proofs.YtidbpicbmklccaaDoor in
theorem glob_of_laid {W : World} (h : laidMetH Tryd.prog [("io.EOF", Rows.laid_io_EOF), ("bytes.ErrTooLarge", Rows.laid_bytes_ErrTooLarge)] W) : Glob (frzOf W) := by
  rw [MakeChecks.laidMetH_plain _ _ _ (by kernel_rfl)] at h
  obtain ⟨ps, ⟨g0, t0, cs0, f0, p0, q0, hg0, ht0, hv0, hd0, _, _⟩, _, _⟩ := h
  obtain rfl := Option.some.inj (gEOF.symm.trans hg0)
  have tE : t0 = 105 := Option.some.inj (ht0.symm.trans (show (Tryd.prog.globals[0]?).map (·.type) = some 105 by kernel_rfl))
  subst tE
  have u20 : Tryd.prog.underlying 105 = some (.interface #[("Error", 92)]) := by kernel_rfl
  have hv : ∃ t u, cs0.toList = [.iface t u] := by
    cases f0 with
    | zero => simp [DataW.trod] at hd0
    | succ n =>
      rw [DataW.trod_step] at hd0
      unfold DataW.trodStep at hd0
      rw [u20] at hd0
      split at hd0 <;> simp_all [Rows.laid_io_EOF]
  obtain ⟨t, u, hcs⟩ := hv
  simp only [World.var?, hg0, Option.bind_some] at hv0
  split at hv0
  · rename_i cs t' fr he
    injection hv0 with hv0
    subst hv0
    refine ⟨.iface t u, t', fr, ?_, .inr (.inl ⟨rfl, t, u, rfl⟩)⟩
    show W.heap[0]? = _
    rw [he]
    have : cs = #[.iface t u] := by
      apply Array.ext'
      rw [hcs]
    rw [this]
  · cases hv0
end Go.Fr.Tryd
