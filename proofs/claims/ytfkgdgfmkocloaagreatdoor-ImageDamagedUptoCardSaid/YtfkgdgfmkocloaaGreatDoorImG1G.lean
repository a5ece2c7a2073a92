/- Part of the proofs of the statements of this seat. -/
import Derived.Test.YtfkgdgfmkocloaaGreatDoorImP4G
import Derived.Test.YtfkgdgfmkocloaaGreatDoorImL2G
import Derived.Test.YtfkgdgfmkocloaaGreatDoorImIds
import Derived.Deep.DeepWitnessRowRef
set_option linter.unusedVariables false
set_option linter.unusedSimpArgs false
namespace Go.Fr.Tryz
open Go Go.RowKit Go.Proofs Go.Fr Go.Fr.T Go.Fr.Api

theorem set_ne {b : List UInt8} {k : Nat} {x v : UInt8} (hx : b[k]? = some x) (hv : v ≠ x) : b.set k v ≠ b := fun h => by
  have h1 : (b.set k v)[k]? = some v := by
    obtain ⟨hk, _⟩ := List.getElem?_eq_some_iff.1 hx
    simp [hk]
  rw [h, hx] at h1
  injection h1 with h1
  exact hv h1.symm
theorem damaged {i : Img} (hi : (encB i).length ≠ 0) {k : Nat} {x v : UInt8} (hx : (encB i)[k]? = some x) (hv : v ≠ x) :
    dec ((encB i).set k v) = (img0, if k < 3 then 16 else 17) := by
  have hl := enc_len hi
  have hp := enc_parts hi
  obtain ⟨hk, _⟩ := List.getElem?_eq_some_iff.1 hx
  generalize hP : [76, 72, 1] ++ (imgE i).1 = p at hp
  have hpl : p.length = (imgE i).1.length + 3 := by rw [← hP]; simp
  have hls : ((encB i).set k v).length = (encB i).length := List.length_set ..
  unfold dec
  rw [hls, if_neg (by omega)]
  by_cases h3 : k < 3
  · rw [if_pos, if_pos h3]
    refine decide_eq_false fun ⟨_, e⟩ => ?_
    have h1 : (((encB i).set k v).take 3)[k]? = some v := by
      rw [List.getElem?_take_of_lt h3]; simp [hk]
    have h2 : ((encB i).take 3)[k]? = some x := by
      rw [List.getElem?_take_of_lt h3]; exact hx
    have h4 : (encB i).take 3 = [76, 72, 1] := by rw [hp, ← hP]; rfl
    have e : ((encB i).set k v).take 3 = [76, 72, 1] := e
    rw [e] at h1
    rw [h4, h1] at h2
    injection h2 with h2
    exact hv h2
  · rw [if_neg, if_neg h3]
    · rw [if_pos]
      intro h
      have ht : ((encB i).set k v).take ((encB i).length - 4) = p.set k v := by
        have e0 : (encB i).length - 4 = p.length := by omega
        rw [List.take_set, e0, hp]
        simp
      rw [ht] at h
      by_cases hk2 : k < p.length
      · have e1 : (encB i).set k v = p.set k v ++ dig4 p := by
          rw [hp, List.set_append_left _ _ hk2]
        rw [e1] at h
        have h := dig4_inj (List.append_cancel_left h)
        have hx2 : p[k]? = some x := by
          rw [hp, List.getElem?_append_left hk2] at hx; exact hx
        exact hv ((dig_set hx2).1 h)
      · have e1 : p.set k v = p := List.set_eq_of_length_le (by omega)
        rw [e1] at h
        have h : encB i = (encB i).set k v := by rw [← h, hp]; rfl
        exact set_ne hx hv h.symm
    · have : hasP ((encB i).set k v) [76, 72, 1] = true := by
        refine decide_eq_true ⟨by rw [hls]; show 3 ≤ _; omega, ?_⟩
        show ((encB i).set k v).take 3 = _
        rw [List.take_set, hp, ← hP]
        show ([76, 72, 1] : List UInt8).set k v = _
        exact List.set_eq_of_length_le (by show 3 ≤ k; omega)
      rw [this]
      exact Bool.noConfusion
end Go.Fr.Tryz

set_option linter.unusedVariables false
set_option linter.unusedSimpArgs false
namespace Go.Fr.Tryz
open Go Go.RowKit Go.Proofs Go.Fr Go.Fr.T Go.Fr.Api

theorem bcells_get {bs : List UInt8} {k : Nat} {x : UInt8} (h : bs[k]? = some x) : (bcells bs)[k]? = some [bcell x] := by simp [bcells, h]
theorem bcells_set (bs : List UInt8) (k : Nat) (v : UInt8) : (bcells bs).set k [bcell v] = bcells (bs.set k v) := by simp [bcells, List.map_set]
theorem rowSt {els : List (List C)} {j off n : Nat} {es0 : List C} {K : List C → Prop} (h : els[j]? = some es0) (hl : lenC? ((es0.drop off).take n) n = true) (k : K es0) : RowT els j off n fun _ => ∀ es, els[j]? = some es → K es :=
  ⟨es0, h, hl, fun es he => by rw [h] at he; injection he with he; rw [← he]; exact k⟩
theorem rowLd {els : List (List C)} {j n : Nat} {es0 : List C} {K : List C → Prop} (h : els[j]? = some es0) (hl : lenC? ((es0.drop 0).take n) n = true) (k : K ((es0.drop 0).take n)) : RowT els j 0 n K := ⟨es0, h, hl, k⟩
def other (x by_ : UInt8) : UInt8 := UInt8.ofNat ((x.toNat + 1 + by_.toNat % 255) % 256)
theorem other_ne (x y : UInt8) : other x y ≠ x := fun h => by
  have := congrArg UInt8.toNat h
  have hx := x.toNat_lt
  have hy := y.toNat_lt
  simp only [other, UInt8.toNat_ofNat'] at this
  omega
theorem other_wrap (x y : UInt8) : IntKind.wrap .u8 ((x.toNat : Int) + 1 + (y.toNat : Int).tmod 255) = ((other x y).toNat : Int) := by
  have hx := x.toNat_lt
  have hy := y.toNat_lt
  rw [Int.tmod_eq_emod_of_nonneg (by omega)]
  simp only [IntKind.wrap, IntKind.bits, IntKind.signed, other, UInt8.toNat_ofNat']
  simp
set_option maxRecDepth 10000 in
theorem t6w (i : Img) (b : List UInt8) (at0 : Int) (y : UInt8) (hat : 0 ≤ at0 ∧ at0 ≤ 65535) (h13 : CallsT PZ 13 [.agg (imgC i)] [] (Ret [] (.sl (bcells b)))) (hbl : (bcells b).length = b.length) (hl : b.length ≤ 6300007) (k : Nat) (hk : b.length ≠ 0 → at0.tmod (bcells b).length = k ∧ k < b.length)
    (x : UInt8) (hx : b.length ≠ 0 → b[k]? = some x) (e : Int) (he1 : k < 3 → e = 16) (he2 : ¬ k < 3 → e = 17) (h11 : b.length ≠ 0 → CallsT PZ 11 [.sl (bcells (b.set k (other x y)))] [] (Ret [] (.tup [.agg (imgC img0), IC e]))) :
    CallsT PZ 6 [.agg (imgC i), .int .u16 at0, bcell y] [] (Ret [] (.bool true)) := by
  refine callsT_facts Tryz.func6 facts6 rfl fun hw _ => ?_
  refine callP t9 rfl fun _ => ?_
  refine callB (t10 i) rfl fun q _ => ?_
  refine brn_split (fun hq => ?_) (fun hq => ?_)
  · exact retP rfl rfl
  refine callP h13 rfl fun _ => ?_
  refine brn_p (fun h0 => ?_) (fun h0 => ?_)
  · exact retP rfl rfl
  refine brn_p (fun h2 => ?_) (fun h2 => ?_)
  · exact retP rfl rfl
  have hn : b.length ≠ 0 := by omega
  have hk1 := (hk hn).1
  have hk2 := (hk hn).2
  have hx := hx hn
  have h11 := h11 hn
  have hxb := x.toNat_lt
  have hyb := y.toNat_lt
  refine Fit.in64 (by omega) (by omega) ?_
  refine NonZ.mk (by omega) ?_
  refine ⟨by omega, bcells_sz (bs := []), AppT.mk bcells_sz ?_ ?_ ?_⟩
  · show 0 + (bcells b).length ≤ maxLen
    simp only [maxLen]
    omega
  · show (0 + (bcells b).length) * 1 ≤ _
    omega
  refine InB.mk (by omega) ?_ ?_
  · show at0.tmod _ < (((bcells b).length : Nat) : Int)
    omega
  have hg0 : (bcells b)[(at0.tmod ↑(bcells b).length).toNat]? = some [bcell x] := by rw [hk1]; exact bcells_get hx
  refine rowLd hg0 rfl ?_
  refine Fit.in64 (by omega) (by omega) ?_
  refine Fit.in64 (by omega) (by omega) ?_
  refine Fit.in64 (by omega) (by omega) ?_
  refine NonZ.mk (by omega) ?_
  have hr := Int.emod_nonneg (y.toNat : Int) (show (255 : Int) ≠ 0 by omega)
  have hr2 := Int.emod_lt_of_pos (y.toNat : Int) (show (0 : Int) < 255 by omega)
  have hr3 : (y.toNat : Int).tmod 255 = (y.toNat : Int) % 255 := Int.tmod_eq_emod_of_nonneg (by omega)
  refine Fit.in64 (by omega) (by omega) ?_
  refine Fit.to' (other_wrap x y) ?_
  refine InB.mk (by omega) ?_ ?_
  · show at0.tmod _ < (((bcells b).length : Nat) : Int)
    omega
  refine ⟨rfl, rowSt hg0 rfl ?_⟩
  refine callF [36] [] [] h11 ⟨[], rfl, rfl, ?_, rfl, rfl, fun _ _ => ?_⟩
  · show [C.sl ((bcells b).set (at0.tmod ↑(bcells b).length).toNat [bcell (other x y)])] = _
    rw [hk1, Int.toNat_natCast, bcells_set]
  refine brn_p (fun h3 => ?_) (fun h3 => ?_)
  · refine brn_p (fun h4 => ?_) (fun h4 => absurd (he1 (by omega)) h4)
    exact retP rfl rfl
  · refine brn_p (fun h4 => ?_) (fun h4 => absurd (show (3 : Int) ≤ at0.tmod ↑(bcells b).length by omega) h4)
    refine retP rfl (congrArg C.bool ?_)
    exact decide_eq_true (he2 (by omega))
theorem t6 (i : Img) (hb : (imgE i).1.length ≤ 6300000) (at0 : Int) (y : UInt8) (hat : 0 ≤ at0 ∧ at0 ≤ 65535) : CallsT PZ 6 [.agg (imgC i), .int .u16 at0, bcell y] [] (Ret [] (.bool true)) := by
  have hl := enc_le hb
  have hbl := bcells_len (bs := encB i)
  by_cases h0 : (encB i).length = 0
  · exact t6w i (encB i) at0 y hat (t13 i (by omega)) hbl hl 0 (fun h => absurd h0 h) 0 (fun h => absurd h0 h) 16 (fun _ => rfl) (fun h => absurd (by omega) h) (fun h => absurd h0 h)
  · have h9 : at0.tmod ↑(bcells (encB i)).length < ↑(bcells (encB i)).length := by
      rw [Int.tmod_eq_emod_of_nonneg hat.1]
      exact Int.emod_lt_of_pos _ (by omega)
    obtain ⟨k, hk⟩ := Int.eq_ofNat_of_zero_le (show 0 ≤ at0.tmod ↑(bcells (encB i)).length by
      rw [Int.tmod_eq_emod_of_nonneg hat.1]
      exact Int.emod_nonneg at0 (by omega))
    have hkl : k < (encB i).length := by omega
    have hx : (encB i)[k]? = some (encB i)[k] := by simp [hkl]
    have hd := damaged h0 hx (other_ne (encB i)[k] y)
    refine t6w i (encB i) at0 y hat (t13 i (by omega)) hbl hl k (fun _ => ⟨hk, hkl⟩) (encB i)[k] (fun _ => hx) (if k < 3 then 16 else 17) (fun h => if_pos h) (fun h => if_neg h) (fun _ => ?_)
    have h11 := t11 ((encB i).set k (other (encB i)[k] y)) (by rw [List.length_set]; omega)
    rw [hd] at h11
    exact h11
end Go.Fr.Tryz

set_option linter.unusedVariables false
namespace Go.Fr.Tryz
open Go Go.RowKit Go.Proofs Go.Fr Go.Fr.T
theorem glob_of_laid {W : World} {p : Prop} (h : p) : Glob (frzOf W) := trivial
end Go.Fr.Tryz
