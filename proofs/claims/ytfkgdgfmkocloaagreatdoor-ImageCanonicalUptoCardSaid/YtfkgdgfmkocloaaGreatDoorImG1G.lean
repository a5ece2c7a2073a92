/- Part of the proofs of the statements of this seat. -/
import Derived.Test.YtfkgdgfmkocloaaGreatDoorImP4G
import Derived.Test.YtfkgdgfmkocloaaGreatDoorImE3G
import Derived.Test.YtfkgdgfmkocloaaGreatDoorImIds
import Derived.Deep.DeepWitnessRowRef
set_option linter.unusedVariables false
set_option linter.unusedSimpArgs false
namespace Go.Fr.Tryz
open Go Go.RowKit Go.Proofs Go.Fr Go.Fr.T Go.Fr.Api

def exR : Rout := ⟨⟨#[109, 97, 105, 110]⟩, [], .mk 1 0 [], [], 1, [⟨[⟨1, 0, 0, 0, 7, [], []⟩], ⟨4, 0, []⟩⟩], [[⟨0, .mk 0 0 [], -1, 0, []⟩]]⟩
def exD : Api.Data := ⟨⟨#[97]⟩, 0, 0, [], 100⟩
def exImg : Img := ⟨[exD], [exR], 0⟩
set_option maxRecDepth 10000 in
theorem t18 : CallsT PZ 18 [] [] (Ret [] (.agg (imgC exImg))) := by
  refine callsT_facts Tryz.func18 facts18 rfl fun hw _ => ?_
  exact retP rfl rfl
theorem vint_s {z : Nat} (h : z < 128) : vint z = [UInt8.ofNat z] := by rw [vint, dif_pos h]
theorem vint_l {z : Nat} (h : ¬ z < 128) : vint z = UInt8.ofNat (128 + z % 128) :: vint (z / 128) := by rw [vint, dif_neg h]
theorem numE_s {n : Int} {b : List UInt8} (h : -1099511627776 ≤ n ∧ n ≤ 1099511627776) (e : vint (zz n) = b) : numE n = (b, true) := by rw [numE, if_pos h, e]
theorem n0 : numE 0 = ([0], true) := numE_s (by decide) (vint_s (by decide))
theorem n1 : numE 1 = ([2], true) := numE_s (by decide) (vint_s (by decide))
theorem n1m : numE (-1) = ([1], true) := numE_s (by decide) (vint_s (by decide))
theorem n100 : numE 100 = ([200, 1], true) := numE_s (by decide) (by rw [show zz 100 = 200 by decide, vint_l (by decide), vint_s (by decide)]; rfl)
theorem nBig : numE 1099511627777 = ([], false) := by rw [numE, if_neg (by decide)]
theorem e0 : imgE img0 = ([0, 0, 0], true) := by
  simp only [imgE, img0, listE, eachE, numsE, List.length_nil, Int.natCast_zero, n0, chkE, andE, okE]; rfl
theorem e1 : imgE ⟨[], [], -1⟩ = ([0, 0, 1], true) := by
  simp only [imgE, img0, listE, eachE, numsE, List.length_nil, Int.natCast_zero, n0, n1m, chkE, andE, okE]; rfl
theorem e2 : imgE ⟨[exD], [], 0⟩ = ([2, 2, 97, 0, 0, 200, 1, 0, 0, 0], true) := by
  simp only [imgE, img0, listE, eachE, numsE, List.length_nil, List.length_cons, Int.natCast_zero, dataE, exD, nameE, n0, n100, chkE, andE, okE]
  have : ((ByteArray.mk #[97]).size : Int) = 1 := rfl
  simp only [this, show (((0 + 1 : Nat)) : Int) = 1 from rfl, n1]; rfl
theorem eBig : (imgE ⟨[], [], 1099511627777⟩).2 = false := by
  simp only [imgE, img0, listE, eachE, numsE, List.length_nil, Int.natCast_zero, n0, nBig, chkE, andE, okE]; rfl
theorem num_ok {n : Int} (h : -1099511627776 ≤ n ∧ n ≤ 1099511627776) : (numE n).2 = true := by rw [numE, if_pos h]
theorem each_ok {α : Type} {f : α → Enc} : ∀ {l : List α}, (∀ x ∈ l, (f x).2 = true) → (eachE f l).2 = true
  | [], _ => rfl
  | x :: l, h => andE_t.2 ⟨h x (List.mem_cons_self ..), each_ok fun y hy => h y (List.mem_cons_of_mem _ hy)⟩
theorem nums_ok {l : List Int} (h : ∀ n ∈ l, -1099511627776 ≤ n ∧ n ≤ 1099511627776) : (numsE l).2 = true := each_ok fun n hn => num_ok (h n hn)
theorem list_ok {α : Type} {f : α → Enc} {l : List α} (hl : l.length ≤ 400) (h : ∀ x ∈ l, (f x).2 = true) : (listE f l).2 = true :=
  andE_t.2 ⟨decide_eq_true hl, andE_t.2 ⟨nums_ok fun n hn => by rw [List.mem_singleton.1 hn]; omega, each_ok h⟩⟩
theorem name_ok {s : ByteArray} (h : s.size ≤ 200) : (nameE s).2 = true := andE_t.2 ⟨decide_eq_true h, andE_t.2 ⟨nums_ok fun n hn => by rw [List.mem_singleton.1 hn]; omega, rfl⟩⟩
theorem one_ok {α : Type} {f : α → Enc} {x : α} (h : (f x).2 = true) : (listE f [x]).2 = true := list_ok (by simp) fun y hy => by rw [List.mem_singleton.1 hy]; exact h
theorem nil_ok {α : Type} {f : α → Enc} : (listE f []).2 = true := list_ok (by simp) fun y hy => by cases hy
theorem leaf_ok {k i : Int} (h : ∀ n ∈ [k, i], -1099511627776 ≤ n ∧ n ≤ 1099511627776) : (fullE (.mk k i [])).2 = true := andE_t.2 ⟨nums_ok h, nil_ok⟩
theorem exD_ok : (dataE exD).2 = true := andE_t.2 ⟨name_ok (by decide), andE_t.2 ⟨nums_ok (by decide), nil_ok⟩⟩
theorem exR_ok : (routE exR).2 = true :=
  andE_t.2 ⟨name_ok (by decide), andE_t.2 ⟨nil_ok, andE_t.2 ⟨leaf_ok (by decide), andE_t.2 ⟨nil_ok, andE_t.2 ⟨nums_ok (by decide),
    andE_t.2 ⟨one_ok (andE_t.2 ⟨one_ok (andE_t.2 ⟨nums_ok (by decide), andE_t.2 ⟨nil_ok, nil_ok⟩⟩), andE_t.2 ⟨nums_ok (by decide), nil_ok⟩⟩),
      one_ok (f := slotsE) (one_ok (andE_t.2 ⟨nums_ok (by decide), andE_t.2 ⟨leaf_ok (by decide), andE_t.2 ⟨nums_ok (by decide), nil_ok⟩⟩⟩))⟩⟩⟩⟩⟩⟩
theorem ex_ok : (imgE exImg).2 = true := andE_t.2 ⟨one_ok exD_ok, andE_t.2 ⟨one_ok exR_ok, nums_ok (by decide)⟩⟩
theorem dgZ : dig4 [76, 72, 1, 0, 0, 0] ≠ [0, 0, 0, 0] := by decide +kernel
theorem encZ : encB img0 = [76, 72, 1, 0, 0, 0] ++ dig4 [76, 72, 1, 0, 0, 0] := by rw [encB, e0]; rfl
theorem encM : encB ⟨[], [], -1⟩ = [76, 72, 1, 0, 0, 1] ++ dig4 [76, 72, 1, 0, 0, 1] := by rw [encB, e1]; rfl
theorem encD : encB ⟨[exD], [], 0⟩ = [76, 72, 1, 2, 2, 97, 0, 0, 200, 1, 0, 0, 0] ++ dig4 [76, 72, 1, 2, 2, 97, 0, 0, 200, 1, 0, 0, 0] := by rw [encB, e2]; rfl
theorem encN : encB ⟨[], [], 1099511627777⟩ = [] := by rw [encB, eBig]
theorem dec3 : dec [76, 72, 1] = (img0, 16) := by rw [dec, if_pos (by decide)]
theorem dec10 : dec [76, 72, 1, 0, 0, 0, 0, 0, 0, 0] = (img0, 17) := by
  rw [dec, if_neg (by decide), if_neg (by decide), if_pos]
  intro h
  have h : [76, 72, 1, 0, 0, 0] ++ dig4 [76, 72, 1, 0, 0, 0] = [76, 72, 1, 0, 0, 0] ++ [0, 0, 0, 0] := h
  exact dgZ (List.append_cancel_left h)
theorem ex_len : (imgE exImg).1.length ≤ 1000 := by
  have := img_len exImg
  have e : (imgG exImg).bulk ≤ 100 := by decide +kernel
  omega
theorem h13a {A : List UInt8} (h : encB img0 = A) : CallsT PZ 13 [.agg (imgC img0)] [] (Ret [] (.sl (bcells A))) := h ▸ t13 img0 (by rw [e0]; decide)
theorem h13b {A : List UInt8} (h : encB ⟨[], [], -1⟩ = A) : CallsT PZ 13 [.agg (imgC ⟨[], [], -1⟩)] [] (Ret [] (.sl (bcells A))) := h ▸ t13 ⟨[], [], -1⟩ (by rw [e1]; decide)
theorem h13c {A : List UInt8} (h : encB ⟨[exD], [], 0⟩ = A) : CallsT PZ 13 [.agg (imgC ⟨[exD], [], 0⟩)] [] (Ret [] (.sl (bcells A))) := h ▸ t13 ⟨[exD], [], 0⟩ (by rw [e2]; decide)
theorem h13d : CallsT PZ 13 [.agg (imgC ⟨[], [], 1099511627777⟩)] [] (Ret [] (.sl (bcells []))) := encN ▸ t13 ⟨[], [], 1099511627777⟩ (by
  have := img_len ⟨[], [], 1099511627777⟩
  have e : (imgG ⟨[], [], 1099511627777⟩).bulk ≤ 100 := by decide +kernel
  omega)
theorem h13e : CallsT PZ 13 [.agg (imgC exImg)] [] (Ret [] (.sl (bcells (encB exImg)))) := t13 exImg (by have := ex_len; omega)
theorem enc_le {i : Img} {n : Nat} (h : (imgE i).1.length ≤ n) : (encB i).length ≤ n + 7 := by
  unfold encB
  split
  · rw [seal_len]; simp; omega
  · simp
theorem h11a : CallsT PZ 11 [.sl (bcells (encB exImg))] [] (Ret [] (decC (exImg, 0))) := dec_enc ex_ok ▸ t11 (encB exImg) (by have := enc_le ex_len; omega)
theorem h11b : CallsT PZ 11 [.sl (bcells [76, 72, 1])] [] (Ret [] (decC (img0, 16))) := dec3 ▸ t11 [76, 72, 1] (by decide)
theorem h11c : CallsT PZ 11 [.sl (bcells [76, 72, 1, 0, 0, 0, 0, 0, 0, 0])] [] (Ret [] (decC (img0, 17))) := dec10 ▸ t11 [76, 72, 1, 0, 0, 0, 0, 0, 0, 0] (by decide)
theorem ex_ne : exImg ≠ img0 := fun h => by
  have := congrArg (fun i : Img => i.datas.length) h
  simp [exImg, img0] at this
theorem h16a : CallsT PZ 16 [.agg (imgC exImg), .agg (imgC exImg)] [] (Ret [] (.bool true)) := tru_yes (p := exImg = exImg) rfl ▸ t16 exImg exImg
theorem h16b : CallsT PZ 16 [.agg (imgC exImg), .agg (imgC img0)] [] (Ret [] (.bool false)) := tru_no (p := exImg = img0) ex_ne ▸ t16 exImg img0
theorem h17 : CallsT PZ 17 [.sl (bcells [])] [] (Ret [] (IC 7)) := t17 []
end Go.Fr.Tryz

set_option linter.unusedVariables false
set_option linter.unusedSimpArgs false
namespace Go.Fr.Tryz
open Go Go.RowKit Go.Proofs Go.Fr Go.Fr.T Go.Fr.Api

theorem bytesE {els : List (List C)} {K : List UInt8 → Prop} (bs : List UInt8) (h : els = bcells bs) (k : K bs) : BytesT els K := ⟨bs, h, k⟩
set_option maxRecDepth 10000 in
theorem t9w (A B Cc D E : List UInt8) (X : Img) (ha : CallsT PZ 13 [.agg [.sl [], .sl [], IC 0]] [] (Ret [] (.sl (bcells A)))) (hb : CallsT PZ 13 [.agg [.sl [], .sl [], IC (-1)]] [] (Ret [] (.sl (bcells B))))
    (hc : CallsT PZ 13 [.agg [.sl (X.datas.map dataC), .sl [], IC 0]] [] (Ret [] (.sl (bcells Cc)))) (h19 : CallsT PZ 19 [.sl (bcells [76, 72, 1, 0, 0, 0])] [] (Ret [] (.sl (bcells D))))
    (he : CallsT PZ 13 [.agg (imgC X)] [] (Ret [] (.sl (bcells E)))) (hd : CallsT PZ 11 [.sl (bcells E)] [] (Ret [] (.tup [.agg (imgC X), IC 0])))
    (hd2 : CallsT PZ 11 [.sl (bcells [76, 72, 1])] [] (Ret [] (.tup [.agg [.sl [], .sl [], IC 0], IC 16]))) (hd3 : CallsT PZ 11 [.sl (bcells [76, 72, 1, 0, 0, 0, 0, 0, 0, 0])] [] (Ret [] (.tup [.agg [.sl [], .sl [], IC 0], IC 17])))
    (h13d : CallsT PZ 13 [.agg [.sl [], .sl [], IC 1099511627777]] [] (Ret [] (.sl (bcells []))))
    (h18 : CallsT PZ 18 [] [] (Ret [] (.agg (imgC X)))) (hs : CallsT PZ 16 [.agg (imgC X), .agg (imgC X)] [] (Ret [] (.bool true))) (hn : CallsT PZ 16 [.agg (imgC X), .agg [.sl [], .sl [], IC 0]] [] (Ret [] (.bool false)))
    (hDl : D.length = 4) (eA : A = [76, 72, 1, 0, 0, 0] ++ D) (lB : B.length = 10) (gB : B[5]? = some 1) (lC : Cc.length = 17) (gC : (Cc.drop 3).take 10 = [2, 2, 97, 0, 0, 200, 1, 0, 0, 0]) : CallsT PZ 9 [] [] (Ret [] (.bool true)) := by
  refine callsT_facts Tryz.func9 facts9 rfl fun hw _ => ?_
  refine callP ha rfl fun _ => ?_
  refine callP hb rfl fun _ => ?_
  refine callP h18 rfl fun _ => ?_
  refine callP hc rfl fun _ => ?_
  refine callP h18 rfl fun _ => ?_
  refine callP he rfl fun _ => ?_
  refine callP hd rfl fun _ => ?_
  refine callP hd2 rfl fun _ => ?_
  refine callP hd3 rfl fun _ => ?_
  refine callP h13d rfl fun _ => ?_
  refine bytesE _ rfl ?_
  refine callPD h19 rfl fun _ => ?_
  refine ⟨by rw [bcells_len]; omega, bcells_sz (bs := [76, 72, 1, 0, 0, 0]), appB 6 rfl (by omega) ?_⟩
  refine bytesE ([76, 72, 1, 0, 0, 0] ++ D) rfl ?_
  refine brn_split (fun q => ?_) (fun q => ?_)
  · refine brn_p (fun q1 => ?_) (fun q1 => absurd (show ((bcells B).length : Int) = 10 by rw [bcells_len, lB]; rfl) q1)
    refine idxB (k := 5) gB ?_
    refine brn_p (fun q2 => ?_) (fun q2 => absurd (show ((bcells Cc).length : Int) = 17 by rw [bcells_len, lC]; rfl) q2)
    refine SlcT.mk (by omega) (by omega) (by omega) bcells_sz ?_
    refine BytesT.mk ⟨(Cc.drop 3).take 10, bcells_slice Cc 3 10, ?_⟩
    refine BytesT.mk ⟨[2, 2, 97, 0, 0, 200, 1, 0, 0, 0], rfl, ?_⟩
    refine brn_split (fun q3 => ?_) (fun q3 => ?_)
    · refine callPD h18 rfl fun _ => ?_
      refine callPD hs rfl fun _ => ?_
      refine callPD hn rfl fun _ => ?_
      refine callPD h17 rfl fun _ => ?_
      exact retP rfl rfl
    · exfalso
      rw [gC, streq_bytes, decide_eq_true rfl] at q3
      cases q3
  · exfalso
    rw [eA, streq_bytes, decide_eq_true rfl] at q
    cases q
theorem t9 : CallsT PZ 9 [] [] (Ret [] (.bool true)) :=
  t9w (encB img0) (encB ⟨[], [], -1⟩) (encB ⟨[exD], [], 0⟩) (dig4 [76, 72, 1, 0, 0, 0]) (encB exImg) exImg (h13a rfl) (h13b rfl) (h13c rfl) (t19 [76, 72, 1, 0, 0, 0]) h13e h11a h11b h11c h13d t18 h16a h16b rfl encZ
    (by rw [encM]; rfl) (by rw [encM]; rfl) (by rw [encD]; rfl) (by rw [encD]; rfl)
end Go.Fr.Tryz

set_option linter.unusedVariables false
set_option linter.unusedSimpArgs false
namespace Go.Fr.Tryz
open Go Go.RowKit Go.Proofs Go.Fr Go.Fr.T Go.Fr.Api

theorem same15 {x y : Img} {b : Bool} (h : tru (x = y) = b) : CallsT PZ 15 [.agg (imgC x), .agg (imgC y)] [] (Ret [] (.bool b)) := h ▸ t15 x y
set_option maxRecDepth 10000 in
theorem t5 (bs : List UInt8) (hb : bs.length ≤ 1048576) : CallsT PZ 5 [.sl (bcells bs)] [] (Ret [] (.bool true)) := by
  have h11 := t11 bs (by omega)
  have hbl := bcells_len (bs := bs)
  have h00 := same15 (tru_yes (p := img0 = img0) rfl).symm
  rcases dec_cases bs with ⟨i, e, hi, he, h7, hd⟩ | e | e
  · rw [e] at h11
    have hdb := dig_bd (bs.take (bs.length - 4))
    have h17 := t17 (bs.take (bs.length - 4))
    have h13 := t13 i (by
      have : (encB i).length ≠ 0 := by rw [he]; omega
      have := enc_len this
      rw [he] at this; omega)
    rw [he] at h13
    have e1 : ((bcells bs).drop 0).take ((((bcells bs).length : Int) - 4).toNat - 0) = bcells (bs.take (bs.length - 4)) := by
      rw [bcells_slice, bcells_len]
      simp only [List.drop_zero]
      congr 2
      omega
    have e2 : ((bcells bs).drop (((bcells bs).length : Int) - 4).toNat).take (((bcells bs).length : Int).toNat - (((bcells bs).length : Int) - 4).toNat) = bcells (bs.drop (bs.length - 4)) := by
      rw [bcells_slice, bcells_len]
      rw [show ((bs.length : Int) - 4).toNat = bs.length - 4 by omega, List.take_of_length_le (by simp)]
    refine callsT_facts Tryz.func5 facts5 rfl fun hw _ => ?_
    refine callP t9 rfl fun _ => ?_
    refine brn_p (fun h0 => ?_) (fun h0 => ?_)
    · exact retP rfl rfl
    refine callP h11 rfl fun _ => ?_
    refine brn_p (fun h0 => absurd h0 (by omega)) (fun h0 => ?_)
    refine Fit.in64 (by omega) (by omega) ?_
    refine SlcT.mk (Int.le_refl 0) (by omega) (by omega) bcells_sz ?_
    refine callP h17 (congrArg (fun q => [C.sl q]) e1) fun _ => ?_
    refine ⟨by omega, ?_⟩
    refine Fit.to' (wrap_by8 (m := dig (bs.take (bs.length - 4)) / 16777216) (by omega) (Int.fdiv_eq_ediv_of_nonneg (b := 16777216) _ (by omega))) ?_
    refine ⟨by omega, ?_⟩
    refine Fit.to' (wrap_by8 (m := dig (bs.take (bs.length - 4)) / 65536) (by omega) (Int.fdiv_eq_ediv_of_nonneg (b := 65536) _ (by omega))) ?_
    refine ⟨by omega, ?_⟩
    refine Fit.to' (wrap_by8 (m := dig (bs.take (bs.length - 4)) / 256) (by omega) (Int.fdiv_eq_ediv_of_nonneg (b := 256) _ (by omega))) ?_
    refine Fit.to' (wrap_by8 (m := dig (bs.take (bs.length - 4))) (by omega) rfl) ?_
    refine BytesT.mk ⟨bs, rfl, ?_⟩
    refine callPD h13 rfl fun _ => ?_
    refine BytesT.mk ⟨bs, rfl, ?_⟩
    refine brn_split (fun q => ?_) (fun q => ?_)
    · refine BytesT.mk ⟨dig4 (bs.take (bs.length - 4)), rfl, ?_⟩
      refine Fit.in64 (by omega) (by omega) ?_
      refine SlcT.mk (by omega) (by omega) (by omega) bcells_sz ?_
      refine BytesT.mk ⟨bs.drop (bs.length - 4), e2, ?_⟩
      refine retP rfl (congrArg C.bool ?_)
      rw [streq_bytes, hd]
      exact decide_eq_true rfl
    · exfalso
      rw [streq_bytes, decide_eq_true rfl] at q
      cases q
  · rw [e] at h11
    refine callsT_facts Tryz.func5 facts5 rfl fun hw _ => ?_
    refine callP t9 rfl fun _ => ?_
    refine brn_p (fun h0 => ?_) (fun h0 => ?_)
    · exact retP rfl rfl
    refine callP h11 rfl fun _ => ?_
    refine callP h00 rfl fun _ => ?_
    exact retP rfl rfl
  · rw [e] at h11
    refine callsT_facts Tryz.func5 facts5 rfl fun hw _ => ?_
    refine callP t9 rfl fun _ => ?_
    refine brn_p (fun h0 => ?_) (fun h0 => ?_)
    · exact retP rfl rfl
    refine callP h11 rfl fun _ => ?_
    refine callP h00 rfl fun _ => ?_
    exact retP rfl rfl
end Go.Fr.Tryz

set_option linter.unusedVariables false
namespace Go.Fr.Tryz
open Go Go.RowKit Go.Proofs Go.Fr Go.Fr.T
theorem glob_of_laid {W : World} {p : Prop} (h : p) : Glob (frzOf W) := trivial
end Go.Fr.Tryz
