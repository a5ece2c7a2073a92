/- Part of the proofs of the statements of this seat. -/
import Derived.Test.YtfkgdgfmkocloaaGreatDoorImT6G
import Derived.Test.YtfkgdgfmkocloaaGreatDoorImT2G
import Derived.Test.YtfkgdgfmkocloaaGreatDoorFW3
import Derived.Test.YtfkgdgfmkocloaaGreatDoorImW5G
set_option linter.unusedVariables false
set_option linter.unusedSimpArgs false
namespace Go.Fr.Tryz
open Go Go.RowKit Go.Proofs Go.Fr Go.Fr.T Go.Fr.Api

theorem RdOk.own {α : Type} {f : Nat} {args : List C} {bs : List UInt8} {o : Option (α × List UInt8)} {cell : α → C} (h : ∀ g, RdOk f (args.map (C.toAdr g)) (pin g 61) bs o cell) : RdOk f args 61 bs o cell := by
  refine CallsTX.unpinned (by omega) fun g => (h g).imp ?_ fun _ h => h
  rintro Mo c ⟨y, r, h1, rfl, h2⟩
  exact ⟨y, r, h1, rfl, h2⟩
def IR (bs : List UInt8) (cs : List C) : List TO := [.box 61 [.sl (bcells bs)], .box 59 [.own 1000 0], .box 25 cs]
theorem t28o (bs : List UInt8) : RdOk 28 [.own 1000 0, .fn 29 [.own 1000 0] []] 61 bs (listD dataD bs) (fun l => .sl (l.map dataC)) := RdOk.own fun g => t28 g (t29 g) bs
theorem t30o (bs : List UInt8) : RdOk 30 [.own 1000 0, .fn 31 [.own 1000 0] []] 61 bs (listD routD bs) (fun l => .sl (l.map routC)) := RdOk.own fun g => t30 g (t31 g) bs
theorem t32o (bs : List UInt8) : RdOk 32 [.own 1000 0] 61 bs (numD bs) IC := RdOk.own fun g => t32 g bs
def wholeD (bs : List UInt8) : Option Img := match imgD bs with
  | some (i, []) => some i
  | _ => none
set_option maxRecDepth 10000 in
theorem t27 (bs : List UInt8) : CallsTX PZ 27 [.own 1001 0, .own 1002 0] (IR bs [.nils, .nils, IC 0]) (fun Mo c => ∃ i, wholeD bs = some i ∧ Mo = IR [] (imgC i) ∧ c = .tup []) (fun v => v = failV ∧ wholeD bs = none) := by
  refine callsTX_facts Tryz.func27 facts27 rfl fun hw ho => ?_
  refine rdD (t28o bs) rfl rfl rfl (fun h => ⟨rfl, ?_⟩) fun d r1 e1 _ => ?_
  · rw [wholeD, show imgD bs = none from andD_none h]
  refine rdD (t30o r1) rfl rfl rfl (fun h => ⟨rfl, ?_⟩) fun r r2 e2 _ => ?_
  · rw [wholeD, show imgD bs = none from (andD_some e1).trans <| andD_none h]
  refine rdD (t32o r2) rfl rfl rfl (fun h => ⟨rfl, ?_⟩) fun m r3 e3 _ => ?_
  · rw [wholeD, show imgD bs = none from (andD_some e1).trans <| (andD_some e2).trans <| andD_none h]
  have hi : imgD bs = some (⟨d, r, m⟩, r3) := (andD_some e1).trans <| (andD_some e2).trans <| (andD_some e3).trans rfl
  refine chk (t33 (decide (((bcells r3).length : Int) = 0))) rfl (fun h => ⟨rfl, ?_⟩) fun h => ?_
  · have h := of_decide_eq_false h
    rw [wholeD, hi]
    cases r3 with
    | nil => exact absurd rfl h
    | cons x l => rfl
  · have h := of_decide_eq_true h
    have h3 : r3 = [] := by
      cases r3 with
      | nil => rfl
      | cons x l => simp [bcells] at h; omega
    subst h3
    exact retR [1000, 1001, 1002] rfl rfl rfl rfl ⟨⟨d, r, m⟩, by rw [wholeD, hi], rfl, rfl⟩
end Go.Fr.Tryz

set_option linter.unusedVariables false
set_option linter.unusedSimpArgs false
namespace Go.Fr.Tryz
open Go Go.RowKit Go.Proofs Go.Fr Go.Fr.T Go.Fr.Api

def stepN (h x : Int) : Int := (h * 1000003 + x + 1).tmod 2147483647
def foldN (l : List Int) : Int := l.foldl stepN 7
theorem stepN_bd {h x : Int} (h0 : 0 ≤ h) (hx : 0 ≤ x) : 0 ≤ stepN h x ∧ stepN h x < 2147483647 := by
  have : 0 ≤ h * 1000003 + x + 1 := by omega
  rw [stepN, Int.tmod_eq_emod_of_nonneg this]
  exact ⟨Int.emod_nonneg _ (by omega), Int.emod_lt_of_pos _ (by omega)⟩
def bytesN (bs : List UInt8) : List Int := bs.map fun b => (b.toNat : Int)
theorem foldN_bd : ∀ (l : List Int) (h : Int), (∀ x ∈ l, 0 ≤ x) → 0 ≤ h ∧ h < 2147483647 → 0 ≤ l.foldl stepN h ∧ l.foldl stepN h < 2147483647
  | [], h, _, hb => hb
  | x :: l, h, hl, hb => foldN_bd l _ (fun y hy => hl y (by simp [hy])) (stepN_bd hb.1 (hl x (by simp)))
def dig (bs : List UInt8) : Int := foldN (bytesN bs)
theorem dig_bd (bs : List UInt8) : 0 ≤ dig bs ∧ dig bs < 2147483647 := foldN_bd _ _ (fun x hx => by
  simp only [bytesN, List.mem_map] at hx
  obtain ⟨b, _, rfl⟩ := hx
  omega) (by omega)
theorem t57 (b : UInt8) : CallsT PZ 57 [bcell b] [] (Ret [] (.int .i64 b.toNat)) := by
  refine callsT_facts Tryz.func57 facts57 rfl fun hw _ => ?_
  refine Fit.in64 (by omega) (by have := b.toNat_lt; omega) ?_
  exact retP rfl rfl
theorem t56 (bs : List UInt8) : CallsT PZ 56 [.sl (bcells bs), .fn 57 [] []] [] (Ret [] (IC (dig bs))) := by
  refine callsT_facts Tryz.func56 facts56 rfl fun hw _ => ?_
  have hn := wf_lenB hw.1
  refine loopN bs.length 10 [5] 7 (fun h => [.int .i64 h]) (fun _ => []) (fun k h => 0 ≤ h ∧ h < 2147483647 ∧ (bytesN (bs.drop k)).foldl stepN h = dig bs) ⟨by omega, by omega, rfl⟩
    (same_keys rfl) ⟨same_keys rfl, trivial⟩ trivial (fun _ => rfl) (fun _ => rfl) ?_
  rintro k h hk ⟨h0, h1, hf⟩ hw1 _ hk64
  refine brn_p (fun hlt => ?_) (fun hge => ?_)
  · have hlt : k < bs.length := by simpa [bcells] using hlt
    obtain ⟨b, hb, hd⟩ := drop_cons hlt
    rw [hd] at hf
    obtain ⟨g1, g2⟩ := stepN_bd (x := b.toNat) h0 (by omega)
    have hbl := b.toNat_lt
    refine idxB hb ?_
    refine Fit.in64 (by omega) (by omega) ?_
    refine callP (t57 b) rfl fun _ => ?_
    refine Fit.in64 (by omega) (by omega) ?_
    refine Fit.in64 (by omega) (by omega) ?_
    refine NonZ.mk (by omega) ?_
    refine Fit.in64 (by omega) (by omega) ?_
    exact ⟨(k + 1, stepN h b.toNat), ⟨hlt, g1, g2, hf⟩, ⟨nextI, same_keys rfl, trivial⟩, trivial, nextM hlt⟩
  · have hge : ¬ k < bs.length := by simpa [bcells] using hge
    rw [drop_end hge] at hf
    exact retP rfl (congrArg (C.int .i64) hf)
theorem t17 (bs : List UInt8) : CallsT PZ 17 [.sl (bcells bs)] [] (Ret [] (IC (dig bs))) := by
  refine callsT_facts Tryz.func17 facts17 rfl fun hw _ => ?_
  refine callP (t56 bs) rfl fun _ => ?_
  exact retP rfl rfl
set_option maxRecDepth 10000 in
theorem t58 (bs : List UInt8) : CallsT PZ 58 [.sl (bcells bs)] [] (Ret [] (IC (dig bs))) := by
  refine callsT_facts Tryz.func58 facts58 rfl fun hw _ => ?_
  have hlen : bs.length ≤ 9223372036854775807 := wf_lenB hw.1
  refine loopN bs.length 4 [3] (7 : Int) (fun h => [IC h]) (fun _ => []) (fun k h => (bytesN (bs.drop k)).foldl stepN h = dig bs ∧ 0 ≤ h ∧ h < 2147483647) ⟨rfl, by omega, by omega⟩ (same_keys rfl) ⟨same_keys rfl, trivial⟩ trivial (fun _ => rfl) (fun _ => rfl) ?_
  rintro k h hk ⟨hinv, h0, h1⟩ _ _ _
  refine brn_p (fun hlt => ?_) (fun hge => ?_)
  · have hlt : k < bs.length := by simpa [bcells] using hlt
    refine withDrop hlt fun x hx hxm hd => ?_
    rw [hd] at hinv
    have hxb := x.toNat_lt
    refine Fit.in64 (by omega) (by omega) ?_
    refine idxB hx ?_
    refine Fit.in64 (by omega) (by omega) ?_
    refine Fit.in64 (by omega) (by omega) ?_
    refine Fit.in64 (by omega) (by omega) ?_
    refine NonZ.mk (by omega) ?_
    have hs := stepN_bd (x := x.toNat) h0 (by omega)
    refine Fit.in64 (by omega) (by omega) ?_
    exact ⟨(k + 1, stepN h x.toNat), ⟨hlt, hinv, hs.1, hs.2⟩, ⟨nextI, same_keys rfl, trivial⟩, trivial, nextM hlt⟩
  · have hge : ¬ k < bs.length := by simpa [bcells] using hge
    rw [drop_end hge] at hinv
    exact retP rfl (congrArg (C.int .i64) hinv)
theorem streq_bytes (a b : List UInt8) : streq ⟨a.toArray⟩ ⟨b.toArray⟩ = decide (a = b) := by simp [streq]
theorem t24 (a b : List UInt8) : CallsT PZ 24 [.sl (bcells a), .sl (bcells b)] [] (Ret [] (.bool (decide (a = b)))) := by
  refine callsT_facts Tryz.func24 facts24 rfl fun hw _ => ?_
  refine BytesT.mk ⟨a, rfl, ?_⟩
  refine BytesT.mk ⟨b, rfl, ?_⟩
  exact retP rfl (congrArg C.bool (streq_bytes a b))
def hasP (bs ps : List UInt8) : Bool := decide (ps.length ≤ bs.length ∧ bs.take ps.length = ps)
theorem t22 (bs ps : List UInt8) : CallsT PZ 22 [.sl (bcells bs), .sl (bcells ps)] [] (Ret [] (.bool (hasP bs ps))) := by
  refine callsT_facts Tryz.func22 facts22 rfl fun hw _ => ?_
  refine brn_p (fun h => ?_) (fun h => ?_)
  · have hl : ps.length ≤ bs.length := by simpa [bcells] using h
    have e : bcells (bs.take ps.length) = ((bcells bs).drop 0).take (((bcells ps).length : Int).toNat - 0) := by rw [bcells_slice]; simp [bcells]
    refine SlcT.mk (Int.le_refl 0) (by omega) (by simp only [bcells_len]; omega) bcells_sz ?_
    refine callP (t24 (bs.take ps.length) ps) (by rw [e]; rfl) fun _ => ?_
    refine retP rfl (congrArg C.bool ?_)
    simp [hasP, hl]
  · have hl : ¬ ps.length ≤ bs.length := by simpa [bcells] using h
    refine retP rfl (congrArg C.bool ?_)
    simp [hasP, hl]
theorem t23 : CallsT PZ 23 [] [] (Ret [] (.sl (bcells [76, 72, 1]))) := by
  refine callsT_facts Tryz.func23 facts23 rfl fun hw _ => ?_
  exact retP rfl rfl
end Go.Fr.Tryz

set_option linter.unusedVariables false
set_option linter.unusedSimpArgs false
namespace Go.Fr.Tryz
open Go Go.RowKit Go.Proofs Go.Fr Go.Fr.T Go.Fr.Api

theorem appB {bs : List UInt8} {els : List (List C)} {K : Prop} (n : Nat) (hn : els.length = n) (h : n + bs.length ≤ 140737488355328) (k : K) : AppT els (bcells bs) 1 1 K :=
  ⟨bcells_sz, by rw [bcells_len, hn]; simp only [maxLen]; omega, by rw [bcells_len, hn]; omega, k⟩
theorem t60 (bs : List UInt8) (hb : bs.length ≤ 140737488355328) : CallsT PZ 60 [.sl (bcells bs)] [] (Ret [.row 5 1 (bcells bs)] (.rw 1000)) := by
  refine callsT_facts Tryz.func60 facts60 rfl fun hw _ => ?_
  intro b hnil
  refine brn_split (fun h => ?_) (fun h => ?_)
  · have : bs = [] := by
      cases bs with
      | nil => rfl
      | cons x l => have := hnil (by simp [bcells]); rw [this] at h; cases h
    subst this
    exact retN 2 5 1 rfl rfl
  · refine appB 0 rfl (by omega) ?_
    exact retO [5] rfl rfl rfl rfl
def by8 (n : Int) : UInt8 := UInt8.ofNat n.toNat
def dig4 (bs : List UInt8) : List UInt8 := [by8 (dig bs / 16777216), by8 (dig bs / 65536), by8 (dig bs / 256), by8 (dig bs)]
theorem wrap_by8 {n m : Int} (h : 0 ≤ m) (e : n = m) : IntKind.wrap .u8 n = ((by8 m).toNat : Int) := by
  subst e
  simp only [IntKind.wrap, IntKind.bits, IntKind.signed, by8, UInt8.toNat_ofNat']
  simp
  omega
theorem Fit.to' {k : IntKind} {n m : Int} {K : Int → Prop} (h : k.wrap n = m) (hK : K m) : Fit k n K := ⟨by rw [h]; exact hK⟩
theorem t25r (bs : List UInt8) (hb : bs.length ≤ 70368744177664) : CallsT PZ 25 [.sl (bcells bs)] [] (Ret [] (.sl (bcells (bs ++ dig4 bs)))) := by
  refine callsT_facts Tryz.func25 facts25 rfl fun hw _ => ?_
  obtain ⟨h0, h1⟩ := dig_bd bs
  refine callP (t17 bs) rfl fun _ => ?_
  refine callO [] [7] (t60 bs (by omega)) rfl rfl rfl rfl rfl fun _ _ => ?_
  refine ⟨by omega, ?_⟩
  refine Fit.to' (wrap_by8 (m := dig bs / 16777216) (by omega) (Int.fdiv_eq_ediv_of_nonneg (b := 16777216) _ (by omega))) ?_
  refine ⟨by omega, ?_⟩
  refine Fit.to' (wrap_by8 (m := dig bs / 65536) (by omega) (Int.fdiv_eq_ediv_of_nonneg (b := 65536) _ (by omega))) ?_
  refine ⟨by omega, ?_⟩
  refine Fit.to' (wrap_by8 (m := dig bs / 256) (by omega) (Int.fdiv_eq_ediv_of_nonneg (b := 256) _ (by omega))) ?_
  refine Fit.to' (wrap_by8 (m := dig bs) (by omega) rfl) ?_
  refine appB (bs := dig4 bs) bs.length bcells_len (by simp only [dig4, List.length_cons, List.length_nil]; omega) ?_
  refine retF [7] [] ⟨_, _, rfl, rfl, rfl, rfl, ?_⟩
  refine congrArg C.sl (?_ : bcells bs ++ bcells (dig4 bs) = _)
  simp [bcells]
theorem t19 (bs : List UInt8) : CallsT PZ 19 [.sl (bcells bs)] [] (Ret [] (.sl (bcells (dig4 bs)))) := by
  refine callsT_facts Tryz.func19 facts19 rfl fun hw _ => ?_
  obtain ⟨h0, h1⟩ := dig_bd bs
  refine callP (t58 bs) rfl fun _ => ?_
  refine ⟨by omega, ?_⟩
  refine Fit.to' (wrap_by8 (m := dig bs / 16777216) (by omega) (Int.fdiv_eq_ediv_of_nonneg (b := 16777216) _ (by omega))) ?_
  refine ⟨by omega, ?_⟩
  refine Fit.to' (wrap_by8 (m := dig bs / 65536) (by omega) (Int.fdiv_eq_ediv_of_nonneg (b := 65536) _ (by omega))) ?_
  refine ⟨by omega, ?_⟩
  refine Fit.to' (wrap_by8 (m := dig bs / 256) (by omega) (Int.fdiv_eq_ediv_of_nonneg (b := 256) _ (by omega))) ?_
  refine Fit.to' (wrap_by8 (m := dig bs) (by omega) rfl) ?_
  exact retP rfl rfl
end Go.Fr.Tryz

set_option linter.unusedVariables false
set_option linter.unusedSimpArgs false
namespace Go.Fr.Tryz
open Go Go.RowKit Go.Proofs Go.Fr Go.Fr.T Go.Fr.Api

section
variable {L : TL} {ρ : TEnv}
theorem fT_mk {L : TL} {K : TL → Prop} (h : K L) : fT L K := by rw [fT_eq]; exact h
theorem caughtE {F : Nat} {fi ca args : List C} {ks : List Nat} {Lin Lin' : List TO} {R : List TO → C → Prop} {p : Prop} {K : TL → TEnv → C → Prop} (h : CallsTX PZ F (fi ++ ca) Lin' R (fun v => v = failV ∧ p)) (hs : L.sub ks = some Lin)
    (hc : (T.nodup? ks && koOk L ks ks && boxesAt Lin ks ks) = true) (ha : (args.map fun c => c.canA.ren (toIn ks 1000)) = [.fn F fi ca]) (hl : Lin.map (TO.mapC (C.ren (toIn ks 1000))) = Lin')
    (k1 : ∀ Mo c0, R Mo c0 → ks.length = Mo.length ∧ K (((L.dels ks).kills (rowsOf L ks)).puts ks (Mo.map (TO.mapC (C.ren (fromIn ks))))) (killsE (rowsOf L ks) ρ) (.bool true))
    (k2 : p → ∀ Mo, lostL Lin' Mo → ks.length = Mo.length ∧ K (((L.dels ks).kills (rowsOf L ks)).puts ks (Mo.map (TO.mapC (C.ren (fromIn ks))))) (killsE (rowsOf L ks) ρ) (.bool false)) : CallT PZ 26 args L ρ K := by
  subst hl
  simp only [Bool.and_eq_true] at hc
  obtain ⟨⟨c1, c2⟩, c3⟩ := hc
  refine ⟨[], ks, ks, L, Lin, _, .inl rfl, hs, c1, c1, c2, c3, by rw [ha]; exact caught_T h, ?_⟩
  rintro v Mo (⟨rfl, c0, hR⟩ | ⟨rfl, hp, hL⟩) _ _
  · exact k1 Mo c0 hR
  · exact k2 hp Mo hL
end
def img0 : Img := ⟨[], [], 0⟩
def sealB (b : List UInt8) : List UInt8 := b ++ dig4 b
def dec (bs : List UInt8) : Img × Int :=
  if bs.length < 7 then (img0, 16) else if hasP bs [76, 72, 1] = false then (img0, 16) else if sealB (bs.take (bs.length - 4)) ≠ bs then (img0, 17)
  else match wholeD ((bs.take (bs.length - 4)).drop 3) with
    | some i => (i, 0)
    | none => (img0, 16)
def decC (x : Img × Int) : C := .tup [.agg (imgC x.1), IC x.2]
set_option maxRecDepth 10000 in
theorem t11 (bs : List UInt8) (hb : bs.length ≤ 70368744177664) : CallsT PZ 11 [.sl (bcells bs)] [] (Ret [] (decC (dec bs))) := by
  refine callsT_facts Tryz.func11 facts11 rfl fun hw _ => ?_
  refine brn_p (fun h7 => ?_) (fun h7 => ?_)
  · have h7 : bs.length < 7 := by rw [bcells_len] at h7; omega
    refine retP rfl ?_
    rw [dec, if_pos h7]; rfl
  have h7 : ¬ bs.length < 7 := by rw [bcells_len] at h7; omega
  refine callP t23 rfl fun _ => ?_
  refine callP (t22 bs [76, 72, 1]) rfl fun _ => ?_
  refine brn_split (fun hp => ?_) (fun hp => ?_)
  · have hp : hasP bs [76, 72, 1] = false := by simpa using hp
    refine retP rfl ?_
    rw [dec, if_neg h7, if_pos hp]; rfl
  have hp : hasP bs [76, 72, 1] = true := by simpa using hp
  refine Fit.in64 (by rw [bcells_len]; omega) (by rw [bcells_len]; omega) ?_
  have e1 : ((bcells bs).drop 0).take ((((bcells bs).length : Int) - 4).toNat - 0) = bcells (bs.take (bs.length - 4)) := by
    rw [bcells_slice, bcells_len]
    simp only [List.drop_zero]
    congr 2
    omega
  refine SlcT.mk (Int.le_refl 0) (by rw [bcells_len]; omega) (by rw [bcells_len]; omega) bcells_sz ?_
  refine callP (t25r (bs.take (bs.length - 4)) (by rw [List.length_take]; omega)) (congrArg (fun q => [C.sl q]) e1) fun _ => ?_
  refine callP (t24 _ bs) rfl fun _ => ?_
  refine brn_split (fun he => ?_) (fun he => ?_)
  · have he : ¬ sealB (bs.take (bs.length - 4)) = bs := by simpa [sealB] using he
    refine retP rfl ?_
    rw [dec, if_neg h7, if_neg (by rw [hp]; exact Bool.noConfusion), if_pos he]; rfl
  have he : sealB (bs.take (bs.length - 4)) = bs := by simpa [sealB] using he
  have e2 : ((((bcells bs).drop 0).take ((((bcells bs).length : Int) - 4).toNat - 0)).drop 3).take (((((bcells bs).drop 0).take ((((bcells bs).length : Int) - 4).toNat - 0)).length : Int).toNat - 3) = bcells ((bs.take (bs.length - 4)).drop 3) := by
    rw [e1, bcells_slice, bcells_len, List.take_of_length_le (by simp)]
  have e3 : (3 : Int) ≤ ((((bcells bs).drop 0).take ((((bcells bs).length : Int) - 4).toNat - 0)).length : Int) := by rw [e1, bcells_len, List.length_take]; omega
  have e4 : ∀ es ∈ ((bcells bs).drop 0).take ((((bcells bs).length : Int) - 4).toNat - 0), es.length = 1 := by rw [e1]; exact bcells_sz
  refine SlcT.mk (by omega) e3 (Int.le_refl _) e4 ?_
  refine caughtE (t27 ((bs.take (bs.length - 4)).drop 3)) (ks := [31, 5, 6]) rfl rfl rfl (congrArg (fun q => [TO.box 61 [C.sl q], .box 59 [.own 1000 0], .box 25 [.nils, .nils, IC 0]]) e2) ?_ ?_
  · rintro Mo c0 ⟨i, hi, rfl, _⟩
    refine ⟨rfl, ?_⟩
    refine retP rfl ?_
    rw [dec, if_neg h7, if_neg (by rw [hp]; exact Bool.noConfusion), if_neg (fun q => q he), hi]; rfl
  · rintro hn Mo hl
    obtain ⟨n1, _, rfl, n2, _, rfl, n3, _, rfl, rfl⟩ := hl
    refine ⟨rfl, ?_⟩
    refine fT_mk ?_
    refine retP rfl ?_
    rw [dec, if_neg h7, if_neg (by rw [hp]; exact Bool.noConfusion), if_neg (fun q => q he), hn]; rfl
end Go.Fr.Tryz

set_option linter.unusedVariables false
set_option linter.unusedSimpArgs false
namespace Go.Fr.Tryz
open Go Go.RowKit Go.Proofs Go.Fr Go.Fr.T Go.Fr.Api

theorem CallsA.addNil {P : Program} {f : FuncId} {args : Array Value} {F : Frz} {b : Own} {t sz : Nat} {R : Frz → List Own → Value → Prop} (h : CallsA P f args F [b, .row (.slice none 0 0) t sz 0 []] R) : CallsA P f args F [b] R := by
  have hg : Loc.gives (inp [b]) (inp [b, .row (.slice none 0 0) t sz 0 []]) := ⟨.inl rfl, .inr ⟨rfl, _, _, rfl⟩, trivial⟩
  refine ⟨h.ent, h.mono, fun w hs => (h.run w (hs.gives hg)).mono ?_⟩
  rintro e w' ⟨v, F', Lo, h1, h2, h3, h4⟩
  exact ⟨v, F', Lo, h1, h2, (gives_step hg).trans h3, h4⟩
theorem t38n (t : Nat) (ys : List UInt8) (hm : ys.length ≤ 70368744177664) (hp : 0 < ys.length) :
    CallsT PZ 38 [.own 1000 0, .sl (bcells ys)] [.box t [.nils, IC 0, .int .i8 0]] (Ret (WB t ys) (.tup [IC ys.length, .opq 0])) := by
  refine ⟨fun F Li vs h1 h2 h3 => ?_⟩
  match Li, h1 with
  | [o1], _ =>
    have hb : RelO F (inp [o1]) (.box t [.nils, IC 0, .int .i8 0]) o1 := h2 1000
    cases o1 with
    | row => exact hb.elim
    | box gb tb us =>
      obtain ⟨ht, hu⟩ := hb
      simp only [Rels, Rel] at hu
      obtain ⟨v1, _, rfl, rfl, v2, _, rfl, ⟨rfl, _⟩, v3, _, rfl, ⟨rfl, _⟩, rfl⟩ := hu
      simp only [Rels] at h3
      obtain ⟨v1, _, rfl, h1, v2, _, rfl, h2, rfl⟩ := h3
      obtain ⟨a, cp, rfl, _, _, hF⟩ := sl_bytes h2
      have e1 : v1 = .pointer (some ⟨gb, 0, none⟩) := by
        simp only [Rel] at h1
        obtain ⟨g, t, cs, e, rfl⟩ := h1
        have e' : some (Own.box gb tb [.slice none 0 0, .int .i64 0, .int .i8 0]) = some (.box g t cs) := e
        injection e' with e'
        injection e' with e1
        rw [e1]
      subst e1
      have h0 : CallsA PZ 38 #[.pointer (some ⟨gb, 0, none⟩), .slice a ys.length cp] F (BO gb tb (.slice none 0 0) 0 0 []) (RW gb tb 0 ys.length ([] ++ bvals ys) (.tuple #[.int .i64 ys.length, .nilIface])) :=
        t38A F gb tb (.slice none 0 0) 0 0 0 ys.length cp a [] (bvals ys) (.inl ⟨rfl, rfl, rfl⟩) (by omega) (by omega) rfl (by simp) (bvals_len ys) hF (bvals_ones ys)
      refine CallsA.to (CallsA.addNil h0) ResA.mono' ?_
      rintro F' Lo v ⟨s', c', hs', rfl, rfl⟩
      rw [Nat.zero_add] at hs' ⊢
      refine ⟨WB t ys, _, rfl, wb_to ht hs' (by simp only [maxLen]; omega), ?_, fun i g t0 cs e => ?_, rfl, rfl⟩
      · simp only [Rel, Rels]
        exact ⟨[_, _], rfl, _, _, rfl, ⟨rfl, by simp [Lit.wf, IntKind.min, IntKind.max, IntKind.signed, IntKind.bits]; omega⟩, _, _, rfl, opq_nil, rfl⟩
      · match i with
        | 0 =>
          injection e with e
          injection e with e1 e2 e3
          subst e1 e2
          exact ⟨_, rfl⟩
        | i + 1 => cases e
set_option maxRecDepth 10000 in
theorem t45T (t : Nat) (bs : List UInt8) (lr : Int) : CallsT PZ 45 [.own 1000 0] [.box t [.sl (bcells bs), IC 0, .int .i8 lr]] (Ret [.box t [.sl (bcells bs), IC 0, .int .i8 lr]] (.sl (bcells bs))) := by
  refine callsT_facts Tryz.func45 facts45 rfl fun hw ho => ?_
  refine SlcT.mk (by omega) (by omega) (by omega) bcells_sz ?_
  refine retO [1000] rfl rfl rfl (congrArg C.sl (?_ : ((bcells bs).drop 0).take (((bcells bs).length : Int).toNat - 0) = bcells bs))
  rw [bcells_slice, bcells_len, List.take_of_length_le (by simp)]; rfl
theorem WrOk.own {f : Nat} {args : List C} {bs : List UInt8} {e : Enc} (h : ∀ g, WrB f (args.map (C.toAdr g)) (T.pin g 79) bs e) (hb : bs.length + e.1.length ≤ 70368744177664) (h0 : 0 < bs.length) : WrOk f args 79 bs e := by
  refine CallsTX.unpinned (by omega) fun g => (h g hb h0).imp ?_ fun _ h => h
  rintro Mo c ⟨h1, rfl, h2⟩
  exact ⟨h1, rfl, h2⟩
theorem t40o (bs : List UInt8) (l : List Api.Data) (hb : bs.length + (listE dataE l).1.length ≤ 70368744177664) (h0 : 0 < bs.length) : WrOk 40 [.own 1000 0, .sl (l.map dataC), .fn 41 [.own 1000 0] []] 79 bs (listE dataE l) := WrOk.own (fun g => t40 g _ (t41 g) bs l) hb h0
theorem t42o (bs : List UInt8) (l : List Rout) (hb : bs.length + (listE routE l).1.length ≤ 70368744177664) (h0 : 0 < bs.length) : WrOk 42 [.own 1000 0, .sl (l.map routC), .fn 43 [.own 1000 0] []] 79 bs (listE routE l) := WrOk.own (fun g => t42 g _ (t43 g) bs l) hb h0
def WBo (bs : List UInt8) : List TO := WB 79 bs ++ [.box 73 [.own 1000 0]]
set_option maxRecDepth 10000 in
theorem t39 (i : Img) (bs : List UInt8) (hb : bs.length + (imgE i).1.length ≤ 70368744177664) (h0 : 0 < bs.length) :
    CallsTX PZ 39 [.own 1002 0, .pt (imgC i) 0] (WBo bs) (fun Mo c => (imgE i).2 = true ∧ Mo = WBo (bs ++ (imgE i).1) ∧ c = .tup []) (fun v => v = failV ∧ (imgE i).2 = false) := by
  unfold imgE at hb ⊢
  refine callsTX_facts Tryz.func39 facts39 rfl fun hw ho => ?_
  refine wrN (t40o bs i.datas (andE_bd1 hb) h0) rfl rfl (fun h => ⟨rfl, and_no1 h⟩) fun e1 => ?_
  have hb1 := andE_bd hb e1
  refine wrN (t42o _ i.routs (andE_bd1 hb1) (pos_app h0)) rfl rfl (fun h => ⟨rfl, and_no2 (and_no1 h)⟩) fun e2 => ?_
  refine wrN (t44o 79 _ [i.main] (andE_bd hb1 e2)) rfl rfl (fun h => ⟨rfl, and_no2 (and_no2 h)⟩) fun e3 => ?_
  obtain ⟨q1, q2⟩ : _ ∧ _ := (and_fin e1 (and_fin e2 ⟨e3, rfl⟩) : _ ∧ WB 79 _ = _)
  exact retR [1000, 1001, 1002] rfl rfl rfl rfl ⟨q1, congrArg (· ++ [TO.box 73 [.own 1000 0]]) q2, rfl⟩
def encB (i : Img) : List UInt8 := match (imgE i).2 with | true => sealB ([76, 72, 1] ++ (imgE i).1) | false => []
set_option maxRecDepth 10000 in
theorem t13 (i : Img) (hb : (imgE i).1.length ≤ 70368744177600) : CallsT PZ 13 [.agg (imgC i)] [] (Ret [] (.sl (bcells (encB i)))) := by
  refine callsT_facts Tryz.func13 facts13 rfl fun hw _ => ?_
  refine callPD t23 rfl fun _ => ?_
  refine callOD [5] [5, 50] (t38n 79 [76, 72, 1] (by decide) (by decide)) rfl rfl rfl rfl rfl fun _ _ => ?_
  refine caughtE (t39 i [76, 72, 1] (by simp only [List.length_cons, List.length_nil]; omega) (by decide)) (ks := [5, 50, 3]) rfl rfl rfl rfl ?_ ?_
  · rintro Mo c0 ⟨e, rfl, _⟩
    refine ⟨rfl, ?_⟩
    refine callF [50] [5] [5] (t45T 79 ([76, 72, 1] ++ (imgE i).1) 0) ⟨_, rfl, rfl, rfl, rfl, rfl, fun _ _ => ?_⟩
    refine callP (t25r ([76, 72, 1] ++ (imgE i).1) (by simp only [List.length_append, List.length_cons, List.length_nil]; omega)) rfl fun _ => ?_
    refine retP rfl ?_
    rw [encB, e]; rfl
  · rintro e Mo hl
    obtain ⟨n1, _, rfl, _, rfl, n3, _, rfl, rfl⟩ := hl
    refine ⟨rfl, ?_⟩
    refine fT_mk ?_
    refine retP rfl ?_
    rw [encB, e]; rfl
end Go.Fr.Tryz

namespace Go.Fr.Try.Pure
def stp (h x : Int) : Int := (h * 1000003 + x + 1) % 2147483647
def run (h : Int) (l : List Int) : Int := l.foldl stp h
end Go.Fr.Try.Pure

set_option linter.unusedVariables false
set_option linter.unusedSimpArgs false
namespace Go.Fr.Tryz
open Go Go.RowKit Go.Proofs Go.Fr Go.Fr.T Go.Fr.Api
open Go.Fr.Try

theorem dig4_len (bs : List UInt8) : (dig4 bs).length = 4 := rfl
theorem seal_len (b : List UInt8) : (sealB b).length = b.length + 4 := by simp [sealB, dig4_len]
theorem seal_take (b : List UInt8) : (sealB b).take ((sealB b).length - 4) = b := by
  rw [seal_len, Nat.add_sub_cancel]
  simp [sealB]
theorem wholeD_iff {bs : List UInt8} {i : Img} : wholeD bs = some i ↔ imgD bs = some (i, []) := by
  unfold wholeD
  constructor
  · intro h
    split at h
    · rename_i e; injection h with h; subst h; exact e
    · cases h
  · intro h; rw [h]
theorem dec_enc {i : Img} (h : (imgE i).2 = true) : dec (encB i) = (i, 0) := by
  unfold encB
  rw [h]
  simp only []
  have hl := seal_len ([76, 72, 1] ++ (imgE i).1)
  have ht := seal_take ([76, 72, 1] ++ (imgE i).1)
  have hlen : ([76, 72, 1] ++ (imgE i).1).length = (imgE i).1.length + 3 := by simp
  unfold dec
  rw [ht, if_neg (by omega), if_neg, if_neg (fun q => q rfl)]
  · have e := img_rt.wr i [] h
    rw [List.append_nil] at e
    have e2 : ([76, 72, 1] ++ (imgE i).1).drop 3 = (imgE i).1 := rfl
    rw [e2, wholeD_iff.2 e]
  · have : hasP (sealB ([76, 72, 1] ++ (imgE i).1)) [76, 72, 1] = true := by
      refine decide_eq_true ⟨by rw [hl]; show 3 ≤ _; omega, rfl⟩
    rw [this]
    exact Bool.noConfusion
theorem enc_ne {i : Img} (h : (encB i).length ≠ 0) : (imgE i).2 = true := by
  cases e : (imgE i).2 with
  | true => rfl
  | false => unfold encB at h; rw [e] at h; exact absurd rfl h
theorem enc_inj {i k : Img} (hi : (encB i).length ≠ 0) (h : encB i = encB k) : i = k := by
  have h1 := dec_enc (enc_ne hi)
  have h2 := dec_enc (enc_ne (h ▸ hi))
  rw [h, h2] at h1
  injection h1 with h1
  exact h1.symm
end Go.Fr.Tryz

set_option linter.unusedVariables false
set_option linter.unusedSimpArgs false
namespace Go.Fr.Tryz
open Go Go.RowKit Go.Proofs Go.Fr Go.Fr.T Go.Fr.Api

def lentG (x : Lent) : G := .st [I x.slot, .bool x.excl, .bool x.re]
def slotG (x : Slot) : G := .st [I x.state, x.type.g, I x.var, I x.flag, .sl 3 (x.lent.map lentG)]
def slotsG (l : List Slot) : G := .sl 7 (l.map slotG)
def routG (r : Rout) : G := .st [.str r.name, .sl 3 (r.params.map Ty.g), r.result.g, .sl 1 (r.ties.map I), I r.slots, .sl 4 (r.blocks.map Block.g), .sl 1 (r.entry.map slotsG)]
def imgG (i : Img) : G := .st [.sl 5 (i.datas.map Data.g), .sl 9 (i.routs.map routG), I i.main]

theorem vint_lt : ∀ (k z : Nat), z < 128 ^ (k + 1) → (vint z).length ≤ k + 1
  | 0, z, h => by rw [vint, dif_pos (by omega)]; simp
  | k + 1, z, h => by
    rw [vint]
    split
    · simp
    · have : z / 128 < 128 ^ (k + 1) := by
        rw [Nat.pow_succ] at h
        exact Nat.div_lt_of_lt_mul (by rw [Nat.mul_comm]; exact h)
      have := vint_lt k _ this
      simp only [List.length_cons]
      omega
theorem numE_len (n : Int) : (numE n).1.length ≤ 6 := by
  unfold numE
  split
  · refine vint_lt 5 _ ?_
    unfold zz
    split <;> omega
  · simp
theorem andE_len (a b : Enc) : (andE a b).1.length ≤ a.1.length + b.1.length := by
  unfold andE
  split <;> simp
theorem eachE_len {α : Type} {f : α → Enc} {g : α → G} : ∀ (l : List α), (∀ x ∈ l, (f x).1.length ≤ 6 * (g x).bulk) → (eachE f l).1.length ≤ 6 * G.bulkAll (l.map g)
  | [], _ => by simp [eachE, okE]
  | x :: l, h => by
    have h1 := andE_len (f x) (eachE f l)
    have h2 := eachE_len l fun y hy => h y (List.mem_cons_of_mem _ hy)
    have h3 := h x (List.mem_cons_self ..)
    simp only [eachE, List.map_cons, G.bulkAll]
    omega
theorem nums_len (l : List Int) : (numsE l).1.length ≤ 6 * l.length := by
  induction l with
  | nil => simp [eachE, okE]
  | cons x l ih =>
    have h1 := andE_len (numE x) (eachE numE l)
    have h2 := numE_len x
    simp only [numsE] at ih ⊢
    simp only [eachE, List.length_cons]
    omega
theorem listE_len {α : Type} {f : α → Enc} {g : α → G} (n : Nat) (l : List α) (h : ∀ x ∈ l, (f x).1.length ≤ 6 * (g x).bulk) : (listE f l).1.length ≤ 6 * (G.sl n (l.map g)).bulk := by
  have h1 := andE_len (chkE (decide (l.length ≤ 400))) (andE (numsE [(l.length : Int)]) (eachE f l))
  have h2 := andE_len (numsE [(l.length : Int)]) (eachE f l)
  have h3 := nums_len [(l.length : Int)]
  have h4 := eachE_len l h
  simp only [G.bulk]
  unfold listE
  simp only [chkE, List.length_nil, List.length_cons] at h1 h3
  simp only [chkE]
  omega
theorem name_len (s : ByteArray) : (nameE s).1.length ≤ 6 * (G.str s).bulk := by
  have h1 := andE_len (chkE (decide (s.size ≤ 200))) (andE (numsE [(s.size : Int)]) (s.data.toList, true))
  have h2 := andE_len (numsE [(s.size : Int)]) (s.data.toList, true)
  have h3 := nums_len [(s.size : Int)]
  have h4 : s.data.toList.length = s.size := by simp
  have h5 : ((s.data.toList, true) : Enc).1.length = s.size := h4
  simp only [G.bulk]
  unfold nameE
  simp only [chkE, List.length_nil, List.length_cons] at h1 h3
  simp only [chkE]
  omega
theorem ints_len (l : List Int) : (intsE l).1.length ≤ 6 * (G.sl 1 (l.map I)).bulk := listE_len 1 l fun x _ => by
  have := nums_len [x]
  simpa [G.bulk] using this
theorem typ_len : ∀ (d : Nat) (t : Ty), (typE d t).1.length ≤ 6 * t.g.bulk
  | 0, t => by simp [typE, chkE]
  | d + 1, .mk k i l => by
    have h1 := andE_len (numsE [k, i]) (listE (typE d) l)
    have h2 := nums_len [k, i]
    have h3 := listE_len 3 l fun x _ => typ_len d x
    simp only [Ty.g, G.bulk, G.bulkAll, Ty.gs_map] at h3 ⊢
    simp only [List.length_nil, List.length_cons] at h2
    simp only [typE, Ty.kind, Ty.id, Ty.args]
    omega
theorem full_len (t : Ty) : (fullE t).1.length ≤ 6 * t.g.bulk := typ_len 8 t
theorem types_len (l : List Ty) : (typesE l).1.length ≤ 6 * (G.sl 3 (l.map Ty.g)).bulk := listE_len 3 l fun x _ => full_len x
theorem var_len (v : Variant) : (varE v).1.length ≤ 6 * v.g.bulk := by
  have h1 := andE_len (nameE v.name) (typesE v.fields)
  have h2 := name_len v.name
  have h3 := types_len v.fields
  simp only [Variant.g, G.bulk, G.bulkAll] at h2 h3 ⊢
  unfold varE
  omega
theorem data_len (d : Api.Data) : (dataE d).1.length ≤ 6 * d.g.bulk := by
  have h1 := andE_len (nameE d.name) (andE (numsE [d.module, d.params, d.drop]) (listE varE d.variants))
  have h2 := andE_len (numsE [d.module, d.params, d.drop]) (listE varE d.variants)
  have h3 := name_len d.name
  have h4 := nums_len [d.module, d.params, d.drop]
  have h5 := listE_len 2 d.variants fun x _ => var_len x
  simp only [Data.g, G.bulk, G.bulkAll] at h3 h5 ⊢
  simp only [List.length_nil, List.length_cons] at h4
  unfold dataE
  omega
theorem ins_len (x : Ins) : (insE x).1.length ≤ 6 * x.g.bulk := by
  have h1 := andE_len (numsE [x.op, x.dst, x.a, x.b, x.n]) (andE (intsE x.args) (typesE x.types))
  have h2 := andE_len (intsE x.args) (typesE x.types)
  have h3 := nums_len [x.op, x.dst, x.a, x.b, x.n]
  have h4 := ints_len x.args
  have h5 := types_len x.types
  simp only [Ins.g, G.bulk, G.bulkAll] at h4 h5 ⊢
  simp only [List.length_nil, List.length_cons] at h3
  unfold insE
  omega
theorem block_len (x : Block) : (blockE x).1.length ≤ 6 * x.g.bulk := by
  have h1 := andE_len (listE insE x.code) (andE (numsE [x.fin.kind, x.fin.a]) (intsE x.fin.targets))
  have h2 := andE_len (numsE [x.fin.kind, x.fin.a]) (intsE x.fin.targets)
  have h3 := nums_len [x.fin.kind, x.fin.a]
  have h4 := ints_len x.fin.targets
  have h5 := listE_len 7 x.code fun y _ => ins_len y
  simp only [Block.g, Term.g, G.bulk, G.bulkAll] at h4 h5 ⊢
  simp only [List.length_nil, List.length_cons] at h3
  unfold blockE
  omega
theorem lent_len (x : Lent) : (lentE x).1.length ≤ 6 * (lentG x).bulk := by
  have h3 := nums_len [x.slot, bitI x.excl, bitI x.re]
  simp only [lentG, G.bulk, G.bulkAll]
  simp only [List.length_nil, List.length_cons] at h3
  unfold lentE
  omega
theorem slot_len (s : Slot) : (slotE s).1.length ≤ 6 * (slotG s).bulk := by
  have h1 := andE_len (numsE [s.state]) (andE (fullE s.type) (andE (numsE [s.var, s.flag]) (listE lentE s.lent)))
  have h2 := andE_len (fullE s.type) (andE (numsE [s.var, s.flag]) (listE lentE s.lent))
  have h3 := andE_len (numsE [s.var, s.flag]) (listE lentE s.lent)
  have h4 := nums_len [s.state]
  have h5 := full_len s.type
  have h6 := nums_len [s.var, s.flag]
  have h7 := listE_len 3 s.lent fun y _ => lent_len y
  simp only [slotG, G.bulk, G.bulkAll] at h7 ⊢
  simp only [List.length_nil, List.length_cons] at h4 h6
  unfold slotE
  omega
theorem slots_len (l : List Slot) : (slotsE l).1.length ≤ 6 * (slotsG l).bulk := listE_len 7 l fun y _ => slot_len y
theorem rout_len (r : Rout) : (routE r).1.length ≤ 6 * (routG r).bulk := by
  have h1 := andE_len (nameE r.name) (andE (typesE r.params) (andE (fullE r.result) (andE (intsE r.ties) (andE (numsE [r.slots]) (andE (listE blockE r.blocks) (listE slotsE r.entry))))))
  have h2 := andE_len (typesE r.params) (andE (fullE r.result) (andE (intsE r.ties) (andE (numsE [r.slots]) (andE (listE blockE r.blocks) (listE slotsE r.entry)))))
  have h3 := andE_len (fullE r.result) (andE (intsE r.ties) (andE (numsE [r.slots]) (andE (listE blockE r.blocks) (listE slotsE r.entry))))
  have h4 := andE_len (intsE r.ties) (andE (numsE [r.slots]) (andE (listE blockE r.blocks) (listE slotsE r.entry)))
  have h5 := andE_len (numsE [r.slots]) (andE (listE blockE r.blocks) (listE slotsE r.entry))
  have h6 := andE_len (listE blockE r.blocks) (listE slotsE r.entry)
  have g1 := name_len r.name
  have g2 := types_len r.params
  have g3 := full_len r.result
  have g4 := ints_len r.ties
  have g5 := nums_len [r.slots]
  have g6 := listE_len 4 r.blocks fun y _ => block_len y
  have g7 := listE_len 1 r.entry fun y _ => slots_len y
  simp only [routG, G.bulk, G.bulkAll] at g1 g2 g4 g6 g7 ⊢
  simp only [List.length_nil, List.length_cons] at g5
  unfold routE
  omega
theorem img_len (i : Img) : (imgE i).1.length ≤ 6 * (imgG i).bulk := by
  have h1 := andE_len (listE dataE i.datas) (andE (listE routE i.routs) (numsE [i.main]))
  have h2 := andE_len (listE routE i.routs) (numsE [i.main])
  have g1 := listE_len 5 i.datas fun y _ => data_len y
  have g2 := listE_len 9 i.routs fun y _ => rout_len y
  have g3 := nums_len [i.main]
  simp only [imgG, G.bulk, G.bulkAll] at g1 g2 ⊢
  simp only [List.length_nil, List.length_cons] at g3
  unfold imgE
  omega
theorem gcs_lent (x : Lent) : gcs (lentG x) = lentC x := rfl
theorem gcs_slot (x : Slot) : gcs (slotG x) = slotC x := by simp only [slotG, gcs, gflat, slotC, gcs_ty, tyC_eq, gcss_of gcs_lent, List.append_nil, List.cons_append, List.nil_append]
theorem gcs_slots (l : List Slot) : gcs (slotsG l) = slotsC l := by simp only [slotsG, gcs, slotsC, gcss_of gcs_slot]
theorem gcs_rout (r : Rout) : gcs (routG r) = routC r := by simp only [routG, gcs, gflat, routC, gcs_ty, tyC_eq, gcss_ty, gcss_I, gcss_of gcs_block, gcss_of gcs_slots, List.append_nil, List.cons_append, List.nil_append]
theorem gcs_img (i : Img) : gcs (imgG i) = imgC i := by simp only [imgG, gcs, gflat, imgC, gcss_of gcs_data, gcss_of gcs_rout, List.append_nil, List.cons_append, List.nil_append]
theorem argC_img (i : Img) : argC (imgG i) = .agg (imgC i) := by rw [← gcs_img]; exact argC_st
end Go.Fr.Tryz
