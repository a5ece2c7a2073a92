/- Part of the proofs of the statements of this seat. -/
import Derived.Test.YtgapnemcomkomaaDgT6G
import Derived.Test.YtgapnemcomkomaaFW2
/- Digest: whole functions, types, joins (printed by dg7.py). -/
set_option linter.unusedVariables false
set_option linter.unusedSimpArgs false
namespace Go.Fr.Try
open Go Go.RowKit Go.Proofs Go.Fr Go.Fr.T Go.Fr.Api

/-- the writer, and what a closure holds -/
def Wx33 (p : C) (bs : List UInt8) (x : Fun) : List TO := [.box 114 [.rw 1001, p], .row 5 1 (bcells bs), .box 30 (funC x)]
theorem t33 {po : Option Prog} {p : C} (hp : PC po p) (x : Fun) (bs : List UInt8) (hb : (bs ++ encSig po x).length ≤ 2 ^ 46) : CallsT P 33 [.own 1000 0, .own 1002 0] (Wx33 p bs x) (Ret (Wx33 p (bs ++ encSig po x) x) (.tup [])) := by
  have h := t34 hp x bs hb
  generalize encSig po x = code at h hb ⊢
  refine callsT_facts Try.func33 facts33 rfl fun hw _ => ?_
  have hp' := hp
  cases hp
  all_goals
    refine callO [1000, 1001] [1000, 1001] h rfl rfl rfl rfl rfl fun _ _ => ?_
    exact retO [1000, 1001, 1002] rfl rfl rfl rfl
theorem t32_33 (x : Fun) (hb : (encSig none x).length ≤ 2 ^ 46) : CallsT P 32 [.nilp, .fn 33 [] [.own 1000 0]] [.box 30 (funC x)] (Ret [.box 30 (funC x), .row 5 1 (bcells (encSig none x))] (.rw 1001)) := by
  have h := t33 .nil x [] hb
  generalize encSig none x = code at h ⊢
  refine callsT_facts Try.func32 facts32 rfl fun hw _ => ?_
  refine callG [(8, .box 114 [.rw 2000, .nilp]), (1000, .box 30 (funC x)), (2000, .row 5 1 [])] [8, 2000, 1000] [8, 2000, 1000] h
    ⟨.inl ⟨_, rfl, .inr ⟨114, _, _, rfl, rfl, _, _, rfl, .inr (.inr (.inr (.inl ⟨rfl, 2000, 5, 1, rfl, rfl, rfl⟩))), _, _, rfl, .inr (.inl ⟨rfl, rfl⟩), rfl⟩⟩, .inl ⟨_, rfl, .inl ⟨rfl, rfl⟩⟩, .inr ⟨rfl, 5, 1, rfl⟩, trivial⟩
    rfl rfl rfl rfl rfl fun _ _ => ?_
  exact retO [1000, 2000] rfl rfl rfl rfl
/-- the writer, and what a closure holds -/
def Wx35 (p : C) (bs : List UInt8) (x : Fun) : List TO := [.box 114 [.rw 1001, p], .row 5 1 (bcells bs), .box 30 (funC x)]
theorem t35 {po : Option Prog} {p : C} (hp : PC po p) (x : Fun) (bs : List UInt8) (hb : (bs ++ encFun po x).length ≤ 2 ^ 46) : CallsT P 35 [.own 1000 0, .own 1002 0] (Wx35 p bs x) (Ret (Wx35 p (bs ++ encFun po x) x) (.tup [])) := by
  have h := t36 hp x bs hb
  generalize encFun po x = code at h hb ⊢
  refine callsT_facts Try.func35 facts35 rfl fun hw _ => ?_
  have hp' := hp
  cases hp
  all_goals
    refine callO [1000, 1001] [1000, 1001] h rfl rfl rfl rfl rfl fun _ _ => ?_
    exact retO [1000, 1001, 1002] rfl rfl rfl rfl
theorem t32_35 (x : Fun) (hb : (encFun none x).length ≤ 2 ^ 46) : CallsT P 32 [.nilp, .fn 35 [] [.own 1000 0]] [.box 30 (funC x)] (Ret [.box 30 (funC x), .row 5 1 (bcells (encFun none x))] (.rw 1001)) := by
  have h := t35 .nil x [] hb
  generalize encFun none x = code at h ⊢
  refine callsT_facts Try.func32 facts32 rfl fun hw _ => ?_
  refine callG [(8, .box 114 [.rw 2000, .nilp]), (1000, .box 30 (funC x)), (2000, .row 5 1 [])] [8, 2000, 1000] [8, 2000, 1000] h
    ⟨.inl ⟨_, rfl, .inr ⟨114, _, _, rfl, rfl, _, _, rfl, .inr (.inr (.inr (.inl ⟨rfl, 2000, 5, 1, rfl, rfl, rfl⟩))), _, _, rfl, .inr (.inl ⟨rfl, rfl⟩), rfl⟩⟩, .inl ⟨_, rfl, .inl ⟨rfl, rfl⟩⟩, .inr ⟨rfl, 5, 1, rfl⟩, trivial⟩
    rfl rfl rfl rfl rfl fun _ _ => ?_
  exact retO [1000, 2000] rfl rfl rfl rfl
/-- the writer, and what a closure holds -/
def Wx44 (p : C) (bs : List UInt8) (x : Ty) : List TO := [.box 114 [.rw 1001, p], .row 5 1 (bcells bs), .box 26 (tyC x)]
theorem t44 {po : Option Prog} {p : C} (hp : PC po p) (x : Ty) (bs : List UInt8) (hb : (bs ++ encTy po x).length ≤ 2 ^ 46) : CallsT P 44 [.own 1000 0, .own 1002 0] (Wx44 p bs x) (Ret (Wx44 p (bs ++ encTy po x) x) (.tup [])) := by
  have h := t45 hp x bs hb
  generalize encTy po x = code at h hb ⊢
  rw [tyC_eq] at h
  unfold Wx44
  rw [tyC_eq]
  refine callsT_facts Try.func44 facts44 rfl fun hw _ => ?_
  have hp' := hp
  cases hp
  all_goals
    refine callO [1000, 1001] [1000, 1001] h rfl rfl rfl rfl rfl fun _ _ => ?_
    exact retO [1000, 1001, 1002] rfl rfl rfl rfl
theorem t32_44 (x : Ty) (hb : (encTy none x).length ≤ 2 ^ 46) : CallsT P 32 [.nilp, .fn 44 [] [.own 1000 0]] [.box 26 (tyC x)] (Ret [.box 26 (tyC x), .row 5 1 (bcells (encTy none x))] (.rw 1001)) := by
  have h := t44 .nil x [] hb
  generalize encTy none x = code at h ⊢
  unfold Wx44 at h
  rw [tyC_eq] at h ⊢
  refine callsT_facts Try.func32 facts32 rfl fun hw _ => ?_
  refine callG [(8, .box 114 [.rw 2000, .nilp]), (1000, .box 26 [IC x.kind, IC x.id, .sl (x.args.map tyC)]), (2000, .row 5 1 [])] [8, 2000, 1000] [8, 2000, 1000] h
    ⟨.inl ⟨_, rfl, .inr ⟨114, _, _, rfl, rfl, _, _, rfl, .inr (.inr (.inr (.inl ⟨rfl, 2000, 5, 1, rfl, rfl, rfl⟩))), _, _, rfl, .inr (.inl ⟨rfl, rfl⟩), rfl⟩⟩, .inl ⟨_, rfl, .inl ⟨rfl, rfl⟩⟩, .inr ⟨rfl, 5, 1, rfl⟩, trivial⟩
    rfl rfl rfl rfl rfl fun _ _ => ?_
  exact retO [1000, 2000] rfl rfl rfl rfl
theorem t13 (f : Fun) (hb : (encFun none f).length ≤ 2 ^ 46) : CallsT P 13 [.agg (funC f)] [] (Ret [] (.tup [.int .i64 (foldN (bytesN (encSig none f))), .int .i64 (foldN (bytesN (encFun none f)))])) := by
  have hs : (encSig none f).length ≤ 2 ^ 46 := by simp only [encFun, List.length_append] at hb; omega
  have h1 := t32_33 f hs
  have h2 := t32_35 f hb
  generalize encSig none f = c1 at h1 ⊢
  generalize encFun none f = c2 at h2 ⊢
  refine callsT_facts Try.func13 facts13 rfl fun hw _ => ?_
  refine callO [1] [1, 5] h1 rfl rfl rfl rfl rfl fun _ _ => ?_
  refine callF [5] [] [] (t15 c1) ⟨[], rfl, rfl, rfl, rfl, rfl, fun _ _ => ?_⟩
  refine callO [1] [1, 8] h2 rfl rfl rfl rfl rfl fun _ _ => ?_
  refine callF [8] [] [] (t15 c2) ⟨[], rfl, rfl, rfl, rfl, rfl, fun _ _ => ?_⟩
  exact retP rfl rfl
/-- the bytes of a type, given up -/
theorem t20 (t : Ty) (hb : (encTy none t).length ≤ 2 ^ 46) : CallsT P 20 [.agg (tyC t)] [] (Ret [] (.sl (bcells (encTy none t)))) := by
  have h := t32_44 t hb
  generalize encTy none t = code at h ⊢
  rw [tyC_eq] at h ⊢
  refine callsT_facts Try.func20 facts20 rfl fun hw _ => ?_
  refine callO [1] [1, 4] h rfl rfl rfl rfl rfl fun _ _ => ?_
  exact retF [4] [] ⟨_, [], rfl, rfl, rfl, rfl, rfl⟩
def modN (n : Int) : Int := (n.tmod 2147483647 + 2147483647).tmod 2147483647
theorem tmod_bd (n : Int) : -2147483647 < n.tmod 2147483647 ∧ n.tmod 2147483647 < 2147483647 := by
  have h1 := Int.lt_tmod_of_pos n (b := 2147483647) (by omega)
  have h2 := Int.tmod_lt_of_pos n (b := 2147483647) (by omega)
  omega
theorem modN_bd (n : Int) : 0 ≤ modN n ∧ modN n < 2147483647 := by
  have h := tmod_bd n
  unfold modN
  rw [Int.tmod_eq_emod_of_nonneg (by omega)]
  exact ⟨Int.emod_nonneg _ (by omega), Int.emod_lt_of_pos _ (by omega)⟩
theorem t42 (n : Int) : CallsT P 42 [IC n] [] (Ret [] (IC (modN n))) := by
  refine callsT_facts Try.func42 facts42 rfl fun hw _ => ?_
  have h := tmod_bd n
  refine NonZ.mk (by omega) ?_
  refine Fit.in64 (by omega) (by omega) ?_
  refine NonZ.mk (by omega) ?_
  exact retP rfl rfl
theorem t41 (l : List Int) : CallsT P 41 [.sl (ics l), .fn 42 [] []] [] (Ret [] (.int .i64 (foldN (l.map modN)))) := by
  refine callsT_facts Try.func41 facts41 rfl fun hw _ => ?_
  have hn : l.length ≤ 9223372036854775807 := by have := wf_len hw.1; simpa [ics] using this
  refine loopN l.length 10 [5] 7 (fun h => [.int .i64 h]) (fun _ => []) (fun k h => 0 ≤ h ∧ h < 2147483647 ∧ ((l.drop k).map modN).foldl stepN h = foldN (l.map modN)) ⟨by omega, by omega, rfl⟩
    (same_keys rfl) ⟨same_keys rfl, trivial⟩ trivial (fun _ => rfl) (fun _ => rfl) ?_
  rintro k h hk ⟨h0, h1, hf⟩ hw1 _ hk64
  refine brn_p (fun hlt => ?_) (fun hge => ?_)
  · have hlt : k < l.length := by simpa [ics] using hlt
    obtain ⟨x, hx, hd⟩ := drop_cons hlt
    rw [hd] at hf
    obtain ⟨m1, m2⟩ := modN_bd x
    obtain ⟨g1, g2⟩ := stepN_bd (x := modN x) h0 m1
    refine idxI hx ?_
    refine Fit.in64 (by omega) (by omega) ?_
    refine callP (t42 x) rfl fun _ => ?_
    refine Fit.in64 (by omega) (by omega) ?_
    refine Fit.in64 (by omega) (by omega) ?_
    refine NonZ.mk (by omega) ?_
    refine Fit.in64 (by omega) (by omega) ?_
    exact ⟨(k + 1, stepN h (modN x)), ⟨hlt, g1, g2, hf⟩, ⟨nextI, same_keys rfl, trivial⟩, trivial, nextM hlt⟩
  · have hge : ¬ k < l.length := by simpa [ics] using hge
    rw [drop_end hge] at hf
    exact retP rfl (congrArg (C.int .i64) hf)
theorem t17 (l : List Int) : CallsT P 17 [.sl (ics l)] [] (Ret [] (.int .i64 (foldN (l.map modN)))) := by
  refine callsT_facts Try.func17 facts17 rfl fun hw _ => ?_
  exact callP (t41 l) rfl fun _ => retP rfl rfl
theorem t53 (x : Api.Data) : CallsT P 53 [.agg (dataC x)] [] (Ret [] (IC x.module)) := by
  refine callsT_facts Try.func53 facts53 rfl fun hw _ => ?_
  exact retP rfl rfl
set_option maxRecDepth 10000 in
theorem t52 (l : List Api.Data) (m : Int) (hl : l.length ≤ 2 ^ 30) : CallsT P 52 [.sl (l.map dataC), IC m, .fn 53 [] []] [] (Ret [] (.sl ((l.filter fun x => decide (x.module = m)).map dataC))) := by
  refine callsT_facts Try.func52 facts52 rfl fun hw _ => ?_
  refine loopN l.length 12 [7] [] (fun _ => [.rw 7]) (fun s => [(7, .row 58 5 (s.map dataC))]) (fun k s => s.length ≤ k ∧ s ++ (l.drop k).filter (fun x => decide (x.module = m)) = l.filter fun x => decide (x.module = m)) ⟨Nat.le_refl _, by simp⟩
    (same_keys rfl) ⟨.inr (.inr (.inr (.inl ⟨rfl, 7, 58, 5, rfl, rfl, rfl⟩))), trivial⟩ ⟨.inr ⟨rfl, 58, 5, rfl⟩, trivial⟩ (fun _ => rfl) (fun _ => rfl) ?_
  rintro k s hk ⟨hsk, hinv⟩ _ _ _
  refine brn_p (fun hlt => ?_) (fun hge => ?_)
  · have hlt : k < l.length := by simpa using hlt
    obtain ⟨x, hx, hd⟩ := drop_cons hlt
    rw [hd] at hinv
    refine idxT hx rfl rfl ?_
    refine callP (t53 x) rfl fun _ => ?_
    refine brn_p (fun he => ?_) (fun he => ?_)
    · refine AppT.mk ?_ ?_ ?_ ?_
      · intro es h
        rcases List.mem_cons.1 h with rfl | h
        · rfl
        · cases h
      · show (s.map dataC).length + 1 ≤ maxLen
        rw [List.length_map]; simp only [maxLen]; omega
      · show ((s.map dataC).length + 1) * 64 ≤ _
        rw [List.length_map]; omega
      refine Fit.in64 (by omega) (by omega) ?_
      refine ⟨(k + 1, s ++ [x]), ⟨hlt, by simpa using hsk, ?_⟩, ⟨nextI, same_keys rfl, trivial⟩, ⟨.inl ⟨_, rfl, .inl ⟨?_, rfl⟩⟩, trivial⟩, nextM hlt⟩
      · rw [← hinv, List.filter_cons, if_pos (by simpa using he)]; simp
      · refine congrArg (TO.row 58 5) ?_
        rw [List.map_append]; rfl
    · refine Fit.in64 (by omega) (by omega) ?_
      refine ⟨(k + 1, s), ⟨hlt, by show s.length ≤ k + 1; omega, ?_⟩, ⟨nextI, same_keys rfl, trivial⟩, ⟨.inl ⟨_, rfl, .inl ⟨rfl, rfl⟩⟩, trivial⟩, nextM hlt⟩
      rw [← hinv, List.filter_cons, if_neg (by simpa using he)]
  · have hge : ¬ k < l.length := by simpa using hge
    rw [drop_end hge] at hinv
    refine retF [7] [] ⟨_, [], rfl, rfl, rfl, rfl, ?_⟩
    simp only [List.filter_nil, List.append_nil] at hinv
    subst hinv
    rfl
theorem t61 (x : Impl) : CallsT P 61 [.agg (implC x)] [] (Ret [] (IC x.module)) := by
  refine callsT_facts Try.func61 facts61 rfl fun hw _ => ?_
  exact retP rfl rfl
set_option maxRecDepth 10000 in
theorem t60 (l : List Impl) (m : Int) (hl : l.length ≤ 2 ^ 30) : CallsT P 60 [.sl (l.map implC), IC m, .fn 61 [] []] [] (Ret [] (.sl ((l.filter fun x => decide (x.module = m)).map implC))) := by
  refine callsT_facts Try.func60 facts60 rfl fun hw _ => ?_
  refine loopN l.length 12 [7] [] (fun _ => [.rw 7]) (fun s => [(7, .row 43 8 (s.map implC))]) (fun k s => s.length ≤ k ∧ s ++ (l.drop k).filter (fun x => decide (x.module = m)) = l.filter fun x => decide (x.module = m)) ⟨Nat.le_refl _, by simp⟩
    (same_keys rfl) ⟨.inr (.inr (.inr (.inl ⟨rfl, 7, 43, 8, rfl, rfl, rfl⟩))), trivial⟩ ⟨.inr ⟨rfl, 43, 8, rfl⟩, trivial⟩ (fun _ => rfl) (fun _ => rfl) ?_
  rintro k s hk ⟨hsk, hinv⟩ _ _ _
  refine brn_p (fun hlt => ?_) (fun hge => ?_)
  · have hlt : k < l.length := by simpa using hlt
    obtain ⟨x, hx, hd⟩ := drop_cons hlt
    rw [hd] at hinv
    refine idxT hx rfl rfl ?_
    refine callP (t61 x) rfl fun _ => ?_
    refine brn_p (fun he => ?_) (fun he => ?_)
    · refine AppT.mk ?_ ?_ ?_ ?_
      · intro es h
        rcases List.mem_cons.1 h with rfl | h
        · rfl
        · cases h
      · show (s.map implC).length + 1 ≤ maxLen
        rw [List.length_map]; simp only [maxLen]; omega
      · show ((s.map implC).length + 1) * 96 ≤ _
        rw [List.length_map]; omega
      refine Fit.in64 (by omega) (by omega) ?_
      refine ⟨(k + 1, s ++ [x]), ⟨hlt, by simpa using hsk, ?_⟩, ⟨nextI, same_keys rfl, trivial⟩, ⟨.inl ⟨_, rfl, .inl ⟨?_, rfl⟩⟩, trivial⟩, nextM hlt⟩
      · rw [← hinv, List.filter_cons, if_pos (by simpa using he)]; simp
      · refine congrArg (TO.row 43 8) ?_
        rw [List.map_append]; rfl
    · refine Fit.in64 (by omega) (by omega) ?_
      refine ⟨(k + 1, s), ⟨hlt, by show s.length ≤ k + 1; omega, ?_⟩, ⟨nextI, same_keys rfl, trivial⟩, ⟨.inl ⟨_, rfl, .inl ⟨rfl, rfl⟩⟩, trivial⟩, nextM hlt⟩
      rw [← hinv, List.filter_cons, if_neg (by simpa using he)]
  · have hge : ¬ k < l.length := by simpa using hge
    rw [drop_end hge] at hinv
    refine retF [7] [] ⟨_, [], rfl, rfl, rfl, rfl, ?_⟩
    simp only [List.filter_nil, List.append_nil] at hinv
    subst hinv
    rfl
theorem t68 (x : Fun) : CallsT P 68 [.agg (funC x)] [] (Ret [] (IC x.module)) := by
  refine callsT_facts Try.func68 facts68 rfl fun hw _ => ?_
  exact retP rfl rfl
set_option maxRecDepth 10000 in
theorem t67 (l : List Fun) (m : Int) (hl : l.length ≤ 2 ^ 30) : CallsT P 67 [.sl (l.map funC), IC m, .fn 68 [] []] [] (Ret [] (.sl ((l.filter fun x => decide (x.module = m)).map funC))) := by
  refine callsT_facts Try.func67 facts67 rfl fun hw _ => ?_
  refine loopN l.length 12 [7] [] (fun _ => [.rw 7]) (fun s => [(7, .row 30 11 (s.map funC))]) (fun k s => s.length ≤ k ∧ s ++ (l.drop k).filter (fun x => decide (x.module = m)) = l.filter fun x => decide (x.module = m)) ⟨Nat.le_refl _, by simp⟩
    (same_keys rfl) ⟨.inr (.inr (.inr (.inl ⟨rfl, 7, 30, 11, rfl, rfl, rfl⟩))), trivial⟩ ⟨.inr ⟨rfl, 30, 11, rfl⟩, trivial⟩ (fun _ => rfl) (fun _ => rfl) ?_
  rintro k s hk ⟨hsk, hinv⟩ _ _ _
  refine brn_p (fun hlt => ?_) (fun hge => ?_)
  · have hlt : k < l.length := by simpa using hlt
    obtain ⟨x, hx, hd⟩ := drop_cons hlt
    rw [hd] at hinv
    refine idxT hx rfl rfl ?_
    refine callP (t68 x) rfl fun _ => ?_
    refine brn_p (fun he => ?_) (fun he => ?_)
    · refine AppT.mk ?_ ?_ ?_ ?_
      · intro es h
        rcases List.mem_cons.1 h with rfl | h
        · rfl
        · cases h
      · show (s.map funC).length + 1 ≤ maxLen
        rw [List.length_map]; simp only [maxLen]; omega
      · show ((s.map funC).length + 1) * 176 ≤ _
        rw [List.length_map]; omega
      refine Fit.in64 (by omega) (by omega) ?_
      refine ⟨(k + 1, s ++ [x]), ⟨hlt, by simpa using hsk, ?_⟩, ⟨nextI, same_keys rfl, trivial⟩, ⟨.inl ⟨_, rfl, .inl ⟨?_, rfl⟩⟩, trivial⟩, nextM hlt⟩
      · rw [← hinv, List.filter_cons, if_pos (by simpa using he)]; simp
      · refine congrArg (TO.row 30 11) ?_
        rw [List.map_append]; rfl
    · refine Fit.in64 (by omega) (by omega) ?_
      refine ⟨(k + 1, s), ⟨hlt, by show s.length ≤ k + 1; omega, ?_⟩, ⟨nextI, same_keys rfl, trivial⟩, ⟨.inl ⟨_, rfl, .inl ⟨rfl, rfl⟩⟩, trivial⟩, nextM hlt⟩
      rw [← hinv, List.filter_cons, if_neg (by simpa using he)]
  · have hge : ¬ k < l.length := by simpa using hge
    rw [drop_end hge] at hinv
    refine retF [7] [] ⟨_, [], rfl, rfl, rfl, rfl, ?_⟩
    simp only [List.filter_nil, List.append_nil] at hinv
    subst hinv
    rfl
theorem t19 (a b : List UInt8) : CallsT P 19 [.sl (bcells a), .sl (bcells b)] [] (Ret [] (.bool (decide (a = b)))) := by
  refine callsT_facts Try.func19 facts19 rfl fun hw _ => ?_
  refine BytesT.mk ⟨a, rfl, ?_⟩
  refine BytesT.mk ⟨b, rfl, ?_⟩
  refine retP rfl ?_
  show C.bool (streq ⟨a.toArray⟩ ⟨b.toArray⟩) = _
  simp [streq]
def tyInt : Ty := .mk 1 0 []
theorem t30 : CallsT P 30 [] [] (Ret [] (.agg (tyC tyInt))) := by
  refine callsT_facts Try.func30 facts30 rfl fun hw _ => ?_
  exact retP rfl rfl
end Go.Fr.Try

/- Digest: modules (printed by dg8.py). -/
set_option linter.unusedVariables false
set_option linter.unusedSimpArgs false
namespace Go.Fr.Try
open Go Go.RowKit Go.Proofs Go.Fr Go.Fr.T Go.Fr.Api

def zeroF : Fun := ⟨⟨#[]⟩, 0, 0, [], 0, .mk 0 0 [], [], [], []⟩
theorem t65s (l : List Fun) (i : Int) (s : Fun) (h : elem l i = some s) : CallsT P 65 [.sl (l.map funC), IC i] [] (Ret [] (.tup [.agg (funC s), .bool true])) := by
  refine callsT_facts Try.func65 facts65 rfl fun hw _ => ?_
  obtain ⟨h1, h2, h3⟩ := elem_some h
  refine brn_p (fun h => absurd h h1) (fun _ => ?_)
  refine brn_p (fun h => absurd h (by simpa using h2)) (fun _ => ?_)
  refine idxE h1 h3 rfl rfl ?_
  exact retP rfl rfl
theorem t65n (l : List Fun) (i : Int) (h : elem l i = none) : CallsT P 65 [.sl (l.map funC), IC i] [] (Ret [] (.tup [.agg (funC zeroF), .bool false])) := by
  refine callsT_facts Try.func65 facts65 rfl fun hw _ => ?_
  rcases elem_none h with h1 | ⟨h1, h2⟩
  · refine brn_p (fun _ => ?_) (fun h => absurd h1 h)
    exact retP rfl rfl
  · refine brn_p (fun h => absurd h h1) (fun _ => ?_)
    refine brn_p (fun _ => ?_) (fun h => absurd (by simpa using h2) h)
    exact retP rfl rfl
theorem t65 (l : List Fun) (i : Int) : ∃ b, CallsT P 65 [.sl (l.map funC), IC i] [] (Ret [] (.tup [.agg (funC ((elem l i).getD zeroF)), .bool b])) := by
  cases h : elem l i with
  | some s => exact ⟨_, t65s l i s h⟩
  | none => exact ⟨_, t65n l i h⟩
def encVariant (po : Option Prog) (v : Variant) : List UInt8 := encSs [v.name] ++ encL (encTy po) v.fields
theorem t57 {po : Option Prog} {p : C} (hp : PC po p) (v : Variant) (bs : List UInt8) (hb : (bs ++ encVariant po v).length ≤ 2 ^ 46) : CallsT P 57 [.agg (variantC v), .own 1002 0] (WrC p bs) (Ret (WrC p (bs ++ encVariant po v)) (.tup [])) := by
  have e : bs ++ encVariant po v = bs ++ encSs [v.name] ++ encL (encTy po) v.fields := by simp [encVariant]
  rw [e] at hb ⊢
  have h45 : ∀ (x : Ty) (s : List UInt8), (s ++ encTy po x).length ≤ 2 ^ 46 → CallsT P 45 [.own 1000 0, .agg (tyC x)] (Wr p s) (Ret (Wr p (s ++ encTy po x)) (.tup [])) := fun x s hs => t45 hp x s hs
  generalize encTy po = E at h45 hb ⊢
  refine callsT_facts Try.func57 facts57 rfl fun hw _ => ?_
  have hp' := hp
  cases hp
  all_goals
    refine callO [1000, 1001] [1000, 1001] (t50 hp' bs [v.name] (by simp only [List.length_append] at hb ⊢; omega)) rfl rfl rfl rfl rfl fun _ _ => ?_
    refine callO [1000, 1001] [1000, 1001] (t58 hp' _ v.fields E (fun x _ s hs => h45 x s hs) hb) rfl rfl rfl rfl rfl fun _ _ => ?_
    exact retO [1000, 1001, 1002] rfl rfl rfl rfl
def encData (po : Option Prog) (d : Api.Data) : List UInt8 := encSs [d.name] ++ (encIs [d.params, d.drop] ++ encL (encVariant po) d.variants)
theorem t54 {po : Option Prog} {p : C} (hp : PC po p) (d : Api.Data) (bs : List UInt8) (hb : (bs ++ encData po d).length ≤ 2 ^ 46) : CallsT P 54 [.agg (dataC d), .own 1002 0] (WrC p bs) (Ret (WrC p (bs ++ encData po d)) (.tup [])) := by
  have e : bs ++ encData po d = bs ++ encSs [d.name] ++ encIs [d.params, d.drop] ++ encL (encVariant po) d.variants := by simp [encData]
  rw [e] at hb ⊢
  have h57 : ∀ (x : Variant) (s : List UInt8), (s ++ encVariant po x).length ≤ 2 ^ 46 → CallsT P 57 [.agg (variantC x), .own 1002 0] (WrC p s) (Ret (WrC p (s ++ encVariant po x)) (.tup [])) := fun x s hs => t57 hp x s hs
  generalize encVariant po = E at h57 hb ⊢
  refine callsT_facts Try.func54 facts54 rfl fun hw _ => ?_
  have hp' := hp
  cases hp
  all_goals
    refine callO [1000, 1001] [1000, 1001] (t50 hp' bs [d.name] (by simp only [List.length_append] at hb ⊢; omega)) rfl rfl rfl rfl rfl fun _ _ => ?_
    refine callO [1000, 1001] [1000, 1001] (t55 hp' _ [d.params, d.drop] (by simp only [List.length_append] at hb ⊢; omega)) rfl rfl rfl rfl rfl fun _ _ => ?_
    refine callO [1000, 1001, 1002] [1000, 1001, 1002] (t56 hp' _ d.variants E (fun x _ s hs => h57 x s hs) hb) rfl rfl rfl rfl rfl fun _ _ => ?_
    exact retO [1000, 1001, 1002] rfl rfl rfl rfl
set_option maxRecDepth 10000 in
theorem t59m {po : Option Prog} {p : C} (hp : PC po p) (q0 : Prog) (bs : List UInt8) (l : List Impl) (enc : Impl → List UInt8) (hc : ∀ x ∈ l, ∀ s : List UInt8, (s ++ enc x).length ≤ 2 ^ 46 → CallsT P 62 [.agg (implC x), .own 1002 0, .pt (progC q0) 0] (WrC p s) (Ret (WrC p (s ++ enc x)) (.tup [])))
    (hb : (bs ++ encL enc l).length ≤ 2 ^ 46) : CallsT P 59 [.own 1000 0, .sl (l.map implC), .fn 62 [] [.own 1002 0, .pt (progC q0) 0]] (WrC p bs) (Ret (WrC p (bs ++ encL enc l)) (.tup [])) := by
  refine callsT_facts Try.func59 facts59 rfl fun hw _ => ?_
  have hn : l.length ≤ 9223372036854775807 := by have := wf_len hw.2.1; simpa [ics] using this
  have hp' := hp
  cases hp
  all_goals
    refine callO [1000, 1001] [1000, 1001] (t55 hp' bs [((l.map implC).length : Int)] ?_) rfl rfl rfl rfl rfl fun _ _ => ?_
    · simp only [encL, List.length_append, List.length_map, List.length_map, encIs, List.flatMap_cons, List.flatMap_nil, List.append_nil] at hb ⊢; omega
    refine loopN l.length 15 [] (bs ++ encI l.length) (fun _ => []) (fun s => WrCL _ s) (fun k s => s ++ (l.drop k).flatMap enc = bs ++ encL enc l) (by simp [encL]) (same_keys rfl) trivial ⟨.inl ⟨_, rfl, .inl ⟨rfl, rfl⟩⟩, .inl ⟨_, rfl, .inl ⟨?_, rfl⟩⟩, .inl ⟨_, rfl, .inl ⟨rfl, rfl⟩⟩, trivial⟩ (fun _ => rfl) (fun _ => rfl) ?_
    · show TO.row 5 1 (bcells (bs ++ encIs [((l.map implC).length : Int)])) = _
      simp [encIs, ics]
    rintro k s hk hinv _ _ _
    refine brn_p (fun hlt => ?_) (fun hge => ?_)
    · have hlt : k < l.length := by simpa [ics] using hlt
      obtain ⟨x, hx, hd⟩ := drop_cons hlt
      rw [hd, List.flatMap_cons] at hinv
      have hsz : (s ++ enc x).length ≤ 2 ^ 46 := by
        rw [← hinv] at hb
        simp only [List.length_append] at hb ⊢
        omega
      refine idxT hx rfl rfl ?_
      refine callO [1000, 1001, 1002] [1000, 1001, 1002] (hc x (List.mem_of_getElem? hx) s hsz) rfl rfl rfl rfl rfl fun _ _ => ?_
      refine Fit.in64 (by omega) (by omega) ?_
      exact ⟨(k + 1, s ++ enc x), ⟨hlt, by rw [← hinv]; simp⟩, ⟨nextI, trivial⟩, ⟨.inl ⟨_, rfl, .inl ⟨rfl, rfl⟩⟩, .inl ⟨_, rfl, .inl ⟨rfl, rfl⟩⟩, .inl ⟨_, rfl, .inl ⟨rfl, rfl⟩⟩, trivial⟩, nextM hlt⟩
    · have hge : ¬ k < l.length := by simpa [ics] using hge
      rw [drop_end hge] at hinv
      refine retO [1000, 1001, 1002] rfl rfl ?_ rfl
      simp only [List.flatMap_nil, List.append_nil] at hinv
      subst hinv
      rfl

def fnameOf (q : Prog) (i : Int) : ByteArray := ((elem q.funcs i).getD zeroF).name
def encImpl (q : Prog) (x : Impl) : List UInt8 := encTrait (some q) x.trait ++ (encIs [x.params] ++ (encL (encBound (some q)) x.bounds ++ (encTy (some q) x.type ++ encSs [fnameOf q x.func])))
theorem t62 (q : Prog) (x : Impl) (bs : List UInt8) (hb : (bs ++ encImpl q x).length ≤ 2 ^ 46) : CallsT P 62 [.agg (implC x), .own 1002 0, .pt (progC q) 0] (WrC (.pt (progC q) 0) bs) (Ret (WrC (.pt (progC q) 0) (bs ++ encImpl q x)) (.tup [])) := by
  have e : bs ++ encImpl q x = bs ++ encTrait (some q) x.trait ++ encIs [x.params] ++ encL (encBound (some q)) x.bounds ++ encTy (some q) x.type ++ encSs [fnameOf q x.func] := by simp [encImpl]
  rw [e] at hb ⊢
  have h45 : ∀ (x : Ty) (s : List UInt8), (s ++ encTy (some q) x).length ≤ 2 ^ 46 → CallsT P 45 [.own 1000 0, .agg (tyC x)] (Wr (.pt (progC q) 0) s) (Ret (Wr (.pt (progC q) 0) (s ++ encTy (some q) x)) (.tup [])) := fun x s hs => t45 (.prog q) x s hs
  have h63 := t63 (.prog q) bs x.trait
  have h65 := t65 q.funcs x.func
  obtain ⟨b, h65⟩ := h65
  unfold fnameOf at hb ⊢
  generalize (elem q.funcs x.func).getD zeroF = f0 at h65 hb ⊢
  generalize encTy (some q) = E at h45 hb ⊢
  generalize encTrait (some q) x.trait = TR at h63 hb ⊢
  have hres : (C.agg [IC x.type.kind, IC x.type.id, .sl (x.type.args.map tyC)]) = .agg (tyC x.type) := by rw [tyC_eq]
  refine callsT_facts Try.func62 facts62 rfl fun hw _ => ?_
  refine callO [1000, 1001] [1000, 1001] (h63 (by simp only [List.length_append] at hb ⊢; omega)) rfl rfl rfl rfl rfl fun _ _ => ?_
  refine callO [1000, 1001] [1000, 1001] (t55 (.prog q) _ [x.params] (by simp only [List.length_append] at hb ⊢; omega)) rfl rfl rfl rfl rfl fun _ _ => ?_
  refine callO [1000, 1001] [1000, 1001] (t64 (.prog q) _ x.bounds (by simp only [List.length_append] at hb ⊢; omega)) rfl rfl rfl rfl rfl fun _ _ => ?_
  refine callO [1000, 1001] [1000, 1001] (h45 x.type _ (by simp only [List.length_append] at hb ⊢; omega)) rfl rfl (congrArg (fun z => [C.own 1000 0, z]) hres) rfl rfl fun _ _ => ?_
  refine callP h65 rfl fun _ => ?_
  refine callO [1000, 1001] [1000, 1001] (t50 (.prog q) _ [f0.name] hb) rfl rfl rfl rfl rfl fun _ _ => ?_
  exact retO [1000, 1001, 1002] rfl rfl rfl rfl
def encModule (q : Prog) (name : ByteArray) (m : Int) : List UInt8 := encSs [name] ++ (encL (encData (some q)) (q.datas.filter fun x => decide (x.module = m)) ++ (encL (encImpl q) (q.impls.filter fun x => decide (x.module = m)) ++ encL (encSig (some q)) (q.funcs.filter fun x => decide (x.module = m))))
def WrM (q : Prog) (bs : List UInt8) (name : ByteArray) : List TO := [.box 114 [.rw 1001, .pt (progC q) 0], .row 5 1 (bcells bs), .box 9 [.str name]]
set_option maxRecDepth 10000 in
theorem t49 (q : Prog) (name : ByteArray) (m : Int) (bs : List UInt8) (hb : (bs ++ encModule q name m).length ≤ 2 ^ 46) (h1 : q.datas.length ≤ 2 ^ 30) (h2 : q.impls.length ≤ 2 ^ 30) (h3 : q.funcs.length ≤ 2 ^ 30) :
    CallsT P 49 [.own 1000 0, .own 1002 0, .pt (progC q) 0, .pt [IC m] 0] (WrM q bs name) (Ret (WrM q (bs ++ encModule q name m) name) (.tup [])) := by
  have e : bs ++ encModule q name m = bs ++ encSs [name] ++ encL (encData (some q)) (q.datas.filter fun x => decide (x.module = m)) ++ encL (encImpl q) (q.impls.filter fun x => decide (x.module = m)) ++ encL (encSig (some q)) (q.funcs.filter fun x => decide (x.module = m)) := by simp [encModule]
  rw [e] at hb ⊢
  have h54 : ∀ (x : Api.Data) (s : List UInt8), (s ++ encData (some q) x).length ≤ 2 ^ 46 → CallsT P 54 [.agg (dataC x), .own 1002 0] (WrC (.pt (progC q) 0) s) (Ret (WrC (.pt (progC q) 0) (s ++ encData (some q) x)) (.tup [])) := fun x s hs => t54 (.prog q) x s hs
  have h62 : ∀ (x : Impl) (s : List UInt8), (s ++ encImpl q x).length ≤ 2 ^ 46 → CallsT P 62 [.agg (implC x), .own 1002 0, .pt (progC q) 0] (WrC (.pt (progC q) 0) s) (Ret (WrC (.pt (progC q) 0) (s ++ encImpl q x)) (.tup [])) := fun x s hs => t62 q x s hs
  have h34 : ∀ (x : Fun) (s : List UInt8), (s ++ encSig (some q) x).length ≤ 2 ^ 46 → CallsT P 34 [.own 1000 0, .agg (funC x)] (Wr (.pt (progC q) 0) s) (Ret (Wr (.pt (progC q) 0) (s ++ encSig (some q) x)) (.tup [])) := fun x s hs => t34 (.prog q) x s hs
  generalize encData (some q) = E1 at h54 hb ⊢
  generalize encImpl q = E2 at h62 hb ⊢
  generalize encSig (some q) = E3 at h34 hb ⊢
  have g1 := t52 q.datas m h1
  have g2 := t60 q.impls m h2
  have g3 := t67 q.funcs m h3
  generalize (q.datas.filter fun x => decide (x.module = m)) = l1 at g1 hb ⊢
  generalize (q.impls.filter fun x => decide (x.module = m)) = l2 at g2 hb ⊢
  generalize (q.funcs.filter fun x => decide (x.module = m)) = l3 at g3 hb ⊢
  refine callsT_facts Try.func49 facts49 rfl fun hw _ => ?_
  refine callO [1000, 1001] [1000, 1001] (t50 (.prog q) bs [name] (by simp only [List.length_append] at hb ⊢; omega)) rfl rfl rfl rfl rfl fun _ _ => ?_
  refine callPD g1 rfl fun _ => ?_
  refine callOD [1000, 1001, 4] [1000, 1001, 4] (t51 (.prog q) _ l1 E1 (fun x _ s hs => h54 x s hs) (by simp only [List.length_append] at hb ⊢; omega)) rfl rfl rfl rfl rfl fun _ _ => ?_
  refine callPD g2 rfl fun _ => ?_
  refine callOD [1000, 1001, 4] [1000, 1001, 4] (t59m (.prog q) q _ l2 E2 (fun x _ s hs => h62 x s hs) (by simp only [List.length_append] at hb ⊢; omega)) rfl rfl rfl rfl rfl fun _ _ => ?_
  refine callPD g3 rfl fun _ => ?_
  refine callOD [1000, 1001] [1000, 1001] (t66 (.prog q) _ l3 E3 (fun x _ s hs => h34 x s hs) hb) rfl rfl rfl rfl rfl fun _ _ => ?_
  exact retO [1000, 1001, 1002] rfl rfl rfl rfl
theorem t32_49 (q : Prog) (name : ByteArray) (m : Int) (hb : (encModule q name m).length ≤ 2 ^ 46) (h1 : q.datas.length ≤ 2 ^ 30) (h2 : q.impls.length ≤ 2 ^ 30) (h3 : q.funcs.length ≤ 2 ^ 30) :
    CallsT P 32 [.pt (progC q) 0, .fn 49 [] [.own 1000 0, .pt (progC q) 0, .pt [IC m] 0]] [.box 9 [.str name]] (Ret [.box 9 [.str name], .row 5 1 (bcells (encModule q name m))] (.rw 1001)) := by
  have h := t49 q name m [] hb h1 h2 h3
  generalize encModule q name m = code at h ⊢
  refine callsT_facts Try.func32 facts32 rfl fun hw _ => ?_
  refine callG [(8, .box 114 [.rw 2000, .pt (progC q) 0]), (1000, .box 9 [.str name]), (2000, .row 5 1 [])] [8, 2000, 1000] [8, 2000, 1000] h
    ⟨.inl ⟨_, rfl, .inr ⟨114, _, _, rfl, rfl, _, _, rfl, .inr (.inr (.inr (.inl ⟨rfl, 2000, 5, 1, rfl, rfl, rfl⟩))), _, _, rfl, .inr (.inl ⟨rfl, rfl⟩), rfl⟩⟩, .inl ⟨_, rfl, .inl ⟨rfl, rfl⟩⟩, .inr ⟨rfl, 5, 1, rfl⟩, trivial⟩
    rfl rfl rfl rfl rfl fun _ _ => ?_
  exact retO [1000, 2000] rfl rfl rfl rfl
def digM (q : Prog) (m : Int) : Int := match elem q.modules m with | none => 0 | some name => foldN (bytesN (encModule q name m))
theorem t22 (q : Prog) (m : Int) (hb : ∀ name, elem q.modules m = some name → (encModule q name m).length ≤ 2 ^ 46) (h1 : q.datas.length ≤ 2 ^ 30) (h2 : q.impls.length ≤ 2 ^ 30) (h3 : q.funcs.length ≤ 2 ^ 30) :
    CallsT P 22 [.agg (progC q), IC m] [] (Ret [] (.int .i64 (digM q m))) := by
  unfold digM
  cases hn : elem q.modules m with
  | none =>
    have h := t48n q.modules m hn
    refine callsT_facts Try.func22 facts22 rfl fun hw _ => ?_
    refine callP h rfl fun _ => ?_
    exact retP rfl rfl
  | some name =>
    have h := t48s q.modules m name hn
    have h32 := t32_49 q name m (hb name hn) h1 h2 h3
    simp only []
    generalize encModule q name m = code at h32 ⊢
    refine callsT_facts Try.func22 facts22 rfl fun hw _ => ?_
    refine callP h rfl fun _ => ?_
    refine callO [5] [5, 17] h32 rfl rfl rfl rfl rfl fun _ _ => ?_
    refine callF [17] [] [] (t15 code) ⟨[], rfl, rfl, rfl, rfl, rfl, fun _ _ => ?_⟩
    exact retP rfl rfl
end Go.Fr.Try

/- Digest: how long codes can be. -/
set_option linter.unusedVariables false
set_option linter.unusedSimpArgs false
namespace Go.Fr.Try
open Go Go.RowKit Go.Proofs Go.Fr Go.Fr.T Go.Fr.Api

theorem encN_le : ∀ (j n : Nat), n < 128 ^ (j + 1) → (encN n).length ≤ j + 1
  | 0, n, h => by rw [encN, dif_pos (by simpa using h)]; simp
  | j + 1, n, h => by
    rw [encN]
    split
    · simp
    · have := encN_le j (n / 128) (by rw [Nat.div_lt_iff_lt_mul (by omega)]; rw [Nat.pow_succ] at h; exact h)
      simp only [List.length_cons]; omega
theorem encI_le {n : Int} (h : Wf (IC n)) : (encI n).length ≤ 10 := by
  have h := wf_I h
  refine encN_le 9 _ ?_
  unfold zig
  split <;> omega
theorem encI_leN {n : Nat} (h : n ≤ 9223372036854775807) : (encI n).length ≤ 10 := by
  refine encN_le 9 _ ?_
  unfold zig
  split <;> omega
theorem encIs_one {n : Int} (h : Wf (IC n)) : (encIs [n]).length ≤ 10 := by simpa [encIs] using encI_le h
theorem encS_le {s : ByteArray} (h : s.size ≤ 9223372036854775807) : (encS s).length ≤ 10 + s.size := by
  have := encI_leN h
  have e : s.data.toList.length = s.size := rfl
  simp only [encS, List.length_append, e]
  omega
theorem encSs_one {s : ByteArray} (h : s.size ≤ 1048576) : (encSs [s]).length ≤ 4194304 := by
  have := encS_le (s := s) (by omega)
  rw [show encSs [s] = encS s from List.append_nil _]
  omega
theorem flat_le {α : Type} {e : α → List UInt8} {g : α → G} {W : Nat} : ∀ {l : List α}, (∀ x ∈ l, (e x).length ≤ W * (g x).bulk) → (l.flatMap e).length ≤ W * G.bulkAll (l.map g)
  | [], _ => by simp
  | x :: l, h => by
    have h1 := h x (by simp)
    have h2 := flat_le (l := l) fun y hy => h y (by simp [hy])
    simp only [List.flatMap_cons, List.length_append, List.map_cons, G.bulkAll, Nat.mul_add]
    omega
theorem encL_le {α : Type} {e : α → List UInt8} {g : α → G} {l : List α} {W : Nat} (hl : l.length ≤ 9223372036854775807) (h : ∀ x ∈ l, (e x).length ≤ W * (g x).bulk) : (encL e l).length ≤ W * G.bulkAll (l.map g) + 10 := by
  have := flat_le h
  have := encI_leN hl
  simp only [encL, List.length_append]
  omega
/-- the names of a program are short -/
def Names : Option Prog → Prop
  | none => True
  | some q => (∀ s ∈ q.modules, s.size ≤ 1048576) ∧ (∀ s ∈ q.traits, s.size ≤ 1048576) ∧ (∀ d ∈ q.datas, d.name.size ≤ 1048576) ∧ ∀ f ∈ q.funcs, f.name.size ≤ 1048576
theorem elem_mem {α : Type} {l : List α} {i : Int} {x : α} (h : elem l i = some x) : x ∈ l := by
  unfold elem at h
  split at h
  · cases h
  · exact List.mem_of_getElem? h
theorem nm_le {l : List ByteArray} (h : ∀ s ∈ l, s.size ≤ 1048576) (i : Int) : (nm l i).size ≤ 1048576 := by
  unfold nm
  cases e : elem l i with
  | none => decide
  | some x => exact h x (elem_mem e)
theorem wfS_app {a b : List C} (h : WfS (a ++ b)) : WfS a ∧ WfS b := by
  rw [WfS_iff] at h
  exact ⟨WfS_iff.2 fun c hc => h c (by simp [hc]), WfS_iff.2 fun c hc => h c (by simp [hc])⟩
theorem wf_map {α : Type} {f : α → List C} {l : List α} (h : Wf (.sl (l.map f))) : ∀ x ∈ l, WfS (f x) := by
  intro x hx
  simp only [Wf] at h
  exact WfSS_iff.1 h.2 _ (List.mem_map.2 ⟨x, hx, rfl⟩)
theorem encName_le {po : Option Prog} (hn : Names po) {k i : Int} {b : List UInt8} (h : encName po k i = some b) : b.length ≤ 4194304 := by
  cases po with
  | none => simp [encName] at h
  | some q =>
    obtain ⟨h1, h2, h3, h4⟩ := hn
    unfold encName at h
    simp only at h
    split at h
    · cases e : elem q.datas i with
      | none => rw [e] at h; cases h
      | some d =>
        rw [e] at h
        simp only [Option.map_some, Option.some.injEq] at h
        subst h
        have a1 := encS_le (s := nm q.modules d.module) (by have := nm_le h1 d.module; omega)
        have a2 := encS_le (s := d.name) (by have := h3 d (elem_mem e); omega)
        have := nm_le h1 d.module
        have := h3 d (elem_mem e)
        simp [encSs]
        omega
    · cases h
theorem encTrait_le {po : Option Prog} (hn : Names po) {n : Int} (h : Wf (IC n)) : (encTrait po n).length ≤ 4194304 := by
  cases po with
  | none => have := encIs_one h; simp only [encTrait]; omega
  | some q => exact encSs_one (nm_le hn.2.1 n)
theorem encTy_le {po : Option Prog} (hn : Names po) : ∀ t : Ty, WfS (tyC t) → (encTy po t).length ≤ 4194304 * t.g.bulk
  | .mk k i l, h => by
    have ih : ∀ x ∈ l, (encTy po x).length ≤ 4194304 * x.g.bulk := fun x hx => encTy_le hn x (by
      rw [tyC_eq] at h
      exact wf_map h.2.2.1 x hx)
    rw [tyC_eq] at h
    simp only [Ty.kind, Ty.id, Ty.args] at h
    have h1 := encIs_one h.1
    have h2 := encIs_one h.2.1
    have h3 := encL_le (e := encTy po) (g := Ty.g) (wf_lenM h.2.2.1) ih
    have hb : (Ty.g (.mk k i l)).bulk = 4 + G.bulkAll (l.map Ty.g) := by
      simp only [Ty.g, G.bulk, G.bulkAll, Ty.gs_map]; omega
    rw [encTy_eq, hb]
    simp only [Ty.kind, Ty.id, Ty.args, List.length_append]
    have h1 : (encI k).length ≤ 10 := by simpa [encIs] using h1
    have h2 : (encI i).length ≤ 10 := by simpa [encIs] using h2
    cases e : encName po k i with
    | none => simp [encIs]; omega
    | some b =>
      have := encName_le hn e
      simp [encIs]; omega
termination_by t => SizeOf.sizeOf t
decreasing_by
  have := List.sizeOf_lt_of_mem hx
  simp only [Ty.mk.sizeOf_spec]
  omega
theorem encBound_le {po : Option Prog} (hn : Names po) (b : Bound) (h : WfS (boundC b)) : (encBound po b).length ≤ 4194304 * b.g.bulk := by
  have h1 := encIs_one h.1
  have h2 := encTrait_le hn h.2.1
  simp only [encBound, List.length_append, Bound.g, G.bulk, G.bulkAll]
  omega
theorem ints_le {l : List Int} (h : Wf (.sl (ics l))) : (encL encI l).length ≤ 4194304 * G.bulkAll (l.map I) + 10 := by
  refine encL_le (g := I) (wf_lenM h) fun x hx => ?_
  have h1 := wf_map h x hx
  have := encI_le h1.1
  simp only [G.bulk]
  omega
theorem bulk_take {α : Type} (g : α → G) : ∀ (l : List α) (n : Nat), G.bulkAll ((l.take n).map g) ≤ G.bulkAll (l.map g)
  | [], n => by simp
  | x :: l, 0 => by simp [G.bulkAll]
  | x :: l, n + 1 => by
    have := bulk_take g l n
    simp only [List.take_succ_cons, List.map_cons, G.bulkAll]
    omega
theorem bulk_filter {α : Type} (g : α → G) (p : α → Bool) : ∀ l : List α, G.bulkAll ((l.filter p).map g) ≤ G.bulkAll (l.map g)
  | [] => by simp
  | x :: l => by
    have := bulk_filter g p l
    simp only [List.filter_cons]
    split <;> simp only [List.map_cons, G.bulkAll] <;> omega
theorem encSig_le {po : Option Prog} (hn : Names po) (f : Fun) (h : WfS (funC f)) (hs : f.name.size ≤ 1048576) : (encSig po f).length ≤ 4194304 * f.g.bulk := by
  have ht : WfS (tyC f.result) := by
    rw [tyC_eq]
    exact ⟨h.2.2.2.2.2.1, h.2.2.2.2.2.2.1, h.2.2.2.2.2.2.2.1, trivial⟩
  have w1 := encS_le (s := f.name) (by omega)
  have w2 := encIs_one h.2.2.1
  have w3 := encL_le (e := encBound po) (g := Bound.g) (wf_lenM h.2.2.2.1) fun b hb => encBound_le hn b (wf_map h.2.2.2.1 b hb)
  have w4 := encIs_one h.2.2.2.2.1
  have w5 := encL_le (e := encTy po) (g := Ty.g) (l := argsOf f) (by have := wf_lenM h.2.2.2.2.2.2.2.2.1; simp only [argsOf, List.length_take]; omega) fun t ht => encTy_le hn t (wf_map h.2.2.2.2.2.2.2.2.1 t (List.mem_of_mem_take ht))
  have w6 := encTy_le hn f.result ht
  have w7 := ints_le h.2.2.2.2.2.2.2.2.2.2.1
  have w8 := bulk_take Ty.g f.locals (max 0 (min f.arity f.locals.length)).toNat
  have e1 : (encSs [f.name]).length = (encS f.name).length := by simp [encSs]
  simp only [encSig, List.length_append, Fun.g, G.bulk, G.bulkAll, e1]
  simp only [argsOf] at w5 ⊢
  omega
theorem encIns_le {po : Option Prog} (hn : Names po) (x : Ins) (h : WfS (insC x)) : (encIns po x).length ≤ 4194304 * x.g.bulk := by
  have w1 := encI_le h.1
  have w2 := encI_le h.2.1
  have w3 := encI_le h.2.2.1
  have w4 := encI_le h.2.2.2.1
  have w5 := encI_le h.2.2.2.2.1
  have w6 := ints_le h.2.2.2.2.2.1
  have w7 := encL_le (e := encTy po) (g := Ty.g) (wf_lenM h.2.2.2.2.2.2.1) fun t ht => encTy_le hn t (wf_map h.2.2.2.2.2.2.1 t ht)
  simp only [encIns, encIs, List.flatMap_cons, List.flatMap_nil, List.length_append, List.length_nil, Ins.g, G.bulk, G.bulkAll]
  omega
theorem encBlock_le {po : Option Prog} (hn : Names po) (x : Block) (h : WfS (blockC x)) : (encBlock po x).length ≤ 4194304 * x.g.bulk := by
  have w1 := encI_le h.2.1
  have w2 := encI_le h.2.2.1
  have w6 := ints_le h.2.2.2.1
  have w7 := encL_le (e := encIns po) (g := Ins.g) (wf_lenM h.1) fun t ht => encIns_le hn t (wf_map h.1 t ht)
  simp only [encBlock, encIs, List.flatMap_cons, List.flatMap_nil, List.length_append, List.length_nil, Block.g, Term.g, G.bulk, G.bulkAll]
  omega
theorem encFun_le {po : Option Prog} (hn : Names po) (f : Fun) (h : WfS (funC f)) (hs : f.name.size ≤ 1048576) : (encFun po f).length ≤ 8388608 * f.g.bulk := by
  have w0 := encSig_le hn f h hs
  have w1 := encL_le (e := encTy po) (g := Ty.g) (wf_lenM h.2.2.2.2.2.2.2.2.1) fun t ht => encTy_le hn t (wf_map h.2.2.2.2.2.2.2.2.1 t ht)
  have w2 := encL_le (e := encBlock po) (g := Block.g) (wf_lenM h.2.2.2.2.2.2.2.2.2.1) fun t ht => encBlock_le hn t (wf_map h.2.2.2.2.2.2.2.2.2.1 t ht)
  have e : f.g.bulk = 9 + f.name.size + G.bulkAll (f.bounds.map Bound.g) + f.result.g.bulk + G.bulkAll (f.locals.map Ty.g) + G.bulkAll (f.blocks.map Block.g) + G.bulkAll (f.ties.map I) := by
    simp only [Fun.g, G.bulk, G.bulkAll]; omega
  simp only [encFun, List.length_append]
  omega
end Go.Fr.Try

/- Digest: the fixed examples. -/
set_option linter.unusedVariables false
set_option linter.unusedSimpArgs false
namespace Go.Fr.Try
open Go Go.RowKit Go.Proofs Go.Fr Go.Fr.T Go.Fr.Api

def f0 : Fun := ⟨⟨#[102]⟩, 0, 0, [], 1, tyInt, [tyInt], [], []⟩
def f1 : Fun := ⟨⟨#[102]⟩, 0, 0, [], 1, tyInt, [tyInt, tyInt], [], []⟩
def p0 : Prog := ⟨[⟨#[97]⟩], [], [], [], [], [], [f1], 0⟩
def tyV : Ty := .mk 9 (-1) []
theorem encN_lt {n : Nat} (h : n < 128) : encN n = [UInt8.ofNat n] := by rw [encN, dif_pos h]
theorem size1 (b : UInt8) : (ByteArray.size ⟨#[b]⟩ : Nat) = 1 := rfl
theorem v_tyInt (po : Option Prog) : encTy po tyInt = [2, 0, 0] := by
  cases po <;> simp [encTy, encTys, encName, tyInt, encI, zig, encN_lt] <;> decide
theorem v_tyV : encTy none tyV = [18, 1, 0] := by
  simp [encTy, encTys, encName, tyV, encI, zig, encN_lt] <;> decide
theorem a0 : argsOf f0 = [tyInt] := rfl
theorem a1 : argsOf f1 = [tyInt] := rfl
theorem v_sig0 : encSig none f0 = [2, 102, 0, 0, 2, 2, 2, 0, 0, 2, 0, 0, 0] := by
  simp only [encSig, a0]
  simp [encSs, encS, encIs, encL, encI, zig, encN_lt, f0, v_tyInt, size1] <;> decide
theorem v_sig1 (po : Option Prog) : encSig po f1 = [2, 102, 0, 0, 2, 2, 2, 0, 0, 2, 0, 0, 0] := by
  simp only [encSig, a1]
  simp [encSs, encS, encIs, encL, encI, zig, encN_lt, f1, v_tyInt, size1] <;> decide
theorem v_fun0 : encFun none f0 = [2, 102, 0, 0, 2, 2, 2, 0, 0, 2, 0, 0, 0, 2, 2, 0, 0, 0] := by
  simp only [encFun, v_sig0]
  simp [encL, encI, zig, encN_lt, f0, v_tyInt] <;> decide
theorem v_fun1 : encFun none f1 = [2, 102, 0, 0, 2, 2, 2, 0, 0, 2, 0, 0, 0, 4, 2, 0, 0, 2, 0, 0, 0] := by
  simp only [encFun, v_sig1]
  simp [encL, encI, zig, encN_lt, f1, v_tyInt] <;> decide
theorem v_mod : encModule p0 ⟨#[97]⟩ 0 = [2, 97, 0, 0, 2, 2, 102, 0, 0, 2, 2, 2, 0, 0, 2, 0, 0, 0] := by
  have h : (p0.funcs.filter fun x => decide (x.module = 0)) = [f1] := rfl
  simp only [encModule, h]
  simp [encL, v_sig1, encSs, encS, encI, zig, encN_lt, p0, size1] <;> decide
theorem d0 : digM p0 0 = 1624842418 := by
  show foldN (bytesN (encModule p0 ⟨#[97]⟩ 0)) = _
  rw [v_mod]; rfl
theorem d1 : digM p0 1 = 0 := rfl

theorem h13_0 : CallsT P 13 [.agg (funC f0)] [] (Ret [] (.tup [.int .i64 1381056169, .int .i64 18088938])) := by
  have h := t13 f0 (by rw [v_fun0]; decide)
  rw [v_sig0, v_fun0] at h
  exact h
theorem h13_1 : CallsT P 13 [.agg (funC f1)] [] (Ret [] (.tup [.int .i64 1381056169, .int .i64 721228548])) := by
  have h := t13 f1 (by rw [v_fun1]; decide)
  rw [v_sig1, v_fun1] at h
  exact h
theorem h15_0 : CallsT P 15 [.sl (bcells [])] [] (Ret [] (.int .i64 7)) := t15 []
theorem h15_1 : CallsT P 15 [.sl (bcells [0])] [] (Ret [] (.int .i64 7000022)) := t15 [0]
theorem h17_0 : CallsT P 17 [.sl (ics [0])] [] (Ret [] (.int .i64 7000022)) := t17 [0]
theorem h17_1 : CallsT P 17 [.sl (ics [-1])] [] (Ret [] (.int .i64 7000021)) := t17 [-1]
theorem h20_0 : CallsT P 20 [.agg (tyC tyInt)] [] (Ret [] (.sl (bcells [2, 0, 0]))) := by
  have h := t20 tyInt (by rw [v_tyInt]; decide)
  rw [v_tyInt] at h
  exact h
theorem h20_1 : CallsT P 20 [.agg (tyC tyV)] [] (Ret [] (.sl (bcells [18, 1, 0]))) := by
  have h := t20 tyV (by rw [v_tyV]; decide)
  rw [v_tyV] at h
  exact h
theorem h19_0 : CallsT P 19 [.sl (bcells [2, 0, 0]), .sl (bcells [2, 0, 0])] [] (Ret [] (.bool true)) := t19 [2, 0, 0] [2, 0, 0]
theorem h19_1 : CallsT P 19 [.sl (bcells [18, 1, 0]), .sl (bcells [18, 1, 0])] [] (Ret [] (.bool true)) := t19 [18, 1, 0] [18, 1, 0]
theorem h22_0 : CallsT P 22 [.agg (progC p0), IC 0] [] (Ret [] (.int .i64 1624842418)) := by
  have h := t22 p0 0 (fun name hn => by
    have : name = ⟨#[97]⟩ := by
      have h2 : elem p0.modules 0 = some ⟨#[97]⟩ := rfl
      rw [h2] at hn
      injection hn with hn
      exact hn.symm
    subst this
    rw [v_mod]; decide) (by decide) (by decide) (by decide)
  rw [d0] at h
  exact h
theorem h22_1 : CallsT P 22 [.agg (progC p0), IC 1] [] (Ret [] (.int .i64 0)) := by
  have h := t22 p0 1 (fun name hn => by
    have h2 : elem p0.modules 1 = none := rfl
    rw [h2] at hn
    cases hn) (by decide) (by decide) (by decide)
  rw [d1] at h
  exact h
theorem brn_y {p : Prop} [Decidable p] {A B : Prop} (h : p) (k : A) : brn (decide p) A B := by simp only [h, decide_true]; exact k
theorem brn_n {p : Prop} [Decidable p] {A B : Prop} (h : ¬ p) (k : A) : brn (!decide p) A B := by simp only [h, decide_false]; exact k
set_option maxRecDepth 20000 in
theorem t9 : CallsT P 9 [] [] (Ret [] (.bool true)) := by
  refine callsT_facts Try.func9 facts9 rfl fun hw _ => ?_
  refine callP t30 rfl fun _ => ?_
  refine callP t30 rfl fun _ => ?_
  refine callP h13_0 rfl fun _ => ?_
  refine callPD t30 rfl fun _ => ?_
  refine ⟨Nat.zero_lt_one, ?_, AppT.mk ?_ ?_ ?_ ?_⟩
  · intro es h
    rcases List.mem_cons.1 h with rfl | h
    · rfl
    · cases h
  · intro es h
    rcases List.mem_cons.1 h with rfl | h
    · rfl
    · cases h
  · show 1 + 1 ≤ maxLen
    decide
  · show (1 + 1) * 40 ≤ _
    decide
  refine callF [20] [] [] h13_1 ⟨[], rfl, rfl, rfl, rfl, rfl, fun _ _ => ?_⟩
  refine callPD h15_0 rfl fun _ => ?_
  refine callPD h15_1 rfl fun _ => ?_
  refine callPD h17_0 rfl fun _ => ?_
  refine callPD h17_1 rfl fun _ => ?_
  refine callPD t30 rfl fun _ => ?_
  refine callPD h20_0 rfl fun _ => ?_
  refine callPD h19_0 rfl fun _ => ?_
  refine callPD h20_1 rfl fun _ => ?_
  refine callPD h19_1 rfl fun _ => ?_
  refine callPD h22_0 rfl fun _ => ?_
  refine callPD h22_1 rfl fun _ => ?_
  refine callPD h22_1 rfl fun _ => ?_
  exact retP rfl rfl
end Go.Fr.Try

/- Digest: sizes and comparisons of types. -/
set_option linter.unusedVariables false
set_option linter.unusedSimpArgs false
namespace Go.Fr.Try
open Go Go.RowKit Go.Proofs Go.Fr Go.Fr.T Go.Fr.Api

mutual
def few : Ty → Int → Int
  | .mk _ _ l, m => fewL l m 1
def fewL : List Ty → Int → Int → Int
  | [], _, n => n
  | x :: l, m, n => if n ≤ m then fewL l m (n + few x (m - n)) else n
end
mutual
theorem few_bd : ∀ (t : Ty) (m : Int), 0 ≤ m → 1 ≤ few t m ∧ few t m ≤ m + 1
  | .mk _ _ l, m, h => by
    rw [few]
    exact fewL_bd l m 1 h (by omega) (by omega)
theorem fewL_bd : ∀ (l : List Ty) (m n : Int), 0 ≤ m → 1 ≤ n → n ≤ m + 1 → 1 ≤ fewL l m n ∧ fewL l m n ≤ m + 1
  | [], m, n, _, h1, h2 => by rw [fewL]; exact ⟨h1, h2⟩
  | x :: l, m, n, h0, h1, h2 => by
    rw [fewL]
    split
    · have := few_bd x (m - n) (by omega)
      exact fewL_bd l m _ h0 (by omega) (by omega)
    · exact ⟨h1, h2⟩
end
theorem fewL_stop {l : List Ty} {m n : Int} (h : ¬ n ≤ m) : fewL l m n = n := by
  cases l with
  | nil => rw [fewL]
  | cons x l => rw [fewL, if_neg h]
theorem wf_lenT {l : List Ty} (h : Wf (.sl (l.map tyC))) : l.length ≤ 9223372036854775807 := wf_lenM h
set_option maxRecDepth 10000 in
theorem t31 : ∀ (t : Ty) (m : Int), 0 ≤ m → m ≤ 1000 → CallsT P 31 [.agg (tyC t), IC m] [] (Ret [] (IC (few t m)))
  | .mk k i l, m, h0, h1 => by
    have ih : ∀ x ∈ l, ∀ m' : Int, 0 ≤ m' → m' ≤ 1000 → CallsT P 31 [.agg [IC x.kind, IC x.id, .sl (x.args.map tyC)], IC m'] [] (Ret [] (IC (few x m'))) := fun x hx m' a b => by
      have := t31 x m' a b
      rw [tyC_eq] at this
      exact this
    have hfb := few_bd
    rw [tyC_eq, few]
    simp only [Ty.kind, Ty.id, Ty.args]
    generalize hfew : few = few' at ih hfb
    have hfl : ∀ x r n, fewL (x :: r) m n = if n ≤ m then fewL r m (n + few' x (m - n)) else n := by
      intro x r n; rw [fewL, hfew]
    refine callsT_facts Try.func31 facts31 rfl fun hw _ => ?_
    refine loopN l.length 6 [5] (1 : Int) (fun n => [IC n]) (fun _ => [(2, .box 26 [IC k, IC i, .sl (l.map tyC)])]) (fun k n => fewL (l.drop k) m n = fewL l m 1 ∧ 1 ≤ n ∧ n ≤ m + 1) ⟨rfl, by omega, by omega⟩ (same_keys rfl) ⟨same_keys rfl, trivial⟩ ⟨.inl ⟨_, rfl, .inl ⟨rfl, rfl⟩⟩, trivial⟩ (fun _ => rfl) (fun _ => rfl) ?_
    rintro j n hj ⟨hinv, hn0, hn1⟩ _ _ _
    have hlen : l.length ≤ 9223372036854775807 := wf_lenT hw.1.2.2.1
    refine brn_p (fun hlt => ?_) (fun hge => ?_)
    · have hlt : j < l.length := by simpa using hlt
      have hd := drop_cons hlt
      have hx := hd.choose_spec.1
      have hdr := hd.choose_spec.2
      generalize hd.choose = x at hx hdr
      refine brn_p (fun hle => ?_) (fun hgt => ?_)
      · refine idxTy hx ?_
        refine Fit.in64 (by omega) (by omega) ?_
        refine callP (ih x (List.mem_of_getElem? hx) (m - n) (by omega) (by omega)) rfl fun _ => ?_
        have hb := hfb x (m - n) (by omega)
        refine Fit.in64 (by omega) (by omega) ?_
        refine Fit.in64 (by omega) (by omega) ?_
        refine ⟨(j + 1, n + few' x (m - n)), ⟨hlt, ?_, by omega, by omega⟩, ⟨nextI, same_keys rfl, trivial⟩, ⟨.inl ⟨_, rfl, .inl ⟨rfl, rfl⟩⟩, trivial⟩, nextM hlt⟩
        rw [hdr, hfl, if_pos hle] at hinv
        exact hinv
      · refine retP rfl ?_
        rw [fewL_stop hgt] at hinv
        exact congrArg IC hinv
    · have hge : ¬ j < l.length := by simpa using hge
      rw [drop_end hge] at hinv
      refine retP rfl ?_
      rw [fewL] at hinv
      exact congrArg IC hinv
termination_by t => SizeOf.sizeOf t
decreasing_by
  have := List.sizeOf_lt_of_mem hx
  simp only [Ty.mk.sizeOf_spec]
  omega
end Go.Fr.Try

/- Digest: lists of small types, equal types, and the statement on types. -/
set_option linter.unusedVariables false
set_option linter.unusedSimpArgs false
namespace Go.Fr.Try
open Go Go.RowKit Go.Proofs Go.Fr Go.Fr.T Go.Fr.Api

def smallL (l : List Ty) : Bool := l.all (fun t => decide (few t 30 ≤ 30)) && decide ((l.length : Int) ≤ 8)
set_option maxRecDepth 10000 in
theorem t10 (l : List Ty) : CallsT P 10 [.sl (l.map tyC)] [] (Ret [] (.bool (smallL l))) := by
  have h31 : ∀ x : Ty, CallsT P 31 [.agg [IC x.kind, IC x.id, .sl (x.args.map tyC)], IC 30] [] (Ret [] (IC (few x 30))) := fun x => by
    have := t31 x 30 (by omega) (by omega)
    rw [tyC_eq] at this
    exact this
  have hsm : smallL l = (l.all (fun t => decide (few t 30 ≤ 30)) && decide ((l.length : Int) ≤ 8)) := rfl
  generalize few = fw at h31 hsm
  refine callsT_facts Try.func10 facts10 rfl fun hw _ => ?_
  have hlen : l.length ≤ 9223372036854775807 := wf_lenT hw.1
  refine loopN l.length 3 [] () (fun _ => []) (fun _ => []) (fun k _ => (l.drop k).all (fun t => decide (fw t 30 ≤ 30)) = l.all (fun t => decide (fw t 30 ≤ 30))) rfl (same_keys rfl) trivial trivial (fun _ => rfl) (fun _ => rfl) ?_
  rintro k _ hk hinv _ _ _
  refine brn_p (fun hlt => ?_) (fun hge => ?_)
  · have hlt : k < l.length := by simpa using hlt
    have hd := drop_cons hlt
    have hx := hd.choose_spec.1
    have hdr := hd.choose_spec.2
    generalize hd.choose = x at hx hdr
    refine idxTy hx ?_
    refine callP (h31 x) rfl fun _ => ?_
    rw [hdr, List.all_cons] at hinv
    refine brn_p (fun hgt => ?_) (fun hle => ?_)
    · have hdc : decide (fw x 30 ≤ 30) = false := decide_eq_false (by omega)
      rw [hdc, Bool.false_and] at hinv
      have e : false = smallL l := by rw [hsm, ← hinv, Bool.false_and]
      exact retP rfl (congrArg C.bool e)
    · refine Fit.in64 (by omega) (by omega) ?_
      have hdc : decide (fw x 30 ≤ 30) = true := decide_eq_true (by omega)
      rw [hdc, Bool.true_and] at hinv
      exact ⟨(k + 1, ()), ⟨hlt, hinv⟩, ⟨nextI, trivial⟩, trivial, nextM hlt⟩
  · have hge : ¬ k < l.length := by simpa using hge
    rw [drop_end hge, List.all_nil] at hinv
    have e : decide (((l.map tyC).length : Int) ≤ 8) = smallL l := by rw [hsm, ← hinv, Bool.true_and, List.length_map]
    exact retP rfl (congrArg C.bool e)

def beginsB (b first : List UInt8) : Bool := decide (first.length ≤ b.length) && decide (b.take first.length = first)
theorem bcells_take (b : List UInt8) (n : Nat) : (bcells b).take n = bcells (b.take n) := by simp [bcells, List.map_take]
set_option maxRecDepth 10000 in
theorem t24 (b f : List UInt8) : CallsT P 24 [.sl (bcells b), .sl (bcells f)] [] (Ret [] (.bool (beginsB b f))) := by
  have h19 := t19 (b.take f.length) f
  refine callsT_facts Try.func24 facts24 rfl fun hw _ => ?_
  refine brn_p (fun hle => ?_) (fun hgt => ?_)
  · have hle : f.length ≤ b.length := by simpa [bcells] using hle
    refine SlcT.mk (by omega) (by omega) ?_ bcells_sz ?_
    · simpa [bcells] using hle
    refine callP h19 ?_ fun _ => ?_
    · show [C.sl (((bcells b).drop 0).take (((bcells f).length : Int).toNat - 0)), C.sl (bcells f)] = _
      rw [List.drop_zero, Nat.sub_zero, Int.toNat_natCast, bcells_len, bcells_take]
    have e : decide (b.take f.length = f) = beginsB b f := by unfold beginsB; rw [decide_eq_true hle, Bool.true_and]
    exact retP rfl (congrArg C.bool e)
  · have hgt : ¬ f.length ≤ b.length := by simpa [bcells] using hgt
    have e : false = beginsB b f := by unfold beginsB; rw [decide_eq_false hgt]; rfl
    exact retP rfl (congrArg C.bool e)

mutual
def tyEq : Ty → Ty → Bool
  | .mk k i l, .mk k' i' l' => decide (k = k') && (decide (i = i') && tysEq l l')
def tysEq : List Ty → List Ty → Bool
  | [], [] => true
  | x :: l, y :: l' => tyEq x y && tysEq l l'
  | _, _ => false
end
mutual
theorem tyEq_iff : ∀ a b : Ty, tyEq a b = true ↔ a = b
  | .mk k i l, .mk k' i' l' => by
    simp only [tyEq, Bool.and_eq_true, decide_eq_true_eq, tysEq_iff l l', Ty.mk.injEq]
theorem tysEq_iff : ∀ a b : List Ty, tysEq a b = true ↔ a = b
  | [], [] => by simp [tysEq]
  | x :: l, y :: l' => by simp only [tysEq, Bool.and_eq_true, tyEq_iff x y, tysEq_iff l l', List.cons.injEq]
  | [], y :: l' => by simp [tysEq]
  | x :: l, [] => by simp [tysEq]
end
theorem tysEq_len {l m : List Ty} (h : l.length ≠ m.length) : tysEq l m = false := by
  cases e : tysEq l m with
  | false => rfl
  | true => exact absurd (congrArg List.length ((tysEq_iff l m).1 e)) h
set_option maxRecDepth 10000 in
theorem t70 (l m : List Ty) (ih : ∀ x ∈ l, ∀ y : Ty, CallsT P 25 [.agg [IC x.kind, IC x.id, .sl (x.args.map tyC)], .agg [IC y.kind, IC y.id, .sl (y.args.map tyC)]] [] (Ret [] (.bool (tyEq x y)))) : CallsT P 70 [.sl (l.map tyC), .sl (m.map tyC)] [] (Ret [] (.bool (tysEq l m))) := by
  have hne := tysEq_len (l := l) (m := m)
  have hcons : ∀ x r y s, tysEq (x :: r) (y :: s) = (tyEq x y && tysEq r s) := fun x r y s => by rw [tysEq]
  have hnil : tysEq [] [] = true := by rw [tysEq]
  generalize tyEq = te at ih hcons
  generalize tysEq = ts at hne hcons hnil ⊢
  refine callsT_facts Try.func70 facts70 rfl fun hw _ => ?_
  have hlen : l.length ≤ 9223372036854775807 := wf_lenT hw.1
  refine brn_split (fun hn => ?_) (fun hn => ?_)
  · have hn : (!decide (((l.map tyC).length : Int) = ((m.map tyC).length : Int))) = true := hn
    simp only [List.length_map, Bool.not_eq_true', decide_eq_false_iff_not] at hn
    exact retP rfl (congrArg C.bool (hne (by omega)).symm)
  have hn : (!decide (((l.map tyC).length : Int) = ((m.map tyC).length : Int))) = false := hn
  simp only [List.length_map, Bool.not_eq_false', decide_eq_true_eq] at hn
  refine loopN l.length 5 [] () (fun _ => []) (fun _ => []) (fun k _ => ts (l.drop k) (m.drop k) = ts l m) rfl (same_keys rfl) trivial trivial (fun _ => rfl) (fun _ => rfl) ?_
  rintro k _ hk hinv _ _ _
  refine brn_p (fun hlt => ?_) (fun hge => ?_)
  · have hlt : k < l.length := by simpa using hlt
    have hd := drop_cons hlt
    have hx := hd.choose_spec.1
    have hdr := hd.choose_spec.2
    generalize hd.choose = x at hx hdr
    have hd' := drop_cons (l := m) (k := k) (by omega)
    have hy := hd'.choose_spec.1
    have hdr' := hd'.choose_spec.2
    generalize hd'.choose = y at hy hdr'
    rw [hdr, hdr', hcons] at hinv
    refine idxTy hx ?_
    refine idxTy hy ?_
    refine callPD (ih x (List.mem_of_getElem? hx) y) rfl fun _ => ?_
    refine brn_split (fun hb => ?_) (fun hb => ?_)
    · have hb : (!te x y) = true := hb
      have q : false = ts l m := by rw [← hinv]; cases e : te x y <;> simp_all
      exact retP rfl (congrArg C.bool q)
    · have hb : (!te x y) = false := hb
      refine Fit.in64 (by omega) (by omega) ?_
      have q : ts (l.drop (k + 1)) (m.drop (k + 1)) = ts l m := by rw [← hinv]; cases e : te x y <;> simp_all
      exact ⟨(k + 1, ()), ⟨hlt, q⟩, ⟨nextI, trivial⟩, trivial, nextM hlt⟩
  · have hge : ¬ k < l.length := by simpa using hge
    rw [drop_end hge, drop_end (by omega), hnil] at hinv
    exact retP rfl (congrArg C.bool hinv)
set_option maxRecDepth 10000 in
theorem t25' : ∀ (a b : Ty), CallsT P 25 [.agg [IC a.kind, IC a.id, .sl (a.args.map tyC)], .agg [IC b.kind, IC b.id, .sl (b.args.map tyC)]] [] (Ret [] (.bool (tyEq a b)))
  | .mk k i l, .mk k' i' l' => by
    have h70 := t70 l l' (fun x hx y => t25' x y)
    rw [tyEq]
    simp only [Ty.kind, Ty.id, Ty.args]
    generalize tysEq l l' = e at h70 ⊢
    refine callsT_facts Try.func25 facts25 rfl fun hw _ => ?_
    refine brn_p (fun h1 => ?_) (fun h1 => ?_)
    · refine brn_p (fun h2 => ?_) (fun h2 => ?_)
      · refine callP h70 rfl fun _ => ?_
        have q : e = (decide (k = k') && (decide (i = i') && e)) := by rw [decide_eq_true h1, decide_eq_true h2]; rfl
        exact retP rfl (congrArg C.bool q)
      · have q : false = (decide (k = k') && (decide (i = i') && e)) := by rw [decide_eq_true h1, decide_eq_false h2]; rfl
        exact retP rfl (congrArg C.bool q)
    · have q : false = (decide (k = k') && (decide (i = i') && e)) := by rw [decide_eq_false h1]; rfl
      exact retP rfl (congrArg C.bool q)
termination_by a => SizeOf.sizeOf a
decreasing_by
  have := List.sizeOf_lt_of_mem hx
  simp only [Ty.mk.sizeOf_spec]
  omega
theorem t25 (a b : Ty) : CallsT P 25 [.agg (tyC a), .agg (tyC b)] [] (Ret [] (.bool (tyEq a b))) := by
  have := t25' a b
  rw [← tyC_eq, ← tyC_eq] at this
  exact this
end Go.Fr.Try
