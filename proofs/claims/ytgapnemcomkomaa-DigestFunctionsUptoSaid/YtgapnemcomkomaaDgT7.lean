/- Digest: whole functions, types, joins (printed by dg7.py). -/
import Derived.Test.YtgapnemcomkomaaDgT6
set_option linter.unusedVariables false
set_option linter.unusedSimpArgs false
namespace Go.Fr.Try
open Go Go.RowKit Go.Proofs Go.Fr Go.Fr.T Go.Fr.Api

/-- the writer, and what a closure holds -/
def Wx33 (p : C) (bs : List UInt8) (x : Fun) : List TO := [.box 114 [.rw 1001, p], .row 5 1 (bcells bs), .box 30 (funC x)]
theorem t33 {po : Option Prog} {p : C} (hp : PC po p) (x : Fun) (bs : List UInt8) (hb : (bs ++ encSig po x).length ≤ 2 ^ 46) : CallsT P 33 [.own 1000 0, .own 1002 0] (Wx33 p bs x) (Ret (Wx33 p (bs ++ encSig po x) x) (.tup [])) := by
  have h := t34 hp x bs hb
  generalize encSig po x = code at h hb ⊢
  refine callsT_facts Try.func33 facts33 rfl fun hw _ => ?_
  have hp' := hp
  cases hp
  all_goals
    refine callO [1000, 1001] [1000, 1001] h rfl rfl rfl rfl rfl fun _ _ => ?_
    exact retO [1000, 1001, 1002] rfl rfl rfl rfl
theorem t32_33 (x : Fun) (hb : (encSig none x).length ≤ 2 ^ 46) : CallsT P 32 [.nilp, .fn 33 [] [.own 1000 0]] [.box 30 (funC x)] (Ret [.box 30 (funC x), .row 5 1 (bcells (encSig none x))] (.rw 1001)) := by
  have h := t33 .nil x [] hb
  generalize encSig none x = code at h ⊢
  refine callsT_facts Try.func32 facts32 rfl fun hw _ => ?_
  refine callG [(8, .box 114 [.rw 2000, .nilp]), (1000, .box 30 (funC x)), (2000, .row 5 1 [])] [8, 2000, 1000] [8, 2000, 1000] h
    ⟨.inl ⟨_, rfl, .inr ⟨114, _, _, rfl, rfl, _, _, rfl, .inr (.inr (.inr (.inl ⟨rfl, 2000, 5, 1, rfl, rfl, rfl⟩))), _, _, rfl, .inr (.inl ⟨rfl, rfl⟩), rfl⟩⟩, .inl ⟨_, rfl, .inl ⟨rfl, rfl⟩⟩, .inr ⟨rfl, 5, 1, rfl⟩, trivial⟩
    rfl rfl rfl rfl rfl fun _ _ => ?_
  exact retO [1000, 2000] rfl rfl rfl rfl
/-- the writer, and what a closure holds -/
def Wx35 (p : C) (bs : List UInt8) (x : Fun) : List TO := [.box 114 [.rw 1001, p], .row 5 1 (bcells bs), .box 30 (funC x)]
theorem t35 {po : Option Prog} {p : C} (hp : PC po p) (x : Fun) (bs : List UInt8) (hb : (bs ++ encFun po x).length ≤ 2 ^ 46) : CallsT P 35 [.own 1000 0, .own 1002 0] (Wx35 p bs x) (Ret (Wx35 p (bs ++ encFun po x) x) (.tup [])) := by
  have h := t36 hp x bs hb
  generalize encFun po x = code at h hb ⊢
  refine callsT_facts Try.func35 facts35 rfl fun hw _ => ?_
  have hp' := hp
  cases hp
  all_goals
    refine callO [1000, 1001] [1000, 1001] h rfl rfl rfl rfl rfl fun _ _ => ?_
    exact retO [1000, 1001, 1002] rfl rfl rfl rfl
theorem t32_35 (x : Fun) (hb : (encFun none x).length ≤ 2 ^ 46) : CallsT P 32 [.nilp, .fn 35 [] [.own 1000 0]] [.box 30 (funC x)] (Ret [.box 30 (funC x), .row 5 1 (bcells (encFun none x))] (.rw 1001)) := by
  have h := t35 .nil x [] hb
  generalize encFun none x = code at h ⊢
  refine callsT_facts Try.func32 facts32 rfl fun hw _ => ?_
  refine callG [(8, .box 114 [.rw 2000, .nilp]), (1000, .box 30 (funC x)), (2000, .row 5 1 [])] [8, 2000, 1000] [8, 2000, 1000] h
    ⟨.inl ⟨_, rfl, .inr ⟨114, _, _, rfl, rfl, _, _, rfl, .inr (.inr (.inr (.inl ⟨rfl, 2000, 5, 1, rfl, rfl, rfl⟩))), _, _, rfl, .inr (.inl ⟨rfl, rfl⟩), rfl⟩⟩, .inl ⟨_, rfl, .inl ⟨rfl, rfl⟩⟩, .inr ⟨rfl, 5, 1, rfl⟩, trivial⟩
    rfl rfl rfl rfl rfl fun _ _ => ?_
  exact retO [1000, 2000] rfl rfl rfl rfl
/-- the writer, and what a closure holds -/
def Wx44 (p : C) (bs : List UInt8) (x : Ty) : List TO := [.box 114 [.rw 1001, p], .row 5 1 (bcells bs), .box 26 (tyC x)]
theorem t44 {po : Option Prog} {p : C} (hp : PC po p) (x : Ty) (bs : List UInt8) (hb : (bs ++ encTy po x).length ≤ 2 ^ 46) : CallsT P 44 [.own 1000 0, .own 1002 0] (Wx44 p bs x) (Ret (Wx44 p (bs ++ encTy po x) x) (.tup [])) := by
  have h := t45 hp x bs hb
  generalize encTy po x = code at h hb ⊢
  rw [tyC_eq] at h
  unfold Wx44
  rw [tyC_eq]
  refine callsT_facts Try.func44 facts44 rfl fun hw _ => ?_
  have hp' := hp
  cases hp
  all_goals
    refine callO [1000, 1001] [1000, 1001] h rfl rfl rfl rfl rfl fun _ _ => ?_
    exact retO [1000, 1001, 1002] rfl rfl rfl rfl
theorem t32_44 (x : Ty) (hb : (encTy none x).length ≤ 2 ^ 46) : CallsT P 32 [.nilp, .fn 44 [] [.own 1000 0]] [.box 26 (tyC x)] (Ret [.box 26 (tyC x), .row 5 1 (bcells (encTy none x))] (.rw 1001)) := by
  have h := t44 .nil x [] hb
  generalize encTy none x = code at h ⊢
  unfold Wx44 at h
  rw [tyC_eq] at h ⊢
  refine callsT_facts Try.func32 facts32 rfl fun hw _ => ?_
  refine callG [(8, .box 114 [.rw 2000, .nilp]), (1000, .box 26 [IC x.kind, IC x.id, .sl (x.args.map tyC)]), (2000, .row 5 1 [])] [8, 2000, 1000] [8, 2000, 1000] h
    ⟨.inl ⟨_, rfl, .inr ⟨114, _, _, rfl, rfl, _, _, rfl, .inr (.inr (.inr (.inl ⟨rfl, 2000, 5, 1, rfl, rfl, rfl⟩))), _, _, rfl, .inr (.inl ⟨rfl, rfl⟩), rfl⟩⟩, .inl ⟨_, rfl, .inl ⟨rfl, rfl⟩⟩, .inr ⟨rfl, 5, 1, rfl⟩, trivial⟩
    rfl rfl rfl rfl rfl fun _ _ => ?_
  exact retO [1000, 2000] rfl rfl rfl rfl
theorem t13 (f : Fun) (hb : (encFun none f).length ≤ 2 ^ 46) : CallsT P 13 [.agg (funC f)] [] (Ret [] (.tup [.int .i64 (foldN (bytesN (encSig none f))), .int .i64 (foldN (bytesN (encFun none f)))])) := by
  have hs : (encSig none f).length ≤ 2 ^ 46 := by simp only [encFun, List.length_append] at hb; omega
  have h1 := t32_33 f hs
  have h2 := t32_35 f hb
  generalize encSig none f = c1 at h1 ⊢
  generalize encFun none f = c2 at h2 ⊢
  refine callsT_facts Try.func13 facts13 rfl fun hw _ => ?_
  refine callO [1] [1, 5] h1 rfl rfl rfl rfl rfl fun _ _ => ?_
  refine callF [5] [] [] (t15 c1) ⟨[], rfl, rfl, rfl, rfl, rfl, fun _ _ => ?_⟩
  refine callO [1] [1, 8] h2 rfl rfl rfl rfl rfl fun _ _ => ?_
  refine callF [8] [] [] (t15 c2) ⟨[], rfl, rfl, rfl, rfl, rfl, fun _ _ => ?_⟩
  exact retP rfl rfl
/-- the bytes of a type, given up -/
theorem t20 (t : Ty) (hb : (encTy none t).length ≤ 2 ^ 46) : CallsT P 20 [.agg (tyC t)] [] (Ret [] (.sl (bcells (encTy none t)))) := by
  have h := t32_44 t hb
  generalize encTy none t = code at h ⊢
  rw [tyC_eq] at h ⊢
  refine callsT_facts Try.func20 facts20 rfl fun hw _ => ?_
  refine callO [1] [1, 4] h rfl rfl rfl rfl rfl fun _ _ => ?_
  exact retF [4] [] ⟨_, [], rfl, rfl, rfl, rfl, rfl⟩
def modN (n : Int) : Int := (n.tmod 2147483647 + 2147483647).tmod 2147483647
theorem tmod_bd (n : Int) : -2147483647 < n.tmod 2147483647 ∧ n.tmod 2147483647 < 2147483647 := by
  have h1 := Int.lt_tmod_of_pos n (b := 2147483647) (by omega)
  have h2 := Int.tmod_lt_of_pos n (b := 2147483647) (by omega)
  omega
theorem modN_bd (n : Int) : 0 ≤ modN n ∧ modN n < 2147483647 := by
  have h := tmod_bd n
  unfold modN
  rw [Int.tmod_eq_emod_of_nonneg (by omega)]
  exact ⟨Int.emod_nonneg _ (by omega), Int.emod_lt_of_pos _ (by omega)⟩
theorem t42 (n : Int) : CallsT P 42 [IC n] [] (Ret [] (IC (modN n))) := by
  refine callsT_facts Try.func42 facts42 rfl fun hw _ => ?_
  have h := tmod_bd n
  refine NonZ.mk (by omega) ?_
  refine Fit.in64 (by omega) (by omega) ?_
  refine NonZ.mk (by omega) ?_
  exact retP rfl rfl
theorem t41 (l : List Int) : CallsT P 41 [.sl (ics l), .fn 42 [] []] [] (Ret [] (.int .i64 (foldN (l.map modN)))) := by
  refine callsT_facts Try.func41 facts41 rfl fun hw _ => ?_
  have hn : l.length ≤ 9223372036854775807 := by have := wf_len hw.1; simpa [ics] using this
  refine loopN l.length 10 [5] 7 (fun h => [.int .i64 h]) (fun _ => []) (fun k h => 0 ≤ h ∧ h < 2147483647 ∧ ((l.drop k).map modN).foldl stepN h = foldN (l.map modN)) ⟨by omega, by omega, rfl⟩
    (same_keys rfl) ⟨same_keys rfl, trivial⟩ trivial (fun _ => rfl) (fun _ => rfl) ?_
  rintro k h hk ⟨h0, h1, hf⟩ hw1 _ hk64
  refine brn_p (fun hlt => ?_) (fun hge => ?_)
  · have hlt : k < l.length := by simpa [ics] using hlt
    obtain ⟨x, hx, hd⟩ := drop_cons hlt
    rw [hd] at hf
    obtain ⟨m1, m2⟩ := modN_bd x
    obtain ⟨g1, g2⟩ := stepN_bd (x := modN x) h0 m1
    refine idxI hx ?_
    refine Fit.in64 (by omega) (by omega) ?_
    refine callP (t42 x) rfl fun _ => ?_
    refine Fit.in64 (by omega) (by omega) ?_
    refine Fit.in64 (by omega) (by omega) ?_
    refine NonZ.mk (by omega) ?_
    refine Fit.in64 (by omega) (by omega) ?_
    exact ⟨(k + 1, stepN h (modN x)), ⟨hlt, g1, g2, hf⟩, ⟨nextI, same_keys rfl, trivial⟩, trivial, nextM hlt⟩
  · have hge : ¬ k < l.length := by simpa [ics] using hge
    rw [drop_end hge] at hf
    exact retP rfl (congrArg (C.int .i64) hf)
theorem t17 (l : List Int) : CallsT P 17 [.sl (ics l)] [] (Ret [] (.int .i64 (foldN (l.map modN)))) := by
  refine callsT_facts Try.func17 facts17 rfl fun hw _ => ?_
  exact callP (t41 l) rfl fun _ => retP rfl rfl
theorem t53 (x : Api.Data) : CallsT P 53 [.agg (dataC x)] [] (Ret [] (IC x.module)) := by
  refine callsT_facts Try.func53 facts53 rfl fun hw _ => ?_
  exact retP rfl rfl
set_option maxRecDepth 10000 in
theorem t52 (l : List Api.Data) (m : Int) (hl : l.length ≤ 2 ^ 30) : CallsT P 52 [.sl (l.map dataC), IC m, .fn 53 [] []] [] (Ret [] (.sl ((l.filter fun x => decide (x.module = m)).map dataC))) := by
  refine callsT_facts Try.func52 facts52 rfl fun hw _ => ?_
  refine loopN l.length 12 [7] [] (fun _ => [.rw 7]) (fun s => [(7, .row 58 5 (s.map dataC))]) (fun k s => s.length ≤ k ∧ s ++ (l.drop k).filter (fun x => decide (x.module = m)) = l.filter fun x => decide (x.module = m)) ⟨Nat.le_refl _, by simp⟩
    (same_keys rfl) ⟨.inr (.inr (.inr (.inl ⟨rfl, 7, 58, 5, rfl, rfl, rfl⟩))), trivial⟩ ⟨.inr ⟨rfl, 58, 5, rfl⟩, trivial⟩ (fun _ => rfl) (fun _ => rfl) ?_
  rintro k s hk ⟨hsk, hinv⟩ _ _ _
  refine brn_p (fun hlt => ?_) (fun hge => ?_)
  · have hlt : k < l.length := by simpa using hlt
    obtain ⟨x, hx, hd⟩ := drop_cons hlt
    rw [hd] at hinv
    refine idxT hx rfl rfl ?_
    refine callP (t53 x) rfl fun _ => ?_
    refine brn_p (fun he => ?_) (fun he => ?_)
    · refine AppT.mk ?_ ?_ ?_ ?_
      · intro es h
        rcases List.mem_cons.1 h with rfl | h
        · rfl
        · cases h
      · show (s.map dataC).length + 1 ≤ maxLen
        rw [List.length_map]; simp only [maxLen]; omega
      · show ((s.map dataC).length + 1) * 64 ≤ _
        rw [List.length_map]; omega
      refine Fit.in64 (by omega) (by omega) ?_
      refine ⟨(k + 1, s ++ [x]), ⟨hlt, by simpa using hsk, ?_⟩, ⟨nextI, same_keys rfl, trivial⟩, ⟨.inl ⟨_, rfl, .inl ⟨?_, rfl⟩⟩, trivial⟩, nextM hlt⟩
      · rw [← hinv, List.filter_cons, if_pos (by simpa using he)]; simp
      · refine congrArg (TO.row 58 5) ?_
        rw [List.map_append]; rfl
    · refine Fit.in64 (by omega) (by omega) ?_
      refine ⟨(k + 1, s), ⟨hlt, by show s.length ≤ k + 1; omega, ?_⟩, ⟨nextI, same_keys rfl, trivial⟩, ⟨.inl ⟨_, rfl, .inl ⟨rfl, rfl⟩⟩, trivial⟩, nextM hlt⟩
      rw [← hinv, List.filter_cons, if_neg (by simpa using he)]
  · have hge : ¬ k < l.length := by simpa using hge
    rw [drop_end hge] at hinv
    refine retF [7] [] ⟨_, [], rfl, rfl, rfl, rfl, ?_⟩
    simp only [List.filter_nil, List.append_nil] at hinv
    subst hinv
    rfl
theorem t61 (x : Impl) : CallsT P 61 [.agg (implC x)] [] (Ret [] (IC x.module)) := by
  refine callsT_facts Try.func61 facts61 rfl fun hw _ => ?_
  exact retP rfl rfl
set_option maxRecDepth 10000 in
theorem t60 (l : List Impl) (m : Int) (hl : l.length ≤ 2 ^ 30) : CallsT P 60 [.sl (l.map implC), IC m, .fn 61 [] []] [] (Ret [] (.sl ((l.filter fun x => decide (x.module = m)).map implC))) := by
  refine callsT_facts Try.func60 facts60 rfl fun hw _ => ?_
  refine loopN l.length 12 [7] [] (fun _ => [.rw 7]) (fun s => [(7, .row 43 8 (s.map implC))]) (fun k s => s.length ≤ k ∧ s ++ (l.drop k).filter (fun x => decide (x.module = m)) = l.filter fun x => decide (x.module = m)) ⟨Nat.le_refl _, by simp⟩
    (same_keys rfl) ⟨.inr (.inr (.inr (.inl ⟨rfl, 7, 43, 8, rfl, rfl, rfl⟩))), trivial⟩ ⟨.inr ⟨rfl, 43, 8, rfl⟩, trivial⟩ (fun _ => rfl) (fun _ => rfl) ?_
  rintro k s hk ⟨hsk, hinv⟩ _ _ _
  refine brn_p (fun hlt => ?_) (fun hge => ?_)
  · have hlt : k < l.length := by simpa using hlt
    obtain ⟨x, hx, hd⟩ := drop_cons hlt
    rw [hd] at hinv
    refine idxT hx rfl rfl ?_
    refine callP (t61 x) rfl fun _ => ?_
    refine brn_p (fun he => ?_) (fun he => ?_)
    · refine AppT.mk ?_ ?_ ?_ ?_
      · intro es h
        rcases List.mem_cons.1 h with rfl | h
        · rfl
        · cases h
      · show (s.map implC).length + 1 ≤ maxLen
        rw [List.length_map]; simp only [maxLen]; omega
      · show ((s.map implC).length + 1) * 96 ≤ _
        rw [List.length_map]; omega
      refine Fit.in64 (by omega) (by omega) ?_
      refine ⟨(k + 1, s ++ [x]), ⟨hlt, by simpa using hsk, ?_⟩, ⟨nextI, same_keys rfl, trivial⟩, ⟨.inl ⟨_, rfl, .inl ⟨?_, rfl⟩⟩, trivial⟩, nextM hlt⟩
      · rw [← hinv, List.filter_cons, if_pos (by simpa using he)]; simp
      · refine congrArg (TO.row 43 8) ?_
        rw [List.map_append]; rfl
    · refine Fit.in64 (by omega) (by omega) ?_
      refine ⟨(k + 1, s), ⟨hlt, by show s.length ≤ k + 1; omega, ?_⟩, ⟨nextI, same_keys rfl, trivial⟩, ⟨.inl ⟨_, rfl, .inl ⟨rfl, rfl⟩⟩, trivial⟩, nextM hlt⟩
      rw [← hinv, List.filter_cons, if_neg (by simpa using he)]
  · have hge : ¬ k < l.length := by simpa using hge
    rw [drop_end hge] at hinv
    refine retF [7] [] ⟨_, [], rfl, rfl, rfl, rfl, ?_⟩
    simp only [List.filter_nil, List.append_nil] at hinv
    subst hinv
    rfl
theorem t68 (x : Fun) : CallsT P 68 [.agg (funC x)] [] (Ret [] (IC x.module)) := by
  refine callsT_facts Try.func68 facts68 rfl fun hw _ => ?_
  exact retP rfl rfl
set_option maxRecDepth 10000 in
theorem t67 (l : List Fun) (m : Int) (hl : l.length ≤ 2 ^ 30) : CallsT P 67 [.sl (l.map funC), IC m, .fn 68 [] []] [] (Ret [] (.sl ((l.filter fun x => decide (x.module = m)).map funC))) := by
  refine callsT_facts Try.func67 facts67 rfl fun hw _ => ?_
  refine loopN l.length 12 [7] [] (fun _ => [.rw 7]) (fun s => [(7, .row 30 11 (s.map funC))]) (fun k s => s.length ≤ k ∧ s ++ (l.drop k).filter (fun x => decide (x.module = m)) = l.filter fun x => decide (x.module = m)) ⟨Nat.le_refl _, by simp⟩
    (same_keys rfl) ⟨.inr (.inr (.inr (.inl ⟨rfl, 7, 30, 11, rfl, rfl, rfl⟩))), trivial⟩ ⟨.inr ⟨rfl, 30, 11, rfl⟩, trivial⟩ (fun _ => rfl) (fun _ => rfl) ?_
  rintro k s hk ⟨hsk, hinv⟩ _ _ _
  refine brn_p (fun hlt => ?_) (fun hge => ?_)
  · have hlt : k < l.length := by simpa using hlt
    obtain ⟨x, hx, hd⟩ := drop_cons hlt
    rw [hd] at hinv
    refine idxT hx rfl rfl ?_
    refine callP (t68 x) rfl fun _ => ?_
    refine brn_p (fun he => ?_) (fun he => ?_)
    · refine AppT.mk ?_ ?_ ?_ ?_
      · intro es h
        rcases List.mem_cons.1 h with rfl | h
        · rfl
        · cases h
      · show (s.map funC).length + 1 ≤ maxLen
        rw [List.length_map]; simp only [maxLen]; omega
      · show ((s.map funC).length + 1) * 176 ≤ _
        rw [List.length_map]; omega
      refine Fit.in64 (by omega) (by omega) ?_
      refine ⟨(k + 1, s ++ [x]), ⟨hlt, by simpa using hsk, ?_⟩, ⟨nextI, same_keys rfl, trivial⟩, ⟨.inl ⟨_, rfl, .inl ⟨?_, rfl⟩⟩, trivial⟩, nextM hlt⟩
      · rw [← hinv, List.filter_cons, if_pos (by simpa using he)]; simp
      · refine congrArg (TO.row 30 11) ?_
        rw [List.map_append]; rfl
    · refine Fit.in64 (by omega) (by omega) ?_
      refine ⟨(k + 1, s), ⟨hlt, by show s.length ≤ k + 1; omega, ?_⟩, ⟨nextI, same_keys rfl, trivial⟩, ⟨.inl ⟨_, rfl, .inl ⟨rfl, rfl⟩⟩, trivial⟩, nextM hlt⟩
      rw [← hinv, List.filter_cons, if_neg (by simpa using he)]
  · have hge : ¬ k < l.length := by simpa using hge
    rw [drop_end hge] at hinv
    refine retF [7] [] ⟨_, [], rfl, rfl, rfl, rfl, ?_⟩
    simp only [List.filter_nil, List.append_nil] at hinv
    subst hinv
    rfl
theorem t19 (a b : List UInt8) : CallsT P 19 [.sl (bcells a), .sl (bcells b)] [] (Ret [] (.bool (decide (a = b)))) := by
  refine callsT_facts Try.func19 facts19 rfl fun hw _ => ?_
  refine BytesT.mk ⟨a, rfl, ?_⟩
  refine BytesT.mk ⟨b, rfl, ?_⟩
  refine retP rfl ?_
  show C.bool (streq ⟨a.toArray⟩ ⟨b.toArray⟩) = _
  simp [streq]
def tyInt : Ty := .mk 1 0 []
theorem t30 : CallsT P 30 [] [] (Ret [] (.agg (tyC tyInt))) := by
  refine callsT_facts Try.func30 facts30 rfl fun hw _ => ?_
  exact retP rfl rfl
end Go.Fr.Try
