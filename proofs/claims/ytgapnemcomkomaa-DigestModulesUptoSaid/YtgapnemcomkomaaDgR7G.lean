/- Part of the proofs of the statements of this seat. -/
import Derived.Test.YtgapnemcomkomaaDgU2G
import Derived.Test.YtgapnemcomkomaaFW2
/- Digest: tiny functions, small programs: nothing is asked of the answer. -/
set_option linter.unusedVariables false
set_option linter.unusedSimpArgs false
namespace Go.Fr.Try
open Go Go.RowKit Go.Proofs Go.Fr Go.Fr.T Go.Fr.Api

theorem t31' (x : Ty) : CallsT P 31 [.agg [IC x.kind, IC x.id, .sl (x.args.map tyC)], IC 30] [] (Ret [] (IC (few x 30))) := by
  have := t31 x 30 (by omega) (by omega)
  rw [tyC_eq] at this
  exact this
set_option maxRecDepth 10000 in
theorem t11 (f : Fun) : CallsT P 11 [.agg (funC f)] [] (Such True) := by
  have h31 := t31'
  have h10 := t10
  generalize few = fw at h31
  generalize smallL = sm at h10
  refine callsT_facts Try.func11 facts11 rfl fun hw _ => ?_
  have hw := hw.1
  have hl1 : f.locals.length ≤ 9223372036854775807 := wf_lenM hw.2.2.2.2.2.2.2.2.1
  have hl2 : f.blocks.length ≤ 9223372036854775807 := wf_lenM hw.2.2.2.2.2.2.2.2.2.1
  have hlb : ∀ b ∈ f.blocks, b.code.length ≤ 9223372036854775807 := fun b hb => wf_lenM (wf_map hw.2.2.2.2.2.2.2.2.2.1 b hb).1
  refine brn_p (fun _ => ?_) (fun _ => ?_)
  · exact retB false rfl rfl (fun _ => trivial)
  refine brn_p (fun _ => ?_) (fun _ => ?_)
  · exact retB false rfl rfl (fun _ => trivial)
  refine brn_p (fun _ => ?_) (fun _ => ?_)
  · exact retB false rfl rfl (fun _ => trivial)
  refine brn_p (fun _ => ?_) (fun _ => ?_)
  · exact retB false rfl rfl (fun _ => trivial)
  refine callP (h31 f.result) rfl fun _ => ?_
  refine brn_p (fun _ => ?_) (fun _ => ?_)
  · exact retB false rfl rfl (fun _ => trivial)
  refine loopN f.locals.length 3 [] () (fun _ => []) (fun _ => [(1, .box 30 (funC f))]) (fun _ _ => True) trivial (same_keys rfl) trivial ⟨.inl ⟨_, rfl, .inl ⟨rfl, rfl⟩⟩, trivial⟩ (fun _ => rfl) (fun _ => rfl) ?_
  rintro k _ hk _ _ _ _
  refine brn_p (fun hlt => ?_) (fun hge => ?_)
  · have hlt : k < f.locals.length := by simpa using hlt
    refine withGet hlt fun x hx _ => ?_
    refine idxTy hx ?_
    refine callP (h31 _) rfl fun _ => ?_
    refine brn_p (fun _ => ?_) (fun _ => ?_)
    · exact retB false rfl rfl (fun _ => trivial)
    refine Fit.in64 (by omega) (by omega) ?_
    exact ⟨(k + 1, ()), ⟨hlt, trivial⟩, ⟨nextI, trivial⟩, ⟨.inl ⟨_, rfl, .inl ⟨rfl, rfl⟩⟩, trivial⟩, nextM hlt⟩
  refine loopN f.blocks.length 4 [] () (fun _ => []) (fun _ => [(1, .box 30 (funC f))]) (fun _ _ => True) trivial (same_keys rfl) trivial ⟨.inl ⟨_, rfl, .inl ⟨rfl, rfl⟩⟩, trivial⟩ (fun _ => rfl) (fun _ => rfl) ?_
  rintro k _ hk _ _ _ _
  refine brn_p (fun hlt => ?_) (fun hge => ?_)
  · have hlt : k < f.blocks.length := by simpa using hlt
    refine withGet hlt fun b hbx hbm => ?_
    have hbl := hlb b hbm
    refine idxT hbx rfl rfl ?_
    refine brn_p (fun _ => ?_) (fun _ => ?_)
    · exact retB false rfl rfl (fun _ => trivial)
    refine idxT hbx rfl rfl ?_
    refine brn_p (fun _ => ?_) (fun _ => ?_)
    · exact retB false rfl rfl (fun _ => trivial)
    refine loopN b.code.length 5 [4] () (fun _ => [IC k]) (fun _ => [(1, .box 30 (funC f))]) (fun _ _ => True) trivial (same_keys rfl) ⟨same_keys rfl, trivial⟩ ⟨.inl ⟨_, rfl, .inl ⟨rfl, rfl⟩⟩, trivial⟩ (fun _ => rfl) (fun _ => rfl) ?_
    rintro j _ hj _ _ _ _
    refine idxT hbx rfl rfl ?_
    refine brn_p (fun hlt' => ?_) (fun hge => ?_)
    · have hlt' : j < b.code.length := by simpa using hlt'
      refine idxT hbx rfl rfl ?_
      refine withGet hlt' fun y hy _ => ?_
      refine idxT hy rfl rfl ?_
      refine brn_p (fun _ => ?_) (fun _ => ?_)
      · exact retB false rfl rfl (fun _ => trivial)
      refine callP (h10 _) rfl fun _ => ?_
      refine brn_split (fun _ => ?_) (fun _ => ?_)
      · exact retB false rfl rfl (fun _ => trivial)
      refine Fit.in64 (by omega) (by omega) ?_
      exact ⟨(j + 1, ()), ⟨hlt', trivial⟩, ⟨nextI, same_keys rfl, trivial⟩, ⟨.inl ⟨_, rfl, .inl ⟨rfl, rfl⟩⟩, trivial⟩, nextM hlt'⟩
    refine Fit.in64 (by omega) (by omega) ?_
    exact ⟨(k + 1, ()), ⟨hlt, trivial⟩, ⟨nextI, trivial⟩, ⟨.inl ⟨_, rfl, .inl ⟨rfl, rfl⟩⟩, trivial⟩, nextM hlt⟩
  exact retB true rfl rfl (fun _ => trivial)
end Go.Fr.Try

/- Digest: the reference implementation: numbers, lists of numbers, texts, sums. -/
set_option linter.unusedVariables false
set_option linter.unusedSimpArgs false
namespace Go.Fr.Try
open Go Go.RowKit Go.Proofs Go.Fr Go.Fr.T Go.Fr.Api

/-- bytes are handed back, the caller's from now on -/
abbrev Rb (f : Nat) (args : List C) (code : List UInt8) : Prop := CallsT P f args [] (Ret [.row 5 1 (bcells code)] (.rw 1000))
section
variable {L : TL} {ρ : TEnv}
theorem callDO {f : Nat} {args args' : List C} {K : TL → C → Prop} {t sz : Nat} {els : List (List C)} {k : Nat} (h : CallsT P f args' [] (Ret [.row t sz els] (.rw 1000))) (ha : (args.map fun c => c.canA.ren (toIn [] 1000)) = args') (hk : L.get k = none) (kk : K (L.set k (.row t sz els)) (.rw k)) : CallDT P f args L (some k) K := by
  subst ha
  exact .own _ k h rfl hk fun v Mo ⟨e1, e2⟩ _ _ => by subst e1 e2; exact ⟨_, rfl, kk⟩
end
theorem appB {a b : List UInt8} {K : Prop} (h : a.length + b.length ≤ 140737488355328) (k : K) : AppT (bcells a) (bcells b) 1 1 K :=
  ⟨bcells_sz, by rw [bcells_len, bcells_len]; simp [maxLen]; omega, by rw [bcells_len, bcells_len]; simp; omega, k⟩
set_option maxRecDepth 10000 in
theorem t77 (n : Int) : Rb 77 [IC n] (encI n) := by
  refine callsT_facts Try.func77 facts77 rfl fun hw _ => ?_
  have hn := wf_I hw.1
  have hzl : (encI n).length ≤ 10 := encI_le hw.1
  refine Fit.to (wrap_u64 _) ?_
  refine Fit.to (wrap_u64 _) ?_
  refine brn_p (fun hneg => ?_) (fun hpos => ?_)
  · refine Fit.in64 (by omega) (by omega) ?_
    refine Fit.in64 (by omega) (by omega) ?_
    refine Fit.to (wrap_u64 _) ?_
    refine Fit.to (wrap_u64 _) ?_
    refine Fit.to (wrap_u64 _) ?_
    refine LoopT.mk ⟨Nat × List UInt8, (zig n, []), fun y => y.1 < 18446744073709551616 ∧ y.2 ++ encN y.1 = encI n, [3, 4], fun y => [.int .u64 y.1, .rw 24], fun y => [(24, .row 5 1 (bcells y.2))], fun y => y.1, ⟨?_, rfl⟩, ⟨.inr (.inl ⟨?_, rfl⟩), .inr (.inr (.inr (.inl ⟨rfl, 24, 5, 1, rfl, rfl, rfl⟩))), trivial⟩,
      ⟨.inr ⟨rfl, 5, 1, rfl⟩, trivial⟩, fun _ => rfl, fun _ => rfl, ?_⟩
    · show zig n < _
      unfold zig; split <;> omega
    · refine congrArg (C.int .u64) ?_
      unfold zig; rw [if_pos hneg]; omega
    · rintro ⟨m, done⟩ ⟨hm64, hmi⟩ _ _
      simp only at hmi hm64
      have hdl : done.length + (encN m).length ≤ 10 := by
        have := congrArg List.length hmi
        simp only [List.length_append] at this
        omega
      have h1 := encN_len m
      refine brn_p (fun hm => ?_) (fun hm => ?_)
      · have hm : 128 ≤ m := by have : (128 : Int) ≤ (m : Int) := hm; omega
        have hde : encN m = UInt8.ofNat (128 + m % 128) :: encN (m / 128) := by rw [encN, dif_neg (by omega)]
        refine NonZ.mk (by omega) ?_
        refine Fit.to (wrap_u64 _) ?_
        refine Fit.to (u8_hi m) ?_
        refine app1 (bs := done) (by omega) ?_
        refine NonZ.mk (by omega) ?_
        refine Fit.to (wrap_u64 _) ?_
        refine ⟨(m / 128, done ++ [UInt8.ofNat (128 + m % 128)]), ⟨?_, ?_⟩, ⟨.inr (.inl ⟨?_, rfl⟩), same_keys rfl, trivial⟩, ⟨.inl ⟨_, rfl, .inl ⟨?_, rfl⟩⟩, trivial⟩, ?_⟩
        · show m / 128 < _; omega
        · show done ++ [UInt8.ofNat (128 + m % 128)] ++ encN (m / 128) = encI n
          rw [← hmi, hde]; simp
        · refine congrArg (C.int .u64) ?_
          show ((m / 128 : Nat) : Int) % _ = ((m / 128 : Nat) : Int)
          omega
        · exact congrArg (TO.row 5 1) (bcells_snoc _ _).symm
        · show m / 128 < m; omega
      · have hm : m < 128 := by have : ¬ (128 : Int) ≤ (m : Int) := hm; omega
        have hde : encN m = [UInt8.ofNat m] := by rw [encN, dif_pos hm]
        refine Fit.to (u8_lo m) ?_
        refine app1 (bs := done) (by omega) ?_
        have e : bcells done ++ [[bcell (UInt8.ofNat m)]] = bcells (encI n) := by rw [← hmi, hde, bcells_snoc]
        exact retO [24] rfl rfl (congrArg (fun c => [TO.row 5 1 c]) e) rfl
  · refine LoopT.mk ⟨Nat × List UInt8, (zig n, []), fun y => y.1 < 18446744073709551616 ∧ y.2 ++ encN y.1 = encI n, [3, 4], fun y => [.int .u64 y.1, .rw 24], fun y => [(24, .row 5 1 (bcells y.2))], fun y => y.1, ⟨?_, rfl⟩, ⟨.inr (.inl ⟨?_, rfl⟩), .inr (.inr (.inr (.inl ⟨rfl, 24, 5, 1, rfl, rfl, rfl⟩))), trivial⟩,
      ⟨.inr ⟨rfl, 5, 1, rfl⟩, trivial⟩, fun _ => rfl, fun _ => rfl, ?_⟩
    · show zig n < _
      unfold zig; split <;> omega
    · refine congrArg (C.int .u64) ?_
      unfold zig; rw [if_neg hpos]; omega
    · rintro ⟨m, done⟩ ⟨hm64, hmi⟩ _ _
      simp only at hmi hm64
      have hdl : done.length + (encN m).length ≤ 10 := by
        have := congrArg List.length hmi
        simp only [List.length_append] at this
        omega
      have h1 := encN_len m
      refine brn_p (fun hm => ?_) (fun hm => ?_)
      · have hm : 128 ≤ m := by have : (128 : Int) ≤ (m : Int) := hm; omega
        have hde : encN m = UInt8.ofNat (128 + m % 128) :: encN (m / 128) := by rw [encN, dif_neg (by omega)]
        refine NonZ.mk (by omega) ?_
        refine Fit.to (wrap_u64 _) ?_
        refine Fit.to (u8_hi m) ?_
        refine app1 (bs := done) (by omega) ?_
        refine NonZ.mk (by omega) ?_
        refine Fit.to (wrap_u64 _) ?_
        refine ⟨(m / 128, done ++ [UInt8.ofNat (128 + m % 128)]), ⟨?_, ?_⟩, ⟨.inr (.inl ⟨?_, rfl⟩), same_keys rfl, trivial⟩, ⟨.inl ⟨_, rfl, .inl ⟨?_, rfl⟩⟩, trivial⟩, ?_⟩
        · show m / 128 < _; omega
        · show done ++ [UInt8.ofNat (128 + m % 128)] ++ encN (m / 128) = encI n
          rw [← hmi, hde]; simp
        · refine congrArg (C.int .u64) ?_
          show ((m / 128 : Nat) : Int) % _ = ((m / 128 : Nat) : Int)
          omega
        · exact congrArg (TO.row 5 1) (bcells_snoc _ _).symm
        · show m / 128 < m; omega
      · have hm : m < 128 := by have : ¬ (128 : Int) ≤ (m : Int) := hm; omega
        have hde : encN m = [UInt8.ofNat m] := by rw [encN, dif_pos hm]
        refine Fit.to (u8_lo m) ?_
        refine app1 (bs := done) (by omega) ?_
        have e : bcells done ++ [[bcell (UInt8.ofNat m)]] = bcells (encI n) := by rw [← hmi, hde, bcells_snoc]
        exact retO [24] rfl rfl (congrArg (fun c => [TO.row 5 1 c]) e) rfl
end Go.Fr.Try

/- Digest: the reference implementation: lists of numbers, texts, sums. -/
set_option linter.unusedVariables false
set_option linter.unusedSimpArgs false
namespace Go.Fr.Try
open Go Go.RowKit Go.Proofs Go.Fr Go.Fr.T Go.Fr.Api

theorem rowE {a b : List (List C)} (h : a = b) : [TO.row 5 1 a] = [TO.row 5 1 b] := by rw [h]
set_option maxRecDepth 10000 in
theorem t46 (l : List Int) (hb : (encIs l).length ≤ 2 ^ 46) : Rb 46 [.sl (ics l)] (encIs l) := by
  have h77 := fun n => (t77 n).give
  refine callsT_facts Try.func46 facts46 rfl fun hw _ => ?_
  have hlen : l.length ≤ 9223372036854775807 := wf_lenM hw.1
  refine loopN l.length 4 [3] ([] : List UInt8) (fun _ => [.rw 17]) (fun s => [(17, .row 5 1 (bcells s))]) (fun k s => s ++ encIs (l.drop k) = encIs l) rfl (same_keys rfl) ⟨.inr (.inr (.inr (.inl ⟨rfl, 17, 5, 1, rfl, rfl, rfl⟩))), trivial⟩
    ⟨.inr ⟨rfl, 5, 1, rfl⟩, trivial⟩ (fun _ => rfl) (fun _ => rfl) ?_
  rintro k s hk hinv _ _ _
  refine brn_p (fun hlt => ?_) (fun hge => ?_)
  · have hlt : k < l.length := by simpa [ics] using hlt
    refine withDrop hlt fun x hx hxm hd => ?_
    rw [hd] at hinv
    have hsz : s.length + (encI x).length ≤ 2 ^ 46 := by
      have := congrArg List.length hinv
      simp only [encIs, List.flatMap_cons, List.length_append] at this hb
      omega
    refine idxI hx ?_
    refine callP (h77 x) rfl fun _ => ?_
    refine appB (a := s) (b := encI x) (by omega) ?_
    refine Fit.in64 (by omega) (by omega) ?_
    refine ⟨(k + 1, s ++ encI x), ⟨hlt, ?_⟩, ⟨nextI, same_keys rfl, trivial⟩, ⟨.inl ⟨_, rfl, .inl ⟨?_, rfl⟩⟩, trivial⟩, nextM hlt⟩
    · show s ++ encI x ++ encIs (l.drop (k + 1)) = encIs l
      rw [← hinv]; simp [encIs]
    · exact congrArg (TO.row 5 1) (bcells_app _ _).symm
  · have hge : ¬ k < l.length := by simpa [ics] using hge
    rw [drop_end hge] at hinv
    have e : s = encIs l := by rw [← hinv]; simp [encIs]
    exact retO [17] rfl rfl (rowE (congrArg bcells e)) rfl
set_option maxRecDepth 10000 in
theorem t79 (l : List Int) (hb : (encL encI l).length ≤ 2 ^ 46) : Rb 79 [.sl (ics l)] (encL encI l) := by
  have e : encL encI l = encI l.length ++ encIs l := rfl
  have e2 : bcells (encI l.length) ++ bcells (encIs l) = bcells (encL encI l) := by rw [e, bcells_app]
  have h46 := (t46 l (by rw [e] at hb; simp only [List.length_append] at hb; omega)).give
  have h77 := t77 l.length
  have hl : (ics l).length = l.length := by simp [ics]
  rw [← hl] at h77
  rw [← hl] at e2
  have hsz : (encI (ics l).length).length + (encIs l).length ≤ 140737488355328 := by rw [hl]; rw [e] at hb; simp only [List.length_append] at hb; omega
  generalize encIs l = c2 at *
  generalize encL encI l = c3 at *
  refine callsT_facts Try.func79 facts79 rfl fun hw _ => ?_
  refine callO [] [5] h77 rfl rfl rfl rfl rfl fun _ _ => ?_
  refine callP h46 rfl fun _ => ?_
  refine appB hsz ?_
  exact retO [5] rfl rfl (rowE e2) rfl
set_option maxRecDepth 10000 in
theorem t76 (s : ByteArray) (hb : (encS s).length ≤ 2 ^ 46) : Rb 76 [.str s] (encS s) := by
  have e : encS s = encI s.size ++ s.data.toList := rfl
  have e2 : bcells (encI s.size) ++ bcells s.data.toList = bcells (encS s) := by rw [e, bcells_app]
  have h77 := t77 s.size
  have hsz : (encI s.size).length + s.data.toList.length ≤ 140737488355328 := by rw [e] at hb; simp only [List.length_append] at hb; omega
  generalize encS s = c3 at *
  refine callsT_facts Try.func76 facts76 rfl fun hw _ => ?_
  refine callO [] [5] h77 rfl rfl rfl rfl rfl fun _ _ => ?_
  refine appB hsz ?_
  exact retO [5] rfl rfl (rowE e2) rfl
set_option maxRecDepth 10000 in
theorem t86 (l : List ByteArray) (i : Int) : CallsT P 86 [.sl (scs l), IC i] [] (Ret [] (.str (nm l i))) := by
  have hl : (scs l).length = l.length := by simp [scs]
  refine callsT_facts Try.func86 facts86 rfl fun hw _ => ?_
  refine brn_p (fun h1 => ?_) (fun h1 => ?_)
  · have e : (⟨#[]⟩ : ByteArray) = nm l i := by simp [nm, elem, h1]
    exact retP rfl (congrArg C.str e)
  refine brn_p (fun h2 => ?_) (fun h2 => ?_)
  · have e : (⟨#[]⟩ : ByteArray) = nm l i := by
      rw [hl] at h2
      simp [nm, elem, h1, List.getElem?_eq_none (show l.length ≤ i.toNat by omega)]
    exact retP rfl (congrArg C.str e)
  · rw [hl] at h2
    have hlt : i.toNat < l.length := by omega
    refine withGet hlt fun x hx _ => ?_
    have e : x = nm l i := by simp [nm, elem, h1, hx]
    refine ⟨[.str x], by omega, by simp [scs, hx], rfl, ?_⟩
    exact retP rfl (congrArg C.str e)
set_option maxRecDepth 10000 in
theorem t16 (bs : List UInt8) : CallsT P 16 [.sl (bcells bs)] [] (Ret [] (.int .i64 (foldN (bytesN bs)))) := by
  refine callsT_facts Try.func16 facts16 rfl fun hw _ => ?_
  have hlen : bs.length ≤ 9223372036854775807 := wf_lenB hw.1
  refine loopN bs.length 4 [3] (7 : Int) (fun h => [IC h]) (fun _ => []) (fun k h => (bytesN (bs.drop k)).foldl stepN h = foldN (bytesN bs) ∧ 0 ≤ h ∧ h < 2147483647) ⟨rfl, by omega, by omega⟩ (same_keys rfl) ⟨same_keys rfl, trivial⟩ trivial (fun _ => rfl) (fun _ => rfl) ?_
  rintro k h hk ⟨hinv, h0, h1⟩ _ _ _
  refine brn_p (fun hlt => ?_) (fun hge => ?_)
  · have hlt : k < bs.length := by simpa [bcells] using hlt
    refine withDrop hlt fun x hx hxm hd => ?_
    rw [hd] at hinv
    have hxb := x.toNat_lt
    refine Fit.in64 (by omega) (by omega) ?_
    refine idxB hx ?_
    refine Fit.in64 (by omega) (by omega) ?_
    refine Fit.in64 (by omega) (by omega) ?_
    refine Fit.in64 (by omega) (by omega) ?_
    refine NonZ.mk (by omega) ?_
    have hs : 0 ≤ stepN h x.toNat ∧ stepN h x.toNat < 2147483647 := by
      unfold stepN
      rw [Int.tmod_eq_emod_of_nonneg (by omega)]
      exact ⟨Int.emod_nonneg _ (by omega), Int.emod_lt_of_pos _ (by omega)⟩
    refine Fit.in64 (by omega) (by omega) ?_
    exact ⟨(k + 1, stepN h x.toNat), ⟨hlt, hinv, hs.1, hs.2⟩, ⟨nextI, same_keys rfl, trivial⟩, trivial, nextM hlt⟩
  · have hge : ¬ k < bs.length := by simpa [bcells] using hge
    rw [drop_end hge] at hinv
    exact retP rfl (congrArg (C.int .i64) hinv)
set_option maxRecDepth 10000 in
theorem t43 (n : Int) : CallsT P 43 [IC n] [] (Ret [] (IC (modN n))) := by
  have hb := tmod_bd n
  refine callsT_facts Try.func43 facts43 rfl fun hw _ => ?_
  refine NonZ.mk (by omega) ?_
  refine Fit.in64 (by omega) (by omega) ?_
  refine NonZ.mk (by omega) ?_
  exact retP rfl rfl
set_option maxRecDepth 10000 in
theorem t18 (l : List Int) : CallsT P 18 [.sl (ics l)] [] (Ret [] (.int .i64 (foldN (l.map modN)))) := by
  have h43 := t43
  have hbd := modN_bd
  generalize modN = md at *
  refine callsT_facts Try.func18 facts18 rfl fun hw _ => ?_
  have hlen : l.length ≤ 9223372036854775807 := wf_lenM hw.1
  refine loopN l.length 4 [3] (7 : Int) (fun h => [IC h]) (fun _ => []) (fun k h => ((l.drop k).map md).foldl stepN h = foldN (l.map md) ∧ 0 ≤ h ∧ h < 2147483647) ⟨rfl, by omega, by omega⟩ (same_keys rfl) ⟨same_keys rfl, trivial⟩ trivial (fun _ => rfl) (fun _ => rfl) ?_
  rintro k h hk ⟨hinv, h0, h1⟩ _ _ _
  refine brn_p (fun hlt => ?_) (fun hge => ?_)
  · have hlt : k < l.length := by simpa [ics] using hlt
    refine withDrop hlt fun x hx hxm hd => ?_
    rw [hd] at hinv
    have hxb := hbd x
    refine Fit.in64 (by omega) (by omega) ?_
    refine idxI hx ?_
    refine callP (h43 x) rfl fun _ => ?_
    refine Fit.in64 (by omega) (by omega) ?_
    refine Fit.in64 (by omega) (by omega) ?_
    refine NonZ.mk (by omega) ?_
    have hs : 0 ≤ stepN h (md x) ∧ stepN h (md x) < 2147483647 := by
      unfold stepN
      rw [Int.tmod_eq_emod_of_nonneg (by omega)]
      exact ⟨Int.emod_nonneg _ (by omega), Int.emod_lt_of_pos _ (by omega)⟩
    refine Fit.in64 (by omega) (by omega) ?_
    exact ⟨(k + 1, stepN h (md x)), ⟨hlt, hinv, hs.1, hs.2⟩, ⟨nextI, same_keys rfl, trivial⟩, trivial, nextM hlt⟩
  · have hge : ¬ k < l.length := by simpa [ics] using hge
    rw [drop_end hge] at hinv
    exact retP rfl (congrArg (C.int .i64) hinv)
end Go.Fr.Try

/- Digest: the reference implementation: types, signatures, functions. -/
set_option linter.unusedVariables false
set_option linter.unusedSimpArgs false
namespace Go.Fr.Try
open Go Go.RowKit Go.Proofs Go.Fr Go.Fr.T Go.Fr.Api

/-- one after the other -/
theorem app2 {a b : List UInt8} {n : Nat} (h : (a ++ b).length ≤ n) : a.length ≤ n ∧ b.length ≤ n := by
  simp only [List.length_append] at h; omega
set_option maxRecDepth 10000 in
theorem t47 (l : List Ty) (E : Ty → List UInt8) (ih : ∀ x ∈ l, (E x).length ≤ 2 ^ 46 → Rb 21 [.agg [IC x.kind, IC x.id, .sl (x.args.map tyC)]] (E x)) (hb : (encL E l).length ≤ 2 ^ 46) : Rb 47 [.sl (l.map tyC)] (encL E l) := by
  have h77 := t77 l.length
  have hlm : (l.map tyC).length = l.length := List.length_map _
  have e0 : encL E l = encI l.length ++ l.flatMap E := rfl
  rw [← hlm] at h77
  rw [e0, ← hlm] at hb
  have e1 : encL E l = encI (l.map tyC).length ++ l.flatMap E := by rw [hlm, e0]
  generalize encL E l = code at *
  refine callsT_facts Try.func47 facts47 rfl fun hw _ => ?_
  have hlen : l.length ≤ 9223372036854775807 := wf_lenM hw.1
  refine callO [] [7] h77 rfl rfl rfl rfl rfl fun _ _ => ?_
  refine loopN l.length 4 [3] (encI (l.map tyC).length) (fun _ => [.rw 7]) (fun s => [(7, .row 5 1 (bcells s))]) (fun k s => s ++ (l.drop k).flatMap E = code) (by rw [e1]; rfl) (same_keys rfl) ⟨same_keys rfl, trivial⟩
    ⟨.inl ⟨_, rfl, .inl ⟨rfl, rfl⟩⟩, trivial⟩ (fun _ => rfl) (fun _ => rfl) ?_
  rintro k s hk hinv _ _ _
  refine brn_p (fun hlt => ?_) (fun hge => ?_)
  · have hlt : k < l.length := by simpa using hlt
    refine withDrop hlt fun x hx hxm hd => ?_
    rw [hd] at hinv
    have hsz : s.length + (E x).length ≤ 2 ^ 46 := by
      have := congrArg List.length (hinv.trans e1)
      simp only [List.flatMap_cons, List.length_append] at this hb
      omega
    refine idxTy hx ?_
    refine callP (ih x hxm (by omega)).give rfl fun _ => ?_
    refine appB (a := s) (b := E x) (by omega) ?_
    refine Fit.in64 (by omega) (by omega) ?_
    refine ⟨(k + 1, s ++ E x), ⟨hlt, ?_⟩, ⟨nextI, same_keys rfl, trivial⟩, ⟨.inl ⟨_, rfl, .inl ⟨?_, rfl⟩⟩, trivial⟩, nextM hlt⟩
    · show s ++ E x ++ (l.drop (k + 1)).flatMap E = code
      rw [← hinv]; simp
    · exact congrArg (TO.row 5 1) (bcells_app _ _).symm
  · have hge : ¬ k < l.length := by simpa using hge
    rw [drop_end hge] at hinv
    have e : s = code := by rw [← hinv]; simp
    exact retO [7] rfl rfl (rowE (congrArg bcells e)) rfl
set_option maxRecDepth 10000 in
theorem t21' : ∀ (t : Ty), (encTy none t).length ≤ 2 ^ 46 → Rb 21 [.agg [IC t.kind, IC t.id, .sl (t.args.map tyC)]] (encTy none t)
  | .mk k i l, hb => by
    have h47 := t47 l (encTy none) (fun x hx hs => t21' x hs)
    have e : encTy none (.mk k i l) = encIs [k, i] ++ encL (encTy none) l := by
      rw [encTy_eq]
      simp only [encName, Option.getD_none, encIs, List.flatMap_cons, List.flatMap_nil, List.append_nil, Ty.kind, Ty.id, Ty.args, List.append_assoc]
    have h46 := t46 [k, i]
    rw [e] at hb ⊢
    obtain ⟨b1, b2⟩ := app2 hb
    have e2 := bcells_app (encIs [k, i]) (encL (encTy none) l)
    simp only [List.length_append] at hb
    have h47 := (h47 b2).give
    have h46 := h46 b1
    generalize encL (encTy none) l = c2 at *
    generalize encIs [k, i] = c1 at *
    simp only [Ty.kind, Ty.id, Ty.args]
    refine callsT_facts Try.func21 facts21 rfl fun hw _ => ?_
    refine callDO h46 rfl rfl ?_
    refine callPD h47 rfl fun _ => ?_
    refine appB (a := c1) (b := c2) (by omega) ?_
    exact retO [8] rfl rfl (rowE e2.symm) rfl
termination_by t => SizeOf.sizeOf t
decreasing_by
  have := List.sizeOf_lt_of_mem hx
  simp only [Ty.mk.sizeOf_spec]
  omega
theorem t21 (t : Ty) (hb : (encTy none t).length ≤ 2 ^ 46) : Rb 21 [.agg (tyC t)] (encTy none t) := by
  have := t21' t hb
  rw [← tyC_eq] at this
  exact this
end Go.Fr.Try

/- Digest: the reference implementation: signatures and whole functions. -/
set_option linter.unusedVariables false
set_option linter.unusedSimpArgs false
namespace Go.Fr.Try
open Go Go.RowKit Go.Proofs Go.Fr Go.Fr.T Go.Fr.Api

set_option maxRecDepth 10000 in
theorem t78 (f : Fun) : CallsT P 78 [.agg (funC f)] [] (Ret [] (.sl ((argsOf f).map tyC))) := by
  refine callsT_facts Try.func78 facts78 rfl fun hw _ => ?_
  have hwa : (Lit.int .i64 f.arity).wf = true := hw.1.2.2.2.2.1
  have hwl : Wf (.sl (f.locals.map tyC)) := hw.1.2.2.2.2.2.2.2.2.1
  have hn := wf_lenM hwl
  have hn' : (f.locals.map tyC).length ≤ 9223372036854775807 := by rw [List.length_map]; exact hn
  have hm1 := mn_wf hwa hn'
  have hm2 := mx0_wf hm1
  have hbd := mx0_bd (n := (f.locals.map tyC).length) (a := f.arity)
  have hsl : ((f.locals.map tyC).drop (Int.toNat 0)).take ((mx0 (mn (f.locals.map tyC).length f.arity)).toNat - Int.toNat 0) = (argsOf f).map tyC := by
    show ((f.locals.map tyC).drop 0).take ((mx0 (mn (f.locals.map tyC).length f.arity)).toNat - 0) = _
    rw [mx0_eq, argsOf, List.map_take, List.length_map]
    rfl
  have hsz : ∀ es ∈ f.locals.map tyC, es.length = 3 := by
    intro es he
    obtain ⟨t, _, rfl⟩ := List.mem_map.1 he
    exact tyC_len t
  refine ⟨hm1, ?_⟩
  refine ⟨hm2, ?_⟩
  refine SlcT.mk (Int.le_refl 0) hbd.1 hbd.2 hsz ?_
  exact retP rfl (congrArg C.sl hsl)
def sigPre (f : Fun) : List UInt8 := encS f.name ++ encIs [f.params, f.bounds.length]
def bnd2 (b : Bound) : List UInt8 := encIs [b.param, b.trait]
theorem sig_parts (f : Fun) : encSig none f = sigPre f ++ f.bounds.flatMap bnd2 ++ encI f.arity ++ encL (encTy none) (argsOf f) ++ encTy none f.result ++ encL encI f.ties := by
  simp only [encSig, sigPre, encL, encSs, encIs, List.flatMap_cons, List.flatMap_nil, List.append_nil, List.append_assoc]
  have : f.bounds.flatMap (encBound none) = f.bounds.flatMap bnd2 := by
    refine congrArg (fun g => List.flatMap g f.bounds) (funext fun b => ?_)
    simp only [encBound, bnd2, encTrait, encIs, List.flatMap_cons, List.flatMap_nil, List.append_nil]
  rw [this]
set_option maxRecDepth 10000 in
theorem t37 (f : Fun) (hb : (encSig none f).length ≤ 2 ^ 46) : Rb 37 [.agg (funC f)] (encSig none f) := by
  have h76 := t76 f.name
  have h46 : ∀ l : List Int, (encIs l).length ≤ 2 ^ 46 → CallsT P 46 [.sl (ics l)] [] (Ret [] (.sl (bcells (encIs l)))) := fun l h => (t46 l h).give
  have h77 := (t77 f.arity).give
  have h78 := t78 f
  have h47 := t47 (argsOf f) (encTy none) (fun x _ h => t21' x h)
  have h21 := t21' f.result
  have h79 := t79 f.ties
  have e := sig_parts f
  have hbe : (f.bounds.map boundC).length = f.bounds.length := List.length_map _
  generalize encSig none f = code at *
  simp only [sigPre] at e
  rw [e] at hb
  simp only [List.length_append] at hb
  have h76 := h76 (by omega)
  have h47 := (h47 (by omega)).give
  have h21 := (h21 (by omega)).give
  have h79 := (h79 (by omega)).give
  have hb0 := h46 [f.params, f.bounds.length] (by omega)
  rw [← hbe] at hb0 e hb
  have h0 : bcells (encS f.name) ++ bcells (encIs [f.params, (f.bounds.map boundC).length]) = bcells (encS f.name ++ encIs [f.params, (f.bounds.map boundC).length]) := (bcells_app _ _).symm
  generalize encIs [f.params, ((f.bounds.map boundC).length : Int)] = c0 at *
  generalize encS f.name = nme at *
  generalize encI f.arity = c1 at *
  generalize encL (encTy none) (argsOf f) = c2 at *
  generalize encTy none f.result = c3 at *
  generalize encL encI f.ties = c4 at *
  generalize argsOf f = ao at *
  refine callsT_facts Try.func37 facts37 rfl fun hw _ => ?_
  have hlen : f.bounds.length ≤ 9223372036854775807 := wf_lenM hw.1.2.2.2.1
  refine callDO h76 rfl rfl ?_
  refine callPD hb0 rfl fun _ => ?_
  refine appB (a := nme) (b := c0) (by omega) ?_
  refine loopN f.bounds.length 4 [3] (nme ++ c0) (fun _ => [.rw 7]) (fun s => [(1, .box 30 (funC f)), (7, .row 5 1 (bcells s))]) (fun k s => s ++ (f.bounds.drop k).flatMap bnd2 = nme ++ c0 ++ f.bounds.flatMap bnd2) rfl (same_keys rfl) ⟨same_keys rfl, trivial⟩
    ⟨.inl ⟨_, rfl, .inl ⟨rfl, rfl⟩⟩, .inl ⟨_, rfl, .inl ⟨congrArg (TO.row 5 1) h0, rfl⟩⟩, trivial⟩ (fun _ => rfl) (fun _ => rfl) ?_
  rintro k s hk hinv _ _ _
  refine brn_p (fun hlt => ?_) (fun hge => ?_)
  · have hlt : k < f.bounds.length := by simpa using hlt
    refine withDrop hlt fun x hx hxm hd => ?_
    rw [hd] at hinv
    have hsz : s.length + (bnd2 x).length ≤ 2 ^ 46 := by
      have := congrArg List.length hinv
      simp only [List.flatMap_cons, List.length_append] at this
      omega
    refine idxT hx rfl rfl ?_
    refine idxT hx rfl rfl ?_
    refine callPD (h46 [x.param, x.trait] (by simp only [bnd2] at hsz; omega)) rfl fun _ => ?_
    refine appB (a := s) (b := bnd2 x) (by omega) ?_
    refine Fit.in64 (by omega) (by omega) ?_
    refine ⟨(k + 1, s ++ bnd2 x), ⟨hlt, ?_⟩, ⟨nextI, same_keys rfl, trivial⟩, ⟨.inl ⟨_, rfl, .inl ⟨rfl, rfl⟩⟩, .inl ⟨_, rfl, .inl ⟨?_, rfl⟩⟩, trivial⟩, nextM hlt⟩
    · show s ++ bnd2 x ++ (f.bounds.drop (k + 1)).flatMap bnd2 = _
      rw [← hinv]; simp
    · exact congrArg (TO.row 5 1) (bcells_app _ _).symm
  · have hge : ¬ k < f.bounds.length := by simpa using hge
    rw [drop_end hge, List.flatMap_nil, List.append_nil] at hinv
    have hsl : s.length = nme.length + c0.length + (f.bounds.flatMap bnd2).length := by rw [hinv]; simp only [List.length_append]
    refine callPD h77 rfl fun _ => ?_
    refine appB (a := s) (b := c1) (by omega) ?_
    refine callPD h78 rfl fun _ => ?_
    refine callPD h47 rfl fun _ => ?_
    refine AppT.mk bcells_sz ?_ ?_ ?_
    · rw [List.length_append, bcells_len, bcells_len, bcells_len]; simp only [maxLen]; omega
    · rw [List.length_append, bcells_len, bcells_len, bcells_len]; omega
    refine callPD h21 rfl fun _ => ?_
    refine AppT.mk bcells_sz ?_ ?_ ?_
    · rw [List.length_append, List.length_append, bcells_len, bcells_len, bcells_len, bcells_len]; simp only [maxLen]; omega
    · rw [List.length_append, List.length_append, bcells_len, bcells_len, bcells_len, bcells_len]; omega
    refine callPD h79 rfl fun _ => ?_
    refine AppT.mk bcells_sz ?_ ?_ ?_
    · rw [List.length_append, List.length_append, List.length_append, bcells_len, bcells_len, bcells_len, bcells_len, bcells_len]; simp only [maxLen]; omega
    · rw [List.length_append, List.length_append, List.length_append, bcells_len, bcells_len, bcells_len, bcells_len, bcells_len]; omega
    have e9 : bcells s ++ bcells c1 ++ bcells c2 ++ bcells c3 ++ bcells c4 = bcells code := by rw [e, hinv]; simp only [bcells_app]
    exact retO [7] rfl rfl (rowE e9) rfl
end Go.Fr.Try

/- Digest: the reference implementation: whole functions. -/
set_option linter.unusedVariables false
set_option linter.unusedSimpArgs false
namespace Go.Fr.Try
open Go Go.RowKit Go.Proofs Go.Fr Go.Fr.T Go.Fr.Api

/-- bytes are put behind a row of so many bytes -/
theorem appN {els : List (List C)} {b : List UInt8} {K : Prop} (n : Nat) (hn : els.length = n) (h : n + b.length ≤ 140737488355328) (k : K) : AppT els (bcells b) 1 1 K :=
  ⟨bcells_sz, by rw [bcells_len, hn]; simp only [maxLen]; omega, by rw [bcells_len, hn]; omega, k⟩
theorem lenA {a b : List (List C)} {m n : Nat} (h : a.length = m) (k : b.length = n) : (a ++ b).length = m + n := by rw [List.length_append, h, k]
set_option maxRecDepth 10000 in
theorem t38 (f : Fun) (hb : (encFun none f).length ≤ 2 ^ 46) : Rb 38 [.agg (funC f)] (encFun none f) := by
  have h37 := t37 f
  have h47 : ∀ l : List Ty, (encL (encTy none) l).length ≤ 2 ^ 46 → CallsT P 47 [.sl (l.map tyC)] [] (Ret [] (.sl (bcells (encL (encTy none) l)))) := fun l h => (t47 l (encTy none) (fun x _ h => t21' x h) h).give
  have h46 : ∀ l : List Int, (encIs l).length ≤ 2 ^ 46 → CallsT P 46 [.sl (ics l)] [] (Ret [] (.sl (bcells (encIs l)))) := fun l h => (t46 l h).give
  have h79 : ∀ l : List Int, (encL encI l).length ≤ 2 ^ 46 → CallsT P 79 [.sl (ics l)] [] (Ret [] (.sl (bcells (encL encI l)))) := fun l h => (t79 l h).give
  have h77 : ∀ n : Int, CallsT P 77 [IC n] [] (Ret [] (.sl (bcells (encI n)))) := fun n => (t77 n).give
  have eI : ∀ x : Ins, encIns none x = encIs [x.op, x.dst, x.a, x.b, x.n] ++ (encL encI x.args ++ encL (encTy none) x.types) := fun _ => rfl
  have eB : ∀ b : Block, encBlock none b = encI b.code.length ++ b.code.flatMap (encIns none) ++ (encIs [b.fin.kind, b.fin.a] ++ encL encI b.fin.targets) := fun _ => rfl
  have e : encFun none f = encSig none f ++ encL (encTy none) f.locals ++ encI (f.blocks.map blockC).length ++ f.blocks.flatMap (encBlock none) := by
    rw [List.length_map]
    simp only [encFun, encL, List.append_assoc]
  have z : encFun none f = encSig none f ++ (encL (encTy none) f.locals ++ encL (encBlock none) f.blocks) := rfl
  rw [e] at hb
  generalize encFun none f = code at *
  clear z
  simp only [List.length_append] at hb
  have h37 := h37 (by omega)
  generalize encSig none f = c0 at *
  generalize encBlock none = EB at *
  generalize encIns none = EI at *
  generalize hLT : encL (encTy none) = LT at *
  generalize encTy none = ET at *
  have hbc0 := bcells_len c0
  refine callsT_facts Try.func38 facts38 rfl fun hw _ => ?_
  have hw9 := hw.1.2.2.2.2.2.2.2.2.2.1
  have hlen : f.blocks.length ≤ 9223372036854775807 := wf_lenM hw9
  refine callDO h37 rfl rfl ?_
  refine callPD (h47 f.locals (by omega)) rfl fun _ => ?_
  refine appN _ (bcells_len c0) (by omega) ?_
  refine callPD (h77 _) rfl fun _ => ?_
  refine appN _ (lenA (bcells_len c0) (bcells_len _)) (by omega) ?_
  refine loopN f.blocks.length 4 [3] (c0 ++ LT f.locals ++ encI (f.blocks.map blockC).length) (fun _ => [.rw 9]) (fun s => [(1, .box 30 (funC f)), (9, .row 5 1 (bcells s))]) (fun k s => s ++ (f.blocks.drop k).flatMap EB = code) e.symm (same_keys rfl) ⟨same_keys rfl, trivial⟩
    ⟨.inl ⟨_, rfl, .inl ⟨rfl, rfl⟩⟩, .inl ⟨_, rfl, .inl ⟨congrArg (TO.row 5 1) (by simp only [bcells_app]), rfl⟩⟩, trivial⟩ (fun _ => rfl) (fun _ => rfl) ?_
  rintro k s hk hinv _ _ _
  refine brn_p (fun hlt => ?_) (fun hge => ?_)
  · have hlt : k < f.blocks.length := by simpa using hlt
    refine withDrop hlt fun b hx hxm hd => ?_
    rw [hd] at hinv
    have hwb := wf_map hw9 b hxm
    have hcl : b.code.length ≤ 9223372036854775807 := wf_lenM hwb.1
    have hcm : (b.code.map insC).length = b.code.length := List.length_map _
    have hsz : s.length + (EB b).length ≤ 2 ^ 46 := by
      have := congrArg List.length (hinv.trans e)
      simp only [List.flatMap_cons, List.length_append] at this
      omega
    have hszs := hsz
    rw [eB b, ← hcm] at hsz
    simp only [List.length_append] at hsz
    refine idxT hx rfl rfl ?_
    refine callP (h77 _) rfl fun _ => ?_
    refine appN _ (bcells_len s) (by omega) ?_
    refine loopN b.code.length 6 [3] (s ++ encI (b.code.map insC).length) (fun _ => [.rw 9]) (fun s' => [(1, .box 30 (funC f)), (5, .box 69 (blockC b)), (9, .row 5 1 (bcells s'))]) (fun j s' => s' ++ (b.code.drop j).flatMap EI = s ++ encI (b.code.map insC).length ++ b.code.flatMap EI) rfl (same_keys rfl) ⟨same_keys rfl, trivial⟩
      ⟨.inl ⟨_, rfl, .inl ⟨rfl, rfl⟩⟩, .inl ⟨_, rfl, .inl ⟨rfl, rfl⟩⟩, .inl ⟨_, rfl, .inl ⟨congrArg (TO.row 5 1) (by simp only [bcells_app]), rfl⟩⟩, trivial⟩ (fun _ => rfl) (fun _ => rfl) ?_
    rintro j s' hj hinv' _ _ _
    refine brn_p (fun hlt' => ?_) (fun hge' => ?_)
    · have hlt' : j < b.code.length := by simpa using hlt'
      refine withDrop hlt' fun x hx' hxm' hd' => ?_
      rw [hd'] at hinv'
      have hsz' : s'.length + (EI x).length ≤ 2 ^ 46 := by
        have := congrArg List.length hinv'
        simp only [List.flatMap_cons, List.length_append] at this
        omega
      rw [eI x] at hsz'
      simp only [List.length_append] at hsz'
      refine idxT hx' rfl rfl ?_
      refine callPD (h46 [x.op, x.dst, x.a, x.b, x.n] (by omega)) rfl fun _ => ?_
      refine appN _ (bcells_len s') (by omega) ?_
      refine callPD (h79 x.args (by omega)) rfl fun _ => ?_
      refine appN _ (lenA (bcells_len s') (bcells_len _)) (by omega) ?_
      refine callPD (h47 x.types (by omega)) rfl fun _ => ?_
      refine appN _ (lenA (lenA (bcells_len s') (bcells_len _)) (bcells_len _)) (by omega) ?_
      refine Fit.in64 (by omega) (by omega) ?_
      refine ⟨(j + 1, s' ++ EI x), ⟨hlt', ?_⟩, ⟨nextI, same_keys rfl, trivial⟩, ⟨.inl ⟨_, rfl, .inl ⟨rfl, rfl⟩⟩, .inl ⟨_, rfl, .inl ⟨rfl, rfl⟩⟩, .inl ⟨_, rfl, .inl ⟨?_, rfl⟩⟩, trivial⟩, nextM hlt'⟩
      · show s' ++ EI x ++ (b.code.drop (j + 1)).flatMap EI = _
        rw [← hinv']; simp
      · have e9 : bcells s' ++ bcells (encIs [x.op, x.dst, x.a, x.b, x.n]) ++ bcells (encL encI x.args) ++ bcells (LT x.types) = bcells (s' ++ EI x) := by rw [eI x]; simp only [bcells_app, List.append_assoc]
        exact congrArg (TO.row 5 1) e9
    · have hge' : ¬ j < b.code.length := by simpa using hge'
      rw [drop_end hge', List.flatMap_nil, List.append_nil] at hinv'
      have hsl : s'.length = s.length + (encI (b.code.map insC).length).length + (b.code.flatMap EI).length := by rw [hinv']; simp only [List.length_append]
      refine callPD (h46 [b.fin.kind, b.fin.a] (by omega)) rfl fun _ => ?_
      refine appN _ (bcells_len s') (by omega) ?_
      refine callPD (h79 b.fin.targets (by omega)) rfl fun _ => ?_
      refine appN _ (lenA (bcells_len s') (bcells_len _)) (by omega) ?_
      refine Fit.in64 (by omega) (by omega) ?_
      refine ⟨(k + 1, s ++ EB b), ⟨hlt, ?_⟩, ⟨nextI, same_keys rfl, trivial⟩, ⟨.inl ⟨_, rfl, .inl ⟨rfl, rfl⟩⟩, .inl ⟨_, rfl, .inl ⟨?_, rfl⟩⟩, trivial⟩, nextM hlt⟩
      · show s ++ EB b ++ (f.blocks.drop (k + 1)).flatMap EB = _
        rw [← hinv]; simp
      · have e9 : bcells s' ++ bcells (encIs [b.fin.kind, b.fin.a]) ++ bcells (encL encI b.fin.targets) = bcells (s ++ EB b) := by rw [eB b, hinv', hcm]; simp only [bcells_app, List.append_assoc]
        exact congrArg (TO.row 5 1) e9
  · have hge : ¬ k < f.blocks.length := by simpa using hge
    rw [drop_end hge, List.flatMap_nil, List.append_nil] at hinv
    exact retO [9] rfl rfl (rowE (congrArg bcells hinv)) rfl
set_option maxRecDepth 10000 in
theorem t14 (f : Fun) (hb : (encFun none f).length ≤ 2 ^ 46) : CallsT P 14 [.agg (funC f)] [] (Ret [] (.tup [.int .i64 (foldN (bytesN (encSig none f))), .int .i64 (foldN (bytesN (encFun none f)))])) := by
  have hs : (encSig none f).length ≤ 2 ^ 46 := by simp only [encFun, List.length_append] at hb; omega
  have h1 := (t37 f hs).give
  have h2 := (t38 f hb).give
  generalize encSig none f = c1 at h1 ⊢
  generalize encFun none f = c2 at h2 ⊢
  refine callsT_facts Try.func14 facts14 rfl fun hw _ => ?_
  refine callPD h1 rfl fun _ => ?_
  refine callPD (t16 c1) rfl fun _ => ?_
  refine callPD h2 rfl fun _ => ?_
  refine callPD (t16 c2) rfl fun _ => ?_
  exact retP rfl rfl
end Go.Fr.Try

/- Digest: the reference implementation: codes in a program (printed by dgr6.py). -/
set_option linter.unusedVariables false
set_option linter.unusedSimpArgs false
namespace Go.Fr.Try
open Go Go.RowKit Go.Proofs Go.Fr Go.Fr.T Go.Fr.Api

set_option maxRecDepth 10000 in
theorem t90 (q : Prog) (l : List Ty) (E : Ty → List UInt8) (ih : ∀ x ∈ l, (E x).length ≤ 2 ^ 46 → Rb 92 [.agg (progC q), .agg [IC x.kind, IC x.id, .sl (x.args.map tyC)]] (E x)) (hb : (encL E l).length ≤ 2 ^ 46) : Rb 90 [.agg (progC q), .sl (l.map tyC)] (encL E l) := by
  have h77 := t77 l.length
  have hlm : (l.map tyC).length = l.length := List.length_map _
  have e0 : encL E l = encI l.length ++ l.flatMap E := rfl
  rw [← hlm] at h77
  rw [e0, ← hlm] at hb
  have e1 : encL E l = encI (l.map tyC).length ++ l.flatMap E := by rw [hlm, e0]
  generalize encL E l = code at *
  generalize hpc : progC q = pc at *
  obtain ⟨a1, a2, a3, a4, a5, a6, a7, a8, rfl⟩ : ∃ a1 a2 a3 a4 a5 a6 a7 a8, pc = [.sl a1, .sl a2, .sl a3, .sl a4, .sl a5, .sl a6, .sl a7, IC a8] := ⟨_, _, _, _, _, _, _, _, hpc.symm⟩
  refine callsT_facts Try.func90 facts90 rfl fun hw _ => ?_
  have hlen : l.length ≤ 9223372036854775807 := wf_lenM hw.2.1
  refine callO [] [9] h77 rfl rfl rfl rfl rfl fun _ _ => ?_
  refine loopN l.length 6 [5] (encI (l.map tyC).length) (fun _ => [.rw 9]) (fun s => [(2, .box 37 [.sl a1, .sl a2, .sl a3, .sl a4, .sl a5, .sl a6, .sl a7, IC a8]), (9, .row 5 1 (bcells s))]) (fun k s => s ++ (l.drop k).flatMap E = code) (by rw [e1]; rfl) (same_keys rfl) ⟨same_keys rfl, trivial⟩
    ⟨.inl ⟨_, rfl, .inl ⟨rfl, rfl⟩⟩, .inl ⟨_, rfl, .inl ⟨rfl, rfl⟩⟩, trivial⟩ (fun _ => rfl) (fun _ => rfl) ?_
  rintro k s hk hinv _ _ _
  refine brn_p (fun hlt => ?_) (fun hge => ?_)
  · have hlt : k < l.length := by simpa using hlt
    refine withDrop hlt fun x hx hxm hd => ?_
    rw [hd] at hinv
    have hsz : s.length + (E x).length ≤ 2 ^ 46 := by
      have := congrArg List.length (hinv.trans e1)
      simp only [List.flatMap_cons, List.length_append] at this hb
      omega
    refine idxTy hx ?_
    refine callPD (ih x hxm (by omega)).give rfl fun _ => ?_
    refine appB (a := s) (b := E x) (by omega) ?_
    refine Fit.in64 (by omega) (by omega) ?_
    refine ⟨(k + 1, s ++ E x), ⟨hlt, ?_⟩, ⟨nextI, same_keys rfl, trivial⟩, ⟨.inl ⟨_, rfl, .inl ⟨rfl, rfl⟩⟩, .inl ⟨_, rfl, .inl ⟨?_, rfl⟩⟩, trivial⟩, nextM hlt⟩
    · show s ++ E x ++ (l.drop (k + 1)).flatMap E = code
      rw [← hinv]; simp
    · exact congrArg (TO.row 5 1) (bcells_app _ _).symm
  · have hge : ¬ k < l.length := by simpa using hge
    rw [drop_end hge] at hinv
    have e : s = code := by rw [← hinv]; simp
    exact retO [9] rfl rfl (rowE (congrArg bcells e)) rfl
theorem two_of {q : Prog} {k i : Int} {d : Api.Data} (h2 : k = 2) (h : elem q.datas i = some d) : encName (some q) k i = some (encS (nm q.modules d.module) ++ encS d.name) := by
  unfold encName
  simp only [h2, if_true, h, Option.map_some, encSs, List.flatMap_cons, List.flatMap_nil, List.append_nil]
set_option maxRecDepth 10000 in
theorem t92' (q : Prog) : ∀ (t : Ty), (encTy (some q) t).length ≤ 2 ^ 46 → Rb 92 [.agg (progC q), .agg [IC t.kind, IC t.id, .sl (t.args.map tyC)]] (encTy (some q) t)
  | .mk k i l, hb => by
    have h90 := t90 q l (encTy (some q)) (fun x hx hs => t92' q x hs)
    have e : encTy (some q) (.mk k i l) = encI k ++ (encName (some q) k i).getD (encI i) ++ encL (encTy (some q)) l := by
      rw [encTy_eq]
      simp only [Ty.kind, Ty.id, Ty.args, List.append_assoc]
    rw [e] at hb ⊢
    simp only [List.length_append] at hb
    have h90 := (h90 (by omega)).give
    have h77 := t77 k
    have h77i := (t77 i).give
    have hlm : (q.datas.map dataC).length = q.datas.length := List.length_map _
    generalize encL (encTy (some q)) l = c3 at *
    simp only [Ty.kind, Ty.id, Ty.args]
    by_cases hk : k = 2 ∧ (elem q.datas i).isSome = true
    · obtain ⟨hk, hs⟩ := hk
      obtain ⟨d, hd⟩ := Option.isSome_iff_exists.1 hs
      have hel := elem_some hd
      rw [two_of hk hd] at hb ⊢
      simp only [Option.getD_some, List.length_append] at hb ⊢
      have h86 := t86 q.modules d.module
      have h76 := (t76 (nm q.modules d.module) (by omega)).give
      have h76' := (t76 d.name (by omega)).give
      generalize nm q.modules d.module = mname at *
      generalize encS mname = e1 at *
      generalize encS d.name = e2 at *
      generalize encI k = e0 at *
      refine callsT_facts Try.func92 facts92 rfl fun hw _ => ?_
      refine callO [] [9] h77 rfl rfl rfl rfl rfl fun _ _ => ?_
      refine brn_p (fun _ => ?_) (fun h => (h hk).elim)
      refine brn_p (fun _ => ?_) (fun h => (by omega : False).elim)
      refine brn_p (fun _ => ?_) (fun h => (by omega : False).elim)
      refine idxE hel.1 hel.2.2 rfl rfl ?_
      refine callPD h86 rfl fun _ => ?_
      refine callPD h76 rfl fun _ => ?_
      refine appN _ (bcells_len e0) (by omega) ?_
      refine callPD h76' rfl fun _ => ?_
      refine appN _ (lenA (bcells_len e0) (bcells_len e1)) (by omega) ?_
      refine callP h90 rfl fun _ => ?_
      refine appN _ (lenA (lenA (bcells_len e0) (bcells_len e1)) (bcells_len e2)) (by omega) ?_
      have e9 : bcells e0 ++ bcells e1 ++ bcells e2 ++ bcells c3 = bcells (e0 ++ (e1 ++ e2) ++ c3) := by simp only [bcells_app, List.append_assoc]
      exact retO [9] rfl rfl (rowE e9) rfl
    · have hn : encName (some q) k i = none := by
        unfold encName
        by_cases h2 : k = 2
        · have : elem q.datas i = none := by
            cases h3 : elem q.datas i with
            | none => rfl
            | some d => exact absurd ⟨h2, by rw [h3]; rfl⟩ hk
          simp [h2, this]
        · simp [h2]
      have hno : k = 2 → 0 ≤ i → ¬ i < q.datas.length := by
        intro h2 h0 h1
        refine hk ⟨h2, ?_⟩
        unfold elem
        rw [if_neg (by omega), List.getElem?_eq_getElem (by omega)]
        rfl
      rw [hn] at hb ⊢
      simp only [Option.getD_none] at hb ⊢
      generalize encI k = e0 at *
      generalize encI i = e1 at *
      refine callsT_facts Try.func92 facts92 rfl fun hw _ => ?_
      refine callO [] [9] h77 rfl rfl rfl rfl rfl fun _ _ => ?_
      have e9 : bcells e0 ++ bcells e1 ++ bcells c3 = bcells (e0 ++ e1 ++ c3) := by simp only [bcells_app]
      refine brn_p (fun h2 => ?_) (fun h2 => ?_)
      · refine brn_p (fun h0 => ?_) (fun h0 => ?_)
        · refine brn_p (fun h1 => ?_) (fun h1 => ?_)
          · exact absurd (by have : i < ((q.datas.map dataC).length : Int) := h1; rw [hlm] at this; exact this) (hno h2 h0)
          · refine callP h77i rfl fun _ => ?_
            refine appN _ (bcells_len e0) (by omega) ?_
            refine callP h90 rfl fun _ => ?_
            refine appN _ (lenA (bcells_len e0) (bcells_len e1)) (by omega) ?_
            exact retO [9] rfl rfl (rowE e9) rfl
        · refine callP h77i rfl fun _ => ?_
          refine appN _ (bcells_len e0) (by omega) ?_
          refine callP h90 rfl fun _ => ?_
          refine appN _ (lenA (bcells_len e0) (bcells_len e1)) (by omega) ?_
          exact retO [9] rfl rfl (rowE e9) rfl
      · refine callP h77i rfl fun _ => ?_
        refine appN _ (bcells_len e0) (by omega) ?_
        refine callP h90 rfl fun _ => ?_
        refine appN _ (lenA (bcells_len e0) (bcells_len e1)) (by omega) ?_
        exact retO [9] rfl rfl (rowE e9) rfl
termination_by t => SizeOf.sizeOf t
decreasing_by
  have := List.sizeOf_lt_of_mem hx
  simp only [Ty.mk.sizeOf_spec]
  omega
theorem t92 (q : Prog) (t : Ty) (hb : (encTy (some q) t).length ≤ 2 ^ 46) : Rb 92 [.agg (progC q), .agg (tyC t)] (encTy (some q) t) := by
  have := t92' q t hb
  rw [← tyC_eq] at this
  exact this

end Go.Fr.Try

/- Digest: the reference implementation: bounds, signatures, data types, implementations of a program. -/
set_option linter.unusedVariables false
set_option linter.unusedSimpArgs false
namespace Go.Fr.Try
open Go Go.RowKit Go.Proofs Go.Fr Go.Fr.T Go.Fr.Api

theorem encBound_q (q : Prog) (b : Bound) : encBound (some q) b = encI b.param ++ encS (nm q.traits b.trait) := by
  simp only [encBound, encTrait, encIs, encSs, List.flatMap_cons, List.flatMap_nil, List.append_nil]
set_option maxRecDepth 10000 in
theorem t91 (q : Prog) (l : List Bound) (hb : (encL (encBound (some q)) l).length ≤ 2 ^ 46) : Rb 91 [.agg (progC q), .sl (l.map boundC)] (encL (encBound (some q)) l) := by
  have h77 := t77 l.length
  have h77' : ∀ n, CallsT P 77 [IC n] [] (Ret [] (.sl (bcells (encI n)))) := fun n => (t77 n).give
  have h76 : ∀ s, (encS s).length ≤ 2 ^ 46 → CallsT P 76 [.str s] [] (Ret [] (.sl (bcells (encS s)))) := fun s h => (t76 s h).give
  have h86 := t86 q.traits
  have eE := encBound_q q
  have hlm : (l.map boundC).length = l.length := List.length_map _
  have e0 : encL (encBound (some q)) l = encI l.length ++ l.flatMap (encBound (some q)) := rfl
  rw [← hlm] at h77
  rw [e0, ← hlm] at hb
  have e1 : encL (encBound (some q)) l = encI (l.map boundC).length ++ l.flatMap (encBound (some q)) := by rw [hlm, e0]
  generalize encL (encBound (some q)) l = code at *
  generalize encBound (some q) = E at *
  generalize nm q.traits = nt at *
  refine callsT_facts Try.func91 facts91 rfl fun hw _ => ?_
  have hlen : l.length ≤ 9223372036854775807 := wf_lenM hw.2.1
  refine callO [] [9] h77 rfl rfl rfl rfl rfl fun _ _ => ?_
  refine loopN l.length 6 [5] (encI (l.map boundC).length) (fun _ => [.rw 9]) (fun s => [(2, .box 37 (progC q)), (9, .row 5 1 (bcells s))]) (fun k s => s ++ (l.drop k).flatMap E = code) (by rw [e1]; rfl) (same_keys rfl) ⟨same_keys rfl, trivial⟩
    ⟨.inl ⟨_, rfl, .inl ⟨rfl, rfl⟩⟩, .inl ⟨_, rfl, .inl ⟨rfl, rfl⟩⟩, trivial⟩ (fun _ => rfl) (fun _ => rfl) ?_
  rintro k s hk hinv _ _ _
  refine brn_p (fun hlt => ?_) (fun hge => ?_)
  · have hlt : k < l.length := by simpa using hlt
    refine withDrop hlt fun x hx hxm hd => ?_
    rw [hd] at hinv
    have hsz : s.length + (E x).length ≤ 2 ^ 46 := by
      have := congrArg List.length (hinv.trans e1)
      simp only [List.flatMap_cons, List.length_append] at this hb
      omega
    rw [eE x] at hsz
    simp only [List.length_append] at hsz
    refine idxT hx rfl rfl ?_
    refine idxT hx rfl rfl ?_
    refine callPD (h77' x.param) rfl fun _ => ?_
    refine appN _ (bcells_len s) (by omega) ?_
    refine callPD (h86 x.trait) rfl fun _ => ?_
    refine callPD (h76 _ (by omega)) rfl fun _ => ?_
    refine appN _ (lenA (bcells_len s) (bcells_len _)) (by omega) ?_
    refine Fit.in64 (by omega) (by omega) ?_
    refine ⟨(k + 1, s ++ E x), ⟨hlt, ?_⟩, ⟨nextI, same_keys rfl, trivial⟩, ⟨.inl ⟨_, rfl, .inl ⟨rfl, rfl⟩⟩, .inl ⟨_, rfl, .inl ⟨?_, rfl⟩⟩, trivial⟩, nextM hlt⟩
    · show s ++ E x ++ (l.drop (k + 1)).flatMap E = code
      rw [← hinv]; simp
    · have e9 : bcells s ++ bcells (encI x.param) ++ bcells (encS (nt x.trait)) = bcells (s ++ E x) := by rw [eE x]; simp only [bcells_app, List.append_assoc]
      exact congrArg (TO.row 5 1) e9
  · have hge : ¬ k < l.length := by simpa using hge
    rw [drop_end hge] at hinv
    have e : s = code := by rw [← hinv]; simp
    exact retO [9] rfl rfl (rowE (congrArg bcells e)) rfl
set_option maxRecDepth 10000 in
theorem t85 (q : Prog) (f : Fun) (hb : (encSig (some q) f).length ≤ 2 ^ 46) : Rb 85 [.agg (progC q), .agg (funC f)] (encSig (some q) f) := by
  have h76 := t76 f.name
  have h77 : ∀ n, CallsT P 77 [IC n] [] (Ret [] (.sl (bcells (encI n)))) := fun n => (t77 n).give
  have h91 := t91 q f.bounds
  have h78 := t78 f
  have h90 := t90 q (argsOf f) (encTy (some q)) (fun x _ h => t92' q x h)
  have h92 := t92' q f.result
  have h79 := t79 f.ties
  have e : encSig (some q) f = encS f.name ++ encI f.params ++ encL (encBound (some q)) f.bounds ++ encI f.arity ++ encL (encTy (some q)) (argsOf f) ++ encTy (some q) f.result ++ encL encI f.ties := by
    simp only [encSig, encSs, encIs, List.flatMap_cons, List.flatMap_nil, List.append_nil, List.append_assoc]
  rw [e] at hb ⊢
  simp only [List.length_append] at hb
  have h76 := h76 (by omega)
  have h91 := (h91 (by omega)).give
  have h90 := (h90 (by omega)).give
  have h92 := (h92 (by omega)).give
  have h79 := (h79 (by omega)).give
  have hp := h77 f.params
  have ha := h77 f.arity
  generalize encS f.name = c1 at *
  generalize encI f.params = c2 at *
  generalize encL (encBound (some q)) f.bounds = c3 at *
  generalize encI f.arity = c4 at *
  generalize encL (encTy (some q)) (argsOf f) = c5 at *
  generalize encTy (some q) f.result = c6 at *
  generalize encL encI f.ties = c7 at *
  generalize argsOf f = ao at *
  refine callsT_facts Try.func85 facts85 rfl fun hw _ => ?_
  refine callDO h76 rfl rfl ?_
  refine callPD hp rfl fun _ => ?_
  refine appN _ (bcells_len c1) (by omega) ?_
  refine callPD h91 rfl fun _ => ?_
  refine appN _ (lenA (bcells_len c1) (bcells_len c2)) (by omega) ?_
  refine callPD ha rfl fun _ => ?_
  refine appN _ (lenA (lenA (bcells_len c1) (bcells_len c2)) (bcells_len c3)) (by omega) ?_
  refine callPD h78 rfl fun _ => ?_
  refine callPD h90 rfl fun _ => ?_
  refine appN _ (lenA (lenA (lenA (bcells_len c1) (bcells_len c2)) (bcells_len c3)) (bcells_len c4)) (by omega) ?_
  refine callPD h92 rfl fun _ => ?_
  refine appN _ (lenA (lenA (lenA (lenA (bcells_len c1) (bcells_len c2)) (bcells_len c3)) (bcells_len c4)) (bcells_len c5)) (by omega) ?_
  refine callPD h79 rfl fun _ => ?_
  refine appN _ (lenA (lenA (lenA (lenA (lenA (bcells_len c1) (bcells_len c2)) (bcells_len c3)) (bcells_len c4)) (bcells_len c5)) (bcells_len c6)) (by omega) ?_
  have e9 : bcells c1 ++ bcells c2 ++ bcells c3 ++ bcells c4 ++ bcells c5 ++ bcells c6 ++ bcells c7 = bcells (c1 ++ c2 ++ c3 ++ c4 ++ c5 ++ c6 ++ c7) := by simp only [bcells_app]
  exact retO [8] rfl rfl (rowE e9) rfl
set_option maxRecDepth 10000 in
theorem t83 (q : Prog) (d : Api.Data) (hb : (encData (some q) d).length ≤ 2 ^ 46) : Rb 83 [.agg (progC q), .agg (dataC d)] (encData (some q) d) := by
  have h76' := t76 d.name
  have h76 : ∀ s, (encS s).length ≤ 2 ^ 46 → CallsT P 76 [.str s] [] (Ret [] (.sl (bcells (encS s)))) := fun s h => (t76 s h).give
  have h46 := t46 [d.params, d.drop, (d.variants.map variantC).length]
  have h90 : ∀ l : List Ty, (encL (encTy (some q)) l).length ≤ 2 ^ 46 → CallsT P 90 [.agg (progC q), .sl (l.map tyC)] [] (Ret [] (.sl (bcells (encL (encTy (some q)) l)))) := fun l h => (t90 q l (encTy (some q)) (fun x _ h => t92' q x h) h).give
  have eV : ∀ v : Variant, encVariant (some q) v = encS v.name ++ encL (encTy (some q)) v.fields := fun v => by
    simp only [encVariant, encSs, List.flatMap_cons, List.flatMap_nil, List.append_nil]
  have e : encData (some q) d = encS d.name ++ encIs [d.params, d.drop, (d.variants.map variantC).length] ++ d.variants.flatMap (encVariant (some q)) := by
    rw [List.length_map]
    simp only [encData, encL, encSs, encIs, List.flatMap_cons, List.flatMap_nil, List.append_nil, List.append_assoc]
  generalize encData (some q) d = code at *
  rw [e] at hb
  simp only [List.length_append] at hb
  have h76' := h76' (by omega)
  have h46 := (h46 (by omega)).give
  generalize encVariant (some q) = E at *
  generalize hLT : encL (encTy (some q)) = LT at *
  generalize encIs [d.params, d.drop, ((d.variants.map variantC).length : Int)] = c2 at *
  generalize encS d.name = c1 at *
  refine callsT_facts Try.func83 facts83 rfl fun hw _ => ?_
  have hlen : d.variants.length ≤ 9223372036854775807 := wf_lenM hw.2.1.2.2.2.1
  refine callDO h76' rfl rfl ?_
  refine callPD h46 rfl fun _ => ?_
  refine appN _ (bcells_len c1) (by omega) ?_
  refine loopN d.variants.length 6 [5] (c1 ++ c2) (fun _ => [.rw 9]) (fun s => [(2, .box 37 (progC q)), (3, .box 58 (dataC d)), (9, .row 5 1 (bcells s))]) (fun k s => s ++ (d.variants.drop k).flatMap E = code) e.symm (same_keys rfl) ⟨same_keys rfl, trivial⟩
    ⟨.inl ⟨_, rfl, .inl ⟨rfl, rfl⟩⟩, .inl ⟨_, rfl, .inl ⟨rfl, rfl⟩⟩, .inl ⟨_, rfl, .inl ⟨congrArg (TO.row 5 1) (bcells_app _ _).symm, rfl⟩⟩, trivial⟩ (fun _ => rfl) (fun _ => rfl) ?_
  rintro k s hk hinv _ _ _
  refine brn_p (fun hlt => ?_) (fun hge => ?_)
  · have hlt : k < d.variants.length := by simpa using hlt
    refine withDrop hlt fun x hx hxm hd => ?_
    rw [hd] at hinv
    have hsz : s.length + (E x).length ≤ 2 ^ 46 := by
      have := congrArg List.length (hinv.trans e)
      simp only [List.flatMap_cons, List.length_append] at this hb
      omega
    rw [eV x] at hsz
    simp only [List.length_append] at hsz
    refine idxT hx rfl rfl ?_
    refine idxT hx rfl rfl ?_
    refine callPD (h76 x.name (by omega)) rfl fun _ => ?_
    refine appN _ (bcells_len s) (by omega) ?_
    refine callPD (h90 x.fields (by omega)) rfl fun _ => ?_
    refine appN _ (lenA (bcells_len s) (bcells_len _)) (by omega) ?_
    refine Fit.in64 (by omega) (by omega) ?_
    refine ⟨(k + 1, s ++ E x), ⟨hlt, ?_⟩, ⟨nextI, same_keys rfl, trivial⟩, ⟨.inl ⟨_, rfl, .inl ⟨rfl, rfl⟩⟩, .inl ⟨_, rfl, .inl ⟨rfl, rfl⟩⟩, .inl ⟨_, rfl, .inl ⟨?_, rfl⟩⟩, trivial⟩, nextM hlt⟩
    · show s ++ E x ++ (d.variants.drop (k + 1)).flatMap E = code
      rw [← hinv]; simp
    · have e9 : bcells s ++ bcells (encS x.name) ++ bcells (LT x.fields) = bcells (s ++ E x) := by rw [eV x]; simp only [bcells_app, List.append_assoc]
      exact congrArg (TO.row 5 1) e9
  · have hge : ¬ k < d.variants.length := by simpa using hge
    rw [drop_end hge] at hinv
    have e : s = code := by rw [← hinv]; simp
    exact retO [9] rfl rfl (rowE (congrArg bcells e)) rfl
set_option maxRecDepth 10000 in
theorem t84 (q : Prog) (x : Impl) (hb : (encImpl q x).length ≤ 2 ^ 46) : Rb 84 [.agg (progC q), .agg (implC x)] (encImpl q x) := by
  have h86 := t86 q.traits x.trait
  have h76 := t76 (nm q.traits x.trait)
  have h77 := (t77 x.params).give
  have h91 := t91 q x.bounds
  have h92 := t92' q x.type
  have h76' := t76 (fnameOf q x.func)
  have hlm : (q.funcs.map funC).length = q.funcs.length := List.length_map _
  have e : encImpl q x = encS (nm q.traits x.trait) ++ encI x.params ++ encL (encBound (some q)) x.bounds ++ encTy (some q) x.type ++ encS (fnameOf q x.func) := by
    simp only [encImpl, encTrait, encSs, encIs, List.flatMap_cons, List.flatMap_nil, List.append_nil, List.append_assoc]
  have hf : (0 ≤ x.func ∧ ∃ g : Fun, q.funcs[x.func.toNat]? = some g ∧ fnameOf q x.func = g.name) ∨ ((x.func < 0 ∨ (q.funcs.length : Int) ≤ x.func) ∧ fnameOf q x.func = ⟨#[]⟩) := by
    cases h : elem q.funcs x.func with
    | none =>
      refine .inr ⟨?_, by simp only [fnameOf, h]; rfl⟩
      rcases elem_none h with h | h
      · exact .inl h
      · exact .inr h.2
    | some g =>
      have := elem_some h
      exact .inl ⟨by omega, g, this.2.2, by simp only [fnameOf, h]; rfl⟩
  rw [e] at hb ⊢
  simp only [List.length_append] at hb
  have h76 := h76 (by omega)
  have h91 := (h91 (by omega)).give
  have h92 := (h92 (by omega)).give
  have h76' := (h76' (by omega)).give
  generalize nm q.traits x.trait = nt at *
  generalize encI x.params = c2 at *
  generalize encL (encBound (some q)) x.bounds = c3 at *
  generalize encTy (some q) x.type = c4 at *
  generalize encS nt = c1 at *
  rcases hf with ⟨f0, g, hg, hn⟩ | ⟨f0, hn⟩
  · rw [hn] at hb h76' ⊢
    have hlt : x.func.toNat < q.funcs.length := (List.getElem?_eq_some_iff.1 hg).1
    generalize encS g.name = c5 at *
    refine callsT_facts Try.func84 facts84 rfl fun hw _ => ?_
    refine brn_p (fun _ => ?_) (fun h => (by omega : False).elim)
    refine brn_p (fun _ => ?_) (fun h => (by omega : False).elim)
    refine idxE (by omega) hg rfl rfl ?_
    refine callPD h86 rfl fun _ => ?_
    refine callDO h76 rfl rfl ?_
    refine callPD h77 rfl fun _ => ?_
    refine appN _ (bcells_len c1) (by omega) ?_
    refine callPD h91 rfl fun _ => ?_
    refine appN _ (lenA (bcells_len c1) (bcells_len c2)) (by omega) ?_
    refine callPD h92 rfl fun _ => ?_
    refine appN _ (lenA (lenA (bcells_len c1) (bcells_len c2)) (bcells_len c3)) (by omega) ?_
    refine callP h76' rfl fun _ => ?_
    refine appN _ (lenA (lenA (lenA (bcells_len c1) (bcells_len c2)) (bcells_len c3)) (bcells_len c4)) (by omega) ?_
    have e9 : bcells c1 ++ bcells c2 ++ bcells c3 ++ bcells c4 ++ bcells c5 = bcells (c1 ++ c2 ++ c3 ++ c4 ++ c5) := by simp only [bcells_app]
    exact retO [30] rfl rfl (rowE e9) rfl
  · rw [hn] at hb h76' ⊢
    generalize encS ⟨#[]⟩ = c5 at *
    have e9 : bcells c1 ++ bcells c2 ++ bcells c3 ++ bcells c4 ++ bcells c5 = bcells (c1 ++ c2 ++ c3 ++ c4 ++ c5) := by simp only [bcells_app]
    refine callsT_facts Try.func84 facts84 rfl fun hw _ => ?_
    refine brn_p (fun _ => ?_) (fun h => ?_)
    · refine brn_p (fun _ => (by omega : False).elim) (fun h => ?_)
      refine callPD h86 rfl fun _ => ?_
      refine callDO h76 rfl rfl ?_
      refine callPD h77 rfl fun _ => ?_
      refine appN _ (bcells_len c1) (by omega) ?_
      refine callPD h91 rfl fun _ => ?_
      refine appN _ (lenA (bcells_len c1) (bcells_len c2)) (by omega) ?_
      refine callPD h92 rfl fun _ => ?_
      refine appN _ (lenA (lenA (bcells_len c1) (bcells_len c2)) (bcells_len c3)) (by omega) ?_
      refine callP h76' rfl fun _ => ?_
      refine appN _ (lenA (lenA (lenA (bcells_len c1) (bcells_len c2)) (bcells_len c3)) (bcells_len c4)) (by omega) ?_
      exact retO [30] rfl rfl (rowE e9) rfl
    · refine callPD h86 rfl fun _ => ?_
      refine callDO h76 rfl rfl ?_
      refine callPD h77 rfl fun _ => ?_
      refine appN _ (bcells_len c1) (by omega) ?_
      refine callPD h91 rfl fun _ => ?_
      refine appN _ (lenA (bcells_len c1) (bcells_len c2)) (by omega) ?_
      refine callPD h92 rfl fun _ => ?_
      refine appN _ (lenA (lenA (bcells_len c1) (bcells_len c2)) (bcells_len c3)) (by omega) ?_
      refine callP h76' rfl fun _ => ?_
      refine appN _ (lenA (lenA (lenA (bcells_len c1) (bcells_len c2)) (bcells_len c3)) (bcells_len c4)) (by omega) ?_
      exact retO [30] rfl rfl (rowE e9) rfl
end Go.Fr.Try
