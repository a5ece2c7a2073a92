/- Part of the proofs of the statements of this seat. -/
import Derived.Test.YtgapnemcomkomaaDgR4G
import Derived.Test.YtgapnemcomkomaaDgCode69
/- Digest: the reference implementation: whole functions. -/
set_option linter.unusedVariables false
set_option linter.unusedSimpArgs false
namespace Go.Fr.Try
open Go Go.RowKit Go.Proofs Go.Fr Go.Fr.T Go.Fr.Api

/-- bytes are put behind a row of so many bytes -/
theorem appN {els : List (List C)} {b : List UInt8} {K : Prop} (n : Nat) (hn : els.length = n) (h : n + b.length ≤ 140737488355328) (k : K) : AppT els (bcells b) 1 1 K :=
  ⟨bcells_sz, by rw [bcells_len, hn]; simp only [maxLen]; omega, by rw [bcells_len, hn]; omega, k⟩
theorem lenA {a b : List (List C)} {m n : Nat} (h : a.length = m) (k : b.length = n) : (a ++ b).length = m + n := by rw [List.length_append, h, k]
set_option maxRecDepth 10000 in
theorem t38 (f : Fun) (hb : (encFun none f).length ≤ 2 ^ 46) : Rb 38 [.agg (funC f)] (encFun none f) := by
  have h37 := t37 f
  have h47 : ∀ l : List Ty, (encL (encTy none) l).length ≤ 2 ^ 46 → CallsT P 47 [.sl (l.map tyC)] [] (Ret [] (.sl (bcells (encL (encTy none) l)))) := fun l h => (t47 l (encTy none) (fun x _ h => t21' x h) h).give
  have h46 : ∀ l : List Int, (encIs l).length ≤ 2 ^ 46 → CallsT P 46 [.sl (ics l)] [] (Ret [] (.sl (bcells (encIs l)))) := fun l h => (t46 l h).give
  have h79 : ∀ l : List Int, (encL encI l).length ≤ 2 ^ 46 → CallsT P 79 [.sl (ics l)] [] (Ret [] (.sl (bcells (encL encI l)))) := fun l h => (t79 l h).give
  have h77 : ∀ n : Int, CallsT P 77 [IC n] [] (Ret [] (.sl (bcells (encI n)))) := fun n => (t77 n).give
  have eI : ∀ x : Ins, encIns none x = encIs [x.op, x.dst, x.a, x.b, x.n] ++ (encL encI x.args ++ encL (encTy none) x.types) := fun _ => rfl
  have eB : ∀ b : Block, encBlock none b = encI b.code.length ++ b.code.flatMap (encIns none) ++ (encIs [b.fin.kind, b.fin.a] ++ encL encI b.fin.targets) := fun _ => rfl
  have e : encFun none f = encSig none f ++ encL (encTy none) f.locals ++ encI (f.blocks.map blockC).length ++ f.blocks.flatMap (encBlock none) := by
    rw [List.length_map]
    simp only [encFun, encL, List.append_assoc]
  have z : encFun none f = encSig none f ++ (encL (encTy none) f.locals ++ encL (encBlock none) f.blocks) := rfl
  rw [e] at hb
  generalize encFun none f = code at *
  clear z
  simp only [List.length_append] at hb
  have h37 := h37 (by omega)
  generalize encSig none f = c0 at *
  generalize encBlock none = EB at *
  generalize encIns none = EI at *
  generalize hLT : encL (encTy none) = LT at *
  generalize encTy none = ET at *
  have hbc0 := bcells_len c0
  refine callsT_facts Try.func38 facts38 rfl fun hw _ => ?_
  have hw9 := hw.1.2.2.2.2.2.2.2.2.2.1
  have hlen : f.blocks.length ≤ 9223372036854775807 := wf_lenM hw9
  refine callDO h37 rfl rfl ?_
  refine callPD (h47 f.locals (by omega)) rfl fun _ => ?_
  refine appN _ (bcells_len c0) (by omega) ?_
  refine callPD (h77 _) rfl fun _ => ?_
  refine appN _ (lenA (bcells_len c0) (bcells_len _)) (by omega) ?_
  refine loopN f.blocks.length 4 [3] (c0 ++ LT f.locals ++ encI (f.blocks.map blockC).length) (fun _ => [.rw 9]) (fun s => [(1, .box 30 (funC f)), (9, .row 5 1 (bcells s))]) (fun k s => s ++ (f.blocks.drop k).flatMap EB = code) e.symm (same_keys rfl) ⟨same_keys rfl, trivial⟩
    ⟨.inl ⟨_, rfl, .inl ⟨rfl, rfl⟩⟩, .inl ⟨_, rfl, .inl ⟨congrArg (TO.row 5 1) (by simp only [bcells_app]), rfl⟩⟩, trivial⟩ (fun _ => rfl) (fun _ => rfl) ?_
  rintro k s hk hinv _ _ _
  refine brn_p (fun hlt => ?_) (fun hge => ?_)
  · have hlt : k < f.blocks.length := by simpa using hlt
    refine withDrop hlt fun b hx hxm hd => ?_
    rw [hd] at hinv
    have hwb := wf_map hw9 b hxm
    have hcl : b.code.length ≤ 9223372036854775807 := wf_lenM hwb.1
    have hcm : (b.code.map insC).length = b.code.length := List.length_map _
    have hsz : s.length + (EB b).length ≤ 2 ^ 46 := by
      have := congrArg List.length (hinv.trans e)
      simp only [List.flatMap_cons, List.length_append] at this
      omega
    have hszs := hsz
    rw [eB b, ← hcm] at hsz
    simp only [List.length_append] at hsz
    refine idxT hx rfl rfl ?_
    refine callP (h77 _) rfl fun _ => ?_
    refine appN _ (bcells_len s) (by omega) ?_
    refine loopN b.code.length 6 [3] (s ++ encI (b.code.map insC).length) (fun _ => [.rw 9]) (fun s' => [(1, .box 30 (funC f)), (5, .box 69 (blockC b)), (9, .row 5 1 (bcells s'))]) (fun j s' => s' ++ (b.code.drop j).flatMap EI = s ++ encI (b.code.map insC).length ++ b.code.flatMap EI) rfl (same_keys rfl) ⟨same_keys rfl, trivial⟩
      ⟨.inl ⟨_, rfl, .inl ⟨rfl, rfl⟩⟩, .inl ⟨_, rfl, .inl ⟨rfl, rfl⟩⟩, .inl ⟨_, rfl, .inl ⟨congrArg (TO.row 5 1) (by simp only [bcells_app]), rfl⟩⟩, trivial⟩ (fun _ => rfl) (fun _ => rfl) ?_
    rintro j s' hj hinv' _ _ _
    refine brn_p (fun hlt' => ?_) (fun hge' => ?_)
    · have hlt' : j < b.code.length := by simpa using hlt'
      refine withDrop hlt' fun x hx' hxm' hd' => ?_
      rw [hd'] at hinv'
      have hsz' : s'.length + (EI x).length ≤ 2 ^ 46 := by
        have := congrArg List.length hinv'
        simp only [List.flatMap_cons, List.length_append] at this
        omega
      rw [eI x] at hsz'
      simp only [List.length_append] at hsz'
      refine idxT hx' rfl rfl ?_
      refine callPD (h46 [x.op, x.dst, x.a, x.b, x.n] (by omega)) rfl fun _ => ?_
      refine appN _ (bcells_len s') (by omega) ?_
      refine callPD (h79 x.args (by omega)) rfl fun _ => ?_
      refine appN _ (lenA (bcells_len s') (bcells_len _)) (by omega) ?_
      refine callPD (h47 x.types (by omega)) rfl fun _ => ?_
      refine appN _ (lenA (lenA (bcells_len s') (bcells_len _)) (bcells_len _)) (by omega) ?_
      refine Fit.in64 (by omega) (by omega) ?_
      refine ⟨(j + 1, s' ++ EI x), ⟨hlt', ?_⟩, ⟨nextI, same_keys rfl, trivial⟩, ⟨.inl ⟨_, rfl, .inl ⟨rfl, rfl⟩⟩, .inl ⟨_, rfl, .inl ⟨rfl, rfl⟩⟩, .inl ⟨_, rfl, .inl ⟨?_, rfl⟩⟩, trivial⟩, nextM hlt'⟩
      · show s' ++ EI x ++ (b.code.drop (j + 1)).flatMap EI = _
        rw [← hinv']; simp
      · have e9 : bcells s' ++ bcells (encIs [x.op, x.dst, x.a, x.b, x.n]) ++ bcells (encL encI x.args) ++ bcells (LT x.types) = bcells (s' ++ EI x) := by rw [eI x]; simp only [bcells_app, List.append_assoc]
        exact congrArg (TO.row 5 1) e9
    · have hge' : ¬ j < b.code.length := by simpa using hge'
      rw [drop_end hge', List.flatMap_nil, List.append_nil] at hinv'
      have hsl : s'.length = s.length + (encI (b.code.map insC).length).length + (b.code.flatMap EI).length := by rw [hinv']; simp only [List.length_append]
      refine callPD (h46 [b.fin.kind, b.fin.a] (by omega)) rfl fun _ => ?_
      refine appN _ (bcells_len s') (by omega) ?_
      refine callPD (h79 b.fin.targets (by omega)) rfl fun _ => ?_
      refine appN _ (lenA (bcells_len s') (bcells_len _)) (by omega) ?_
      refine Fit.in64 (by omega) (by omega) ?_
      refine ⟨(k + 1, s ++ EB b), ⟨hlt, ?_⟩, ⟨nextI, same_keys rfl, trivial⟩, ⟨.inl ⟨_, rfl, .inl ⟨rfl, rfl⟩⟩, .inl ⟨_, rfl, .inl ⟨?_, rfl⟩⟩, trivial⟩, nextM hlt⟩
      · show s ++ EB b ++ (f.blocks.drop (k + 1)).flatMap EB = _
        rw [← hinv]; simp
      · have e9 : bcells s' ++ bcells (encIs [b.fin.kind, b.fin.a]) ++ bcells (encL encI b.fin.targets) = bcells (s ++ EB b) := by rw [eB b, hinv', hcm]; simp only [bcells_app, List.append_assoc]
        exact congrArg (TO.row 5 1) e9
  · have hge : ¬ k < f.blocks.length := by simpa using hge
    rw [drop_end hge, List.flatMap_nil, List.append_nil] at hinv
    exact retO [9] rfl rfl (rowE (congrArg bcells hinv)) rfl
set_option maxRecDepth 10000 in
theorem t14 (f : Fun) (hb : (encFun none f).length ≤ 2 ^ 46) : CallsT P 14 [.agg (funC f)] [] (Ret [] (.tup [.int .i64 (foldN (bytesN (encSig none f))), .int .i64 (foldN (bytesN (encFun none f)))])) := by
  have hs : (encSig none f).length ≤ 2 ^ 46 := by simp only [encFun, List.length_append] at hb; omega
  have h1 := (t37 f hs).give
  have h2 := (t38 f hb).give
  generalize encSig none f = c1 at h1 ⊢
  generalize encFun none f = c2 at h2 ⊢
  refine callsT_facts Try.func14 facts14 rfl fun hw _ => ?_
  refine callPD h1 rfl fun _ => ?_
  refine callPD (t16 c1) rfl fun _ => ?_
  refine callPD h2 rfl fun _ => ?_
  refine callPD (t16 c2) rfl fun _ => ?_
  exact retP rfl rfl
end Go.Fr.Try

/- Digest: the reference implementation: codes in a program (printed by dgr6.py). -/
set_option linter.unusedVariables false
set_option linter.unusedSimpArgs false
namespace Go.Fr.Try
open Go Go.RowKit Go.Proofs Go.Fr Go.Fr.T Go.Fr.Api

set_option maxRecDepth 10000 in
theorem t90 (q : Prog) (l : List Ty) (E : Ty → List UInt8) (ih : ∀ x ∈ l, (E x).length ≤ 2 ^ 46 → Rb 92 [.agg (progC q), .agg [IC x.kind, IC x.id, .sl (x.args.map tyC)]] (E x)) (hb : (encL E l).length ≤ 2 ^ 46) : Rb 90 [.agg (progC q), .sl (l.map tyC)] (encL E l) := by
  have h77 := t77 l.length
  have hlm : (l.map tyC).length = l.length := List.length_map _
  have e0 : encL E l = encI l.length ++ l.flatMap E := rfl
  rw [← hlm] at h77
  rw [e0, ← hlm] at hb
  have e1 : encL E l = encI (l.map tyC).length ++ l.flatMap E := by rw [hlm, e0]
  generalize encL E l = code at *
  generalize hpc : progC q = pc at *
  obtain ⟨a1, a2, a3, a4, a5, a6, a7, a8, rfl⟩ : ∃ a1 a2 a3 a4 a5 a6 a7 a8, pc = [.sl a1, .sl a2, .sl a3, .sl a4, .sl a5, .sl a6, .sl a7, IC a8] := ⟨_, _, _, _, _, _, _, _, hpc.symm⟩
  refine callsT_facts Try.func90 facts90 rfl fun hw _ => ?_
  have hlen : l.length ≤ 9223372036854775807 := wf_lenM hw.2.1
  refine callO [] [9] h77 rfl rfl rfl rfl rfl fun _ _ => ?_
  refine loopN l.length 6 [5] (encI (l.map tyC).length) (fun _ => [.rw 9]) (fun s => [(2, .box 37 [.sl a1, .sl a2, .sl a3, .sl a4, .sl a5, .sl a6, .sl a7, IC a8]), (9, .row 5 1 (bcells s))]) (fun k s => s ++ (l.drop k).flatMap E = code) (by rw [e1]; rfl) (same_keys rfl) ⟨same_keys rfl, trivial⟩
    ⟨.inl ⟨_, rfl, .inl ⟨rfl, rfl⟩⟩, .inl ⟨_, rfl, .inl ⟨rfl, rfl⟩⟩, trivial⟩ (fun _ => rfl) (fun _ => rfl) ?_
  rintro k s hk hinv _ _ _
  refine brn_p (fun hlt => ?_) (fun hge => ?_)
  · have hlt : k < l.length := by simpa using hlt
    refine withDrop hlt fun x hx hxm hd => ?_
    rw [hd] at hinv
    have hsz : s.length + (E x).length ≤ 2 ^ 46 := by
      have := congrArg List.length (hinv.trans e1)
      simp only [List.flatMap_cons, List.length_append] at this hb
      omega
    refine idxTy hx ?_
    refine callPD (ih x hxm (by omega)).give rfl fun _ => ?_
    refine appB (a := s) (b := E x) (by omega) ?_
    refine Fit.in64 (by omega) (by omega) ?_
    refine ⟨(k + 1, s ++ E x), ⟨hlt, ?_⟩, ⟨nextI, same_keys rfl, trivial⟩, ⟨.inl ⟨_, rfl, .inl ⟨rfl, rfl⟩⟩, .inl ⟨_, rfl, .inl ⟨?_, rfl⟩⟩, trivial⟩, nextM hlt⟩
    · show s ++ E x ++ (l.drop (k + 1)).flatMap E = code
      rw [← hinv]; simp
    · exact congrArg (TO.row 5 1) (bcells_app _ _).symm
  · have hge : ¬ k < l.length := by simpa using hge
    rw [drop_end hge] at hinv
    have e : s = code := by rw [← hinv]; simp
    exact retO [9] rfl rfl (rowE (congrArg bcells e)) rfl
theorem two_of {q : Prog} {k i : Int} {d : Api.Data} (h2 : k = 2) (h : elem q.datas i = some d) : encName (some q) k i = some (encS (nm q.modules d.module) ++ encS d.name) := by
  unfold encName
  simp only [h2, if_true, h, Option.map_some, encSs, List.flatMap_cons, List.flatMap_nil, List.append_nil]
set_option maxRecDepth 10000 in
theorem t92' (q : Prog) : ∀ (t : Ty), (encTy (some q) t).length ≤ 2 ^ 46 → Rb 92 [.agg (progC q), .agg [IC t.kind, IC t.id, .sl (t.args.map tyC)]] (encTy (some q) t)
  | .mk k i l, hb => by
    have h90 := t90 q l (encTy (some q)) (fun x hx hs => t92' q x hs)
    have e : encTy (some q) (.mk k i l) = encI k ++ (encName (some q) k i).getD (encI i) ++ encL (encTy (some q)) l := by
      rw [encTy_eq]
      simp only [Ty.kind, Ty.id, Ty.args, List.append_assoc]
    rw [e] at hb ⊢
    simp only [List.length_append] at hb
    have h90 := (h90 (by omega)).give
    have h77 := t77 k
    have h77i := (t77 i).give
    have hlm : (q.datas.map dataC).length = q.datas.length := List.length_map _
    generalize encL (encTy (some q)) l = c3 at *
    simp only [Ty.kind, Ty.id, Ty.args]
    by_cases hk : k = 2 ∧ (elem q.datas i).isSome = true
    · obtain ⟨hk, hs⟩ := hk
      obtain ⟨d, hd⟩ := Option.isSome_iff_exists.1 hs
      have hel := elem_some hd
      rw [two_of hk hd] at hb ⊢
      simp only [Option.getD_some, List.length_append] at hb ⊢
      have h86 := t86 q.modules d.module
      have h76 := (t76 (nm q.modules d.module) (by omega)).give
      have h76' := (t76 d.name (by omega)).give
      generalize nm q.modules d.module = mname at *
      generalize encS mname = e1 at *
      generalize encS d.name = e2 at *
      generalize encI k = e0 at *
      refine callsT_facts Try.func92 facts92 rfl fun hw _ => ?_
      refine callO [] [9] h77 rfl rfl rfl rfl rfl fun _ _ => ?_
      refine brn_p (fun _ => ?_) (fun h => (h hk).elim)
      refine brn_p (fun _ => ?_) (fun h => (by omega : False).elim)
      refine brn_p (fun _ => ?_) (fun h => (by omega : False).elim)
      refine idxE hel.1 hel.2.2 rfl rfl ?_
      refine callPD h86 rfl fun _ => ?_
      refine callPD h76 rfl fun _ => ?_
      refine appN _ (bcells_len e0) (by omega) ?_
      refine callPD h76' rfl fun _ => ?_
      refine appN _ (lenA (bcells_len e0) (bcells_len e1)) (by omega) ?_
      refine callP h90 rfl fun _ => ?_
      refine appN _ (lenA (lenA (bcells_len e0) (bcells_len e1)) (bcells_len e2)) (by omega) ?_
      have e9 : bcells e0 ++ bcells e1 ++ bcells e2 ++ bcells c3 = bcells (e0 ++ (e1 ++ e2) ++ c3) := by simp only [bcells_app, List.append_assoc]
      exact retO [9] rfl rfl (rowE e9) rfl
    · have hn : encName (some q) k i = none := by
        unfold encName
        by_cases h2 : k = 2
        · have : elem q.datas i = none := by
            cases h3 : elem q.datas i with
            | none => rfl
            | some d => exact absurd ⟨h2, by rw [h3]; rfl⟩ hk
          simp [h2, this]
        · simp [h2]
      have hno : k = 2 → 0 ≤ i → ¬ i < q.datas.length := by
        intro h2 h0 h1
        refine hk ⟨h2, ?_⟩
        unfold elem
        rw [if_neg (by omega), List.getElem?_eq_getElem (by omega)]
        rfl
      rw [hn] at hb ⊢
      simp only [Option.getD_none] at hb ⊢
      generalize encI k = e0 at *
      generalize encI i = e1 at *
      refine callsT_facts Try.func92 facts92 rfl fun hw _ => ?_
      refine callO [] [9] h77 rfl rfl rfl rfl rfl fun _ _ => ?_
      have e9 : bcells e0 ++ bcells e1 ++ bcells c3 = bcells (e0 ++ e1 ++ c3) := by simp only [bcells_app]
      refine brn_p (fun h2 => ?_) (fun h2 => ?_)
      · refine brn_p (fun h0 => ?_) (fun h0 => ?_)
        · refine brn_p (fun h1 => ?_) (fun h1 => ?_)
          · exact absurd (by have : i < ((q.datas.map dataC).length : Int) := h1; rw [hlm] at this; exact this) (hno h2 h0)
          · refine callP h77i rfl fun _ => ?_
            refine appN _ (bcells_len e0) (by omega) ?_
            refine callP h90 rfl fun _ => ?_
            refine appN _ (lenA (bcells_len e0) (bcells_len e1)) (by omega) ?_
            exact retO [9] rfl rfl (rowE e9) rfl
        · refine callP h77i rfl fun _ => ?_
          refine appN _ (bcells_len e0) (by omega) ?_
          refine callP h90 rfl fun _ => ?_
          refine appN _ (lenA (bcells_len e0) (bcells_len e1)) (by omega) ?_
          exact retO [9] rfl rfl (rowE e9) rfl
      · refine callP h77i rfl fun _ => ?_
        refine appN _ (bcells_len e0) (by omega) ?_
        refine callP h90 rfl fun _ => ?_
        refine appN _ (lenA (bcells_len e0) (bcells_len e1)) (by omega) ?_
        exact retO [9] rfl rfl (rowE e9) rfl
termination_by t => SizeOf.sizeOf t
decreasing_by
  have := List.sizeOf_lt_of_mem hx
  simp only [Ty.mk.sizeOf_spec]
  omega
theorem t92 (q : Prog) (t : Ty) (hb : (encTy (some q) t).length ≤ 2 ^ 46) : Rb 92 [.agg (progC q), .agg (tyC t)] (encTy (some q) t) := by
  have := t92' q t hb
  rw [← tyC_eq] at this
  exact this

end Go.Fr.Try

/- Digest: the reference implementation: bounds, signatures, data types, implementations of a program. -/
set_option linter.unusedVariables false
set_option linter.unusedSimpArgs false
namespace Go.Fr.Try
open Go Go.RowKit Go.Proofs Go.Fr Go.Fr.T Go.Fr.Api

theorem encBound_q (q : Prog) (b : Bound) : encBound (some q) b = encI b.param ++ encS (nm q.traits b.trait) := by
  simp only [encBound, encTrait, encIs, encSs, List.flatMap_cons, List.flatMap_nil, List.append_nil]
set_option maxRecDepth 10000 in
theorem t91 (q : Prog) (l : List Bound) (hb : (encL (encBound (some q)) l).length ≤ 2 ^ 46) : Rb 91 [.agg (progC q), .sl (l.map boundC)] (encL (encBound (some q)) l) := by
  have h77 := t77 l.length
  have h77' : ∀ n, CallsT P 77 [IC n] [] (Ret [] (.sl (bcells (encI n)))) := fun n => (t77 n).give
  have h76 : ∀ s, (encS s).length ≤ 2 ^ 46 → CallsT P 76 [.str s] [] (Ret [] (.sl (bcells (encS s)))) := fun s h => (t76 s h).give
  have h86 := t86 q.traits
  have eE := encBound_q q
  have hlm : (l.map boundC).length = l.length := List.length_map _
  have e0 : encL (encBound (some q)) l = encI l.length ++ l.flatMap (encBound (some q)) := rfl
  rw [← hlm] at h77
  rw [e0, ← hlm] at hb
  have e1 : encL (encBound (some q)) l = encI (l.map boundC).length ++ l.flatMap (encBound (some q)) := by rw [hlm, e0]
  generalize encL (encBound (some q)) l = code at *
  generalize encBound (some q) = E at *
  generalize nm q.traits = nt at *
  refine callsT_facts Try.func91 facts91 rfl fun hw _ => ?_
  have hlen : l.length ≤ 9223372036854775807 := wf_lenM hw.2.1
  refine callO [] [9] h77 rfl rfl rfl rfl rfl fun _ _ => ?_
  refine loopN l.length 6 [5] (encI (l.map boundC).length) (fun _ => [.rw 9]) (fun s => [(2, .box 37 (progC q)), (9, .row 5 1 (bcells s))]) (fun k s => s ++ (l.drop k).flatMap E = code) (by rw [e1]; rfl) (same_keys rfl) ⟨same_keys rfl, trivial⟩
    ⟨.inl ⟨_, rfl, .inl ⟨rfl, rfl⟩⟩, .inl ⟨_, rfl, .inl ⟨rfl, rfl⟩⟩, trivial⟩ (fun _ => rfl) (fun _ => rfl) ?_
  rintro k s hk hinv _ _ _
  refine brn_p (fun hlt => ?_) (fun hge => ?_)
  · have hlt : k < l.length := by simpa using hlt
    refine withDrop hlt fun x hx hxm hd => ?_
    rw [hd] at hinv
    have hsz : s.length + (E x).length ≤ 2 ^ 46 := by
      have := congrArg List.length (hinv.trans e1)
      simp only [List.flatMap_cons, List.length_append] at this hb
      omega
    rw [eE x] at hsz
    simp only [List.length_append] at hsz
    refine idxT hx rfl rfl ?_
    refine idxT hx rfl rfl ?_
    refine callPD (h77' x.param) rfl fun _ => ?_
    refine appN _ (bcells_len s) (by omega) ?_
    refine callPD (h86 x.trait) rfl fun _ => ?_
    refine callPD (h76 _ (by omega)) rfl fun _ => ?_
    refine appN _ (lenA (bcells_len s) (bcells_len _)) (by omega) ?_
    refine Fit.in64 (by omega) (by omega) ?_
    refine ⟨(k + 1, s ++ E x), ⟨hlt, ?_⟩, ⟨nextI, same_keys rfl, trivial⟩, ⟨.inl ⟨_, rfl, .inl ⟨rfl, rfl⟩⟩, .inl ⟨_, rfl, .inl ⟨?_, rfl⟩⟩, trivial⟩, nextM hlt⟩
    · show s ++ E x ++ (l.drop (k + 1)).flatMap E = code
      rw [← hinv]; simp
    · have e9 : bcells s ++ bcells (encI x.param) ++ bcells (encS (nt x.trait)) = bcells (s ++ E x) := by rw [eE x]; simp only [bcells_app, List.append_assoc]
      exact congrArg (TO.row 5 1) e9
  · have hge : ¬ k < l.length := by simpa using hge
    rw [drop_end hge] at hinv
    have e : s = code := by rw [← hinv]; simp
    exact retO [9] rfl rfl (rowE (congrArg bcells e)) rfl
set_option maxRecDepth 10000 in
theorem t85 (q : Prog) (f : Fun) (hb : (encSig (some q) f).length ≤ 2 ^ 46) : Rb 85 [.agg (progC q), .agg (funC f)] (encSig (some q) f) := by
  have h76 := t76 f.name
  have h77 : ∀ n, CallsT P 77 [IC n] [] (Ret [] (.sl (bcells (encI n)))) := fun n => (t77 n).give
  have h91 := t91 q f.bounds
  have h78 := t78 f
  have h90 := t90 q (argsOf f) (encTy (some q)) (fun x _ h => t92' q x h)
  have h92 := t92' q f.result
  have h79 := t79 f.ties
  have e : encSig (some q) f = encS f.name ++ encI f.params ++ encL (encBound (some q)) f.bounds ++ encI f.arity ++ encL (encTy (some q)) (argsOf f) ++ encTy (some q) f.result ++ encL encI f.ties := by
    simp only [encSig, encSs, encIs, List.flatMap_cons, List.flatMap_nil, List.append_nil, List.append_assoc]
  rw [e] at hb ⊢
  simp only [List.length_append] at hb
  have h76 := h76 (by omega)
  have h91 := (h91 (by omega)).give
  have h90 := (h90 (by omega)).give
  have h92 := (h92 (by omega)).give
  have h79 := (h79 (by omega)).give
  have hp := h77 f.params
  have ha := h77 f.arity
  generalize encS f.name = c1 at *
  generalize encI f.params = c2 at *
  generalize encL (encBound (some q)) f.bounds = c3 at *
  generalize encI f.arity = c4 at *
  generalize encL (encTy (some q)) (argsOf f) = c5 at *
  generalize encTy (some q) f.result = c6 at *
  generalize encL encI f.ties = c7 at *
  generalize argsOf f = ao at *
  refine callsT_facts Try.func85 facts85 rfl fun hw _ => ?_
  refine callDO h76 rfl rfl ?_
  refine callPD hp rfl fun _ => ?_
  refine appN _ (bcells_len c1) (by omega) ?_
  refine callPD h91 rfl fun _ => ?_
  refine appN _ (lenA (bcells_len c1) (bcells_len c2)) (by omega) ?_
  refine callPD ha rfl fun _ => ?_
  refine appN _ (lenA (lenA (bcells_len c1) (bcells_len c2)) (bcells_len c3)) (by omega) ?_
  refine callPD h78 rfl fun _ => ?_
  refine callPD h90 rfl fun _ => ?_
  refine appN _ (lenA (lenA (lenA (bcells_len c1) (bcells_len c2)) (bcells_len c3)) (bcells_len c4)) (by omega) ?_
  refine callPD h92 rfl fun _ => ?_
  refine appN _ (lenA (lenA (lenA (lenA (bcells_len c1) (bcells_len c2)) (bcells_len c3)) (bcells_len c4)) (bcells_len c5)) (by omega) ?_
  refine callPD h79 rfl fun _ => ?_
  refine appN _ (lenA (lenA (lenA (lenA (lenA (bcells_len c1) (bcells_len c2)) (bcells_len c3)) (bcells_len c4)) (bcells_len c5)) (bcells_len c6)) (by omega) ?_
  have e9 : bcells c1 ++ bcells c2 ++ bcells c3 ++ bcells c4 ++ bcells c5 ++ bcells c6 ++ bcells c7 = bcells (c1 ++ c2 ++ c3 ++ c4 ++ c5 ++ c6 ++ c7) := by simp only [bcells_app]
  exact retO [8] rfl rfl (rowE e9) rfl
set_option maxRecDepth 10000 in
theorem t83 (q : Prog) (d : Api.Data) (hb : (encData (some q) d).length ≤ 2 ^ 46) : Rb 83 [.agg (progC q), .agg (dataC d)] (encData (some q) d) := by
  have h76' := t76 d.name
  have h76 : ∀ s, (encS s).length ≤ 2 ^ 46 → CallsT P 76 [.str s] [] (Ret [] (.sl (bcells (encS s)))) := fun s h => (t76 s h).give
  have h46 := t46 [d.params, d.drop, (d.variants.map variantC).length]
  have h90 : ∀ l : List Ty, (encL (encTy (some q)) l).length ≤ 2 ^ 46 → CallsT P 90 [.agg (progC q), .sl (l.map tyC)] [] (Ret [] (.sl (bcells (encL (encTy (some q)) l)))) := fun l h => (t90 q l (encTy (some q)) (fun x _ h => t92' q x h) h).give
  have eV : ∀ v : Variant, encVariant (some q) v = encS v.name ++ encL (encTy (some q)) v.fields := fun v => by
    simp only [encVariant, encSs, List.flatMap_cons, List.flatMap_nil, List.append_nil]
  have e : encData (some q) d = encS d.name ++ encIs [d.params, d.drop, (d.variants.map variantC).length] ++ d.variants.flatMap (encVariant (some q)) := by
    rw [List.length_map]
    simp only [encData, encL, encSs, encIs, List.flatMap_cons, List.flatMap_nil, List.append_nil, List.append_assoc]
  generalize encData (some q) d = code at *
  rw [e] at hb
  simp only [List.length_append] at hb
  have h76' := h76' (by omega)
  have h46 := (h46 (by omega)).give
  generalize encVariant (some q) = E at *
  generalize hLT : encL (encTy (some q)) = LT at *
  generalize encIs [d.params, d.drop, ((d.variants.map variantC).length : Int)] = c2 at *
  generalize encS d.name = c1 at *
  refine callsT_facts Try.func83 facts83 rfl fun hw _ => ?_
  have hlen : d.variants.length ≤ 9223372036854775807 := wf_lenM hw.2.1.2.2.2.1
  refine callDO h76' rfl rfl ?_
  refine callPD h46 rfl fun _ => ?_
  refine appN _ (bcells_len c1) (by omega) ?_
  refine loopN d.variants.length 6 [5] (c1 ++ c2) (fun _ => [.rw 9]) (fun s => [(2, .box 37 (progC q)), (3, .box 58 (dataC d)), (9, .row 5 1 (bcells s))]) (fun k s => s ++ (d.variants.drop k).flatMap E = code) e.symm (same_keys rfl) ⟨same_keys rfl, trivial⟩
    ⟨.inl ⟨_, rfl, .inl ⟨rfl, rfl⟩⟩, .inl ⟨_, rfl, .inl ⟨rfl, rfl⟩⟩, .inl ⟨_, rfl, .inl ⟨congrArg (TO.row 5 1) (bcells_app _ _).symm, rfl⟩⟩, trivial⟩ (fun _ => rfl) (fun _ => rfl) ?_
  rintro k s hk hinv _ _ _
  refine brn_p (fun hlt => ?_) (fun hge => ?_)
  · have hlt : k < d.variants.length := by simpa using hlt
    refine withDrop hlt fun x hx hxm hd => ?_
    rw [hd] at hinv
    have hsz : s.length + (E x).length ≤ 2 ^ 46 := by
      have := congrArg List.length (hinv.trans e)
      simp only [List.flatMap_cons, List.length_append] at this hb
      omega
    rw [eV x] at hsz
    simp only [List.length_append] at hsz
    refine idxT hx rfl rfl ?_
    refine idxT hx rfl rfl ?_
    refine callPD (h76 x.name (by omega)) rfl fun _ => ?_
    refine appN _ (bcells_len s) (by omega) ?_
    refine callPD (h90 x.fields (by omega)) rfl fun _ => ?_
    refine appN _ (lenA (bcells_len s) (bcells_len _)) (by omega) ?_
    refine Fit.in64 (by omega) (by omega) ?_
    refine ⟨(k + 1, s ++ E x), ⟨hlt, ?_⟩, ⟨nextI, same_keys rfl, trivial⟩, ⟨.inl ⟨_, rfl, .inl ⟨rfl, rfl⟩⟩, .inl ⟨_, rfl, .inl ⟨rfl, rfl⟩⟩, .inl ⟨_, rfl, .inl ⟨?_, rfl⟩⟩, trivial⟩, nextM hlt⟩
    · show s ++ E x ++ (d.variants.drop (k + 1)).flatMap E = code
      rw [← hinv]; simp
    · have e9 : bcells s ++ bcells (encS x.name) ++ bcells (LT x.fields) = bcells (s ++ E x) := by rw [eV x]; simp only [bcells_app, List.append_assoc]
      exact congrArg (TO.row 5 1) e9
  · have hge : ¬ k < d.variants.length := by simpa using hge
    rw [drop_end hge] at hinv
    have e : s = code := by rw [← hinv]; simp
    exact retO [9] rfl rfl (rowE (congrArg bcells e)) rfl
set_option maxRecDepth 10000 in
theorem t84 (q : Prog) (x : Impl) (hb : (encImpl q x).length ≤ 2 ^ 46) : Rb 84 [.agg (progC q), .agg (implC x)] (encImpl q x) := by
  have h86 := t86 q.traits x.trait
  have h76 := t76 (nm q.traits x.trait)
  have h77 := (t77 x.params).give
  have h91 := t91 q x.bounds
  have h92 := t92' q x.type
  have h76' := t76 (fnameOf q x.func)
  have hlm : (q.funcs.map funC).length = q.funcs.length := List.length_map _
  have e : encImpl q x = encS (nm q.traits x.trait) ++ encI x.params ++ encL (encBound (some q)) x.bounds ++ encTy (some q) x.type ++ encS (fnameOf q x.func) := by
    simp only [encImpl, encTrait, encSs, encIs, List.flatMap_cons, List.flatMap_nil, List.append_nil, List.append_assoc]
  have hf : (0 ≤ x.func ∧ ∃ g : Fun, q.funcs[x.func.toNat]? = some g ∧ fnameOf q x.func = g.name) ∨ ((x.func < 0 ∨ (q.funcs.length : Int) ≤ x.func) ∧ fnameOf q x.func = ⟨#[]⟩) := by
    cases h : elem q.funcs x.func with
    | none =>
      refine .inr ⟨?_, by simp only [fnameOf, h]; rfl⟩
      rcases elem_none h with h | h
      · exact .inl h
      · exact .inr h.2
    | some g =>
      have := elem_some h
      exact .inl ⟨by omega, g, this.2.2, by simp only [fnameOf, h]; rfl⟩
  rw [e] at hb ⊢
  simp only [List.length_append] at hb
  have h76 := h76 (by omega)
  have h91 := (h91 (by omega)).give
  have h92 := (h92 (by omega)).give
  have h76' := (h76' (by omega)).give
  generalize nm q.traits x.trait = nt at *
  generalize encI x.params = c2 at *
  generalize encL (encBound (some q)) x.bounds = c3 at *
  generalize encTy (some q) x.type = c4 at *
  generalize encS nt = c1 at *
  rcases hf with ⟨f0, g, hg, hn⟩ | ⟨f0, hn⟩
  · rw [hn] at hb h76' ⊢
    have hlt : x.func.toNat < q.funcs.length := (List.getElem?_eq_some_iff.1 hg).1
    generalize encS g.name = c5 at *
    refine callsT_facts Try.func84 facts84 rfl fun hw _ => ?_
    refine brn_p (fun _ => ?_) (fun h => (by omega : False).elim)
    refine brn_p (fun _ => ?_) (fun h => (by omega : False).elim)
    refine idxE (by omega) hg rfl rfl ?_
    refine callPD h86 rfl fun _ => ?_
    refine callDO h76 rfl rfl ?_
    refine callPD h77 rfl fun _ => ?_
    refine appN _ (bcells_len c1) (by omega) ?_
    refine callPD h91 rfl fun _ => ?_
    refine appN _ (lenA (bcells_len c1) (bcells_len c2)) (by omega) ?_
    refine callPD h92 rfl fun _ => ?_
    refine appN _ (lenA (lenA (bcells_len c1) (bcells_len c2)) (bcells_len c3)) (by omega) ?_
    refine callP h76' rfl fun _ => ?_
    refine appN _ (lenA (lenA (lenA (bcells_len c1) (bcells_len c2)) (bcells_len c3)) (bcells_len c4)) (by omega) ?_
    have e9 : bcells c1 ++ bcells c2 ++ bcells c3 ++ bcells c4 ++ bcells c5 = bcells (c1 ++ c2 ++ c3 ++ c4 ++ c5) := by simp only [bcells_app]
    exact retO [30] rfl rfl (rowE e9) rfl
  · rw [hn] at hb h76' ⊢
    generalize encS ⟨#[]⟩ = c5 at *
    have e9 : bcells c1 ++ bcells c2 ++ bcells c3 ++ bcells c4 ++ bcells c5 = bcells (c1 ++ c2 ++ c3 ++ c4 ++ c5) := by simp only [bcells_app]
    refine callsT_facts Try.func84 facts84 rfl fun hw _ => ?_
    refine brn_p (fun _ => ?_) (fun h => ?_)
    · refine brn_p (fun _ => (by omega : False).elim) (fun h => ?_)
      refine callPD h86 rfl fun _ => ?_
      refine callDO h76 rfl rfl ?_
      refine callPD h77 rfl fun _ => ?_
      refine appN _ (bcells_len c1) (by omega) ?_
      refine callPD h91 rfl fun _ => ?_
      refine appN _ (lenA (bcells_len c1) (bcells_len c2)) (by omega) ?_
      refine callPD h92 rfl fun _ => ?_
      refine appN _ (lenA (lenA (bcells_len c1) (bcells_len c2)) (bcells_len c3)) (by omega) ?_
      refine callP h76' rfl fun _ => ?_
      refine appN _ (lenA (lenA (lenA (bcells_len c1) (bcells_len c2)) (bcells_len c3)) (bcells_len c4)) (by omega) ?_
      exact retO [30] rfl rfl (rowE e9) rfl
    · refine callPD h86 rfl fun _ => ?_
      refine callDO h76 rfl rfl ?_
      refine callPD h77 rfl fun _ => ?_
      refine appN _ (bcells_len c1) (by omega) ?_
      refine callPD h91 rfl fun _ => ?_
      refine appN _ (lenA (bcells_len c1) (bcells_len c2)) (by omega) ?_
      refine callPD h92 rfl fun _ => ?_
      refine appN _ (lenA (lenA (bcells_len c1) (bcells_len c2)) (bcells_len c3)) (by omega) ?_
      refine callP h76' rfl fun _ => ?_
      refine appN _ (lenA (lenA (lenA (bcells_len c1) (bcells_len c2)) (bcells_len c3)) (bcells_len c4)) (by omega) ?_
      exact retO [30] rfl rfl (rowE e9) rfl
end Go.Fr.Try

/- Digest: the reference implementation: what a module offers (printed by dgr8.py). -/
set_option linter.unusedVariables false
set_option linter.unusedSimpArgs false
namespace Go.Fr.Try
open Go Go.RowKit Go.Proofs Go.Fr Go.Fr.T Go.Fr.Api

theorem rowSt' {els : List (List C)} {j off n : Nat} {es0 : List C} {K : List C → Prop} (h : els[j]? = some es0) (hl : lenC? ((es0.drop off).take n) n = true) (k : K es0) : RowT els j off n fun _ => ∀ es, els[j]? = some es → K es :=
  ⟨es0, h, hl, fun es he => by rw [h] at he; injection he with he; rw [← he]; exact k⟩
def of' {α : Type} (g : α → Int) (m : Int) (l : List α) : List α := l.filter fun x => decide (g x = m)
theorem of_pos {α : Type} {g : α → Int} {m : Int} {x : α} {l : List α} (h : g x = m) : of' g m (x :: l) = x :: of' g m l := by simp [of', h]
theorem of_neg {α : Type} {g : α → Int} {m : Int} {x : α} {l : List α} (h : ¬ g x = m) : of' g m (x :: l) = of' g m l := by simp [of', h]
theorem of_len {α : Type} (g : α → Int) (m : Int) (l : List α) : (of' g m l).length ≤ l.length := List.length_filter_le _ _
theorem module_parts (q : Prog) (name : ByteArray) (m : Int) : encModule q name m = encS name ++ encI (of' (·.module) m q.datas).length ++ (of' (·.module) m q.datas).flatMap (encData (some q)) ++ encI (of' (·.module) m q.impls).length ++ (of' (·.module) m q.impls).flatMap (encImpl q) ++ encI (of' (·.module) m q.funcs).length ++ (of' (·.module) m q.funcs).flatMap (encSig (some q)) := by
  simp only [encModule, encSs, encL, List.flatMap_cons, List.flatMap_nil, List.append_nil, List.append_assoc]
  rfl
set_option maxRecDepth 10000 in
theorem t69 (q : Prog) (m : Int) (hb : (encModule q (nm q.modules m) m).length ≤ 2 ^ 46) : Rb 69 [.agg (progC q), IC m] (encModule q (nm q.modules m) m) := by
  have h83 := t83 q
  have h84 := t84 q
  have h85 := t85 q
  have h86 := t86 q.modules m
  have h76 := t76 (nm q.modules m)
  have h77 : ∀ n, CallsT P 77 [IC n] [] (Ret [] (.sl (bcells (encI n)))) := fun n => (t77 n).give
  rw [module_parts] at hb ⊢
  simp only [List.length_append] at hb
  have h76 := h76 (by omega)
  have n1 := of_len (·.module) m q.datas
  have n2 := of_len (·.module) m q.impls
  have n3 := of_len (·.module) m q.funcs
  generalize encData (some q) = E1 at *
  generalize encImpl q = E2 at *
  generalize encSig (some q) = E3 at *
  generalize nm q.modules m = nme at *
  generalize encS nme = c0 at *
  generalize hD : of' (fun x : Api.Data => x.module) m q.datas = D at *
  generalize hI : of' (fun x : Impl => x.module) m q.impls = I' at *
  generalize hF : of' (fun x : Fun => x.module) m q.funcs = F' at *
  refine callsT_facts Try.func69 yfacts69 rfl fun hw _ => ?_
  have hw' := hw.1
  have l1 : q.datas.length ≤ 9223372036854775807 := wf_lenM hw'.2.2.1
  have l2 : q.impls.length ≤ 9223372036854775807 := wf_lenM hw'.2.2.2.2.2.1
  have l3 : q.funcs.length ≤ 9223372036854775807 := wf_lenM hw'.2.2.2.2.2.2.1
  refine loopN q.datas.length 9 [8, 5] (([] : List UInt8), (0 : Int)) (fun y => [.rw 13, .rw 37]) (fun y => [(2, .box 37 (progC q)), (13, .row 3 1 [[IC y.2], [IC 0], [IC 0]]), (37, .row 5 1 (bcells y.1))]) (fun k y => y.1 ++ (of' (fun x : Api.Data => x.module) m (q.datas.drop k)).flatMap E1 = D.flatMap E1 ∧ y.2 + (of' (fun x : Api.Data => x.module) m (q.datas.drop k)).length = D.length ∧ 0 ≤ y.2) ⟨by rw [List.drop_zero, hD]; rfl, by rw [List.drop_zero, hD]; omega, Int.le_refl 0⟩ (same_keys rfl) ⟨same_keys rfl, .inr (.inr (.inr (.inl ⟨rfl, 37, 5, 1, rfl, rfl, rfl⟩))), trivial⟩
    ⟨.inl ⟨_, rfl, .inl ⟨rfl, rfl⟩⟩, .inl ⟨_, rfl, .inl ⟨rfl, rfl⟩⟩, .inr ⟨rfl, 5, 1, rfl⟩, trivial⟩ (fun _ => rfl) (fun _ => rfl) ?_
  rintro k0 ⟨s0, c0'⟩ hk0 ⟨hinv, hcnt, hc0⟩ _ _ _
  simp only at hinv hcnt hc0
  refine brn_p (fun hlt => ?_) (fun hge => ?_)
  · have hlt : k0 < q.datas.length := by simpa using hlt
    refine withDrop hlt fun x hx hxm hd => ?_
    refine idxT hx rfl rfl ?_
    refine brn_p (fun hm => ?_) (fun hm => ?_)
    · rw [hd, of_pos (g := (fun x : Api.Data => x.module)) hm] at hinv hcnt
      have hsz : s0.length + (E1 x).length ≤ 2 ^ 46 := by
        have := congrArg List.length hinv
        simp only [List.flatMap_cons, List.length_append] at this
        omega
      rw [List.length_cons] at hcnt
      refine idxT hx rfl rfl ?_
      refine callPD (h83 x (by omega)).give rfl fun _ => ?_
      refine appN _ (bcells_len s0) (by omega) ?_
      refine InB.mk (by decide) (by show (_ : Int) < 3; decide) ?_
      refine RowT.mk ⟨[IC c0'], rfl, rfl, ?_⟩
      refine Fit.in64 (by omega) (by omega) ?_
      refine InB.mk (by decide) (by show (_ : Int) < 3; decide) ?_
      refine ⟨rfl, rowSt' (es0 := [IC c0']) rfl rfl ?_⟩
      refine Fit.in64 (by omega) (by omega) ?_
      refine ⟨(k0 + 1, (s0 ++ E1 x, c0' + 1)), ⟨hlt, ?_, ?_, ?_⟩, ⟨nextI, same_keys rfl, same_keys rfl, trivial⟩, ⟨.inl ⟨_, rfl, .inl ⟨rfl, rfl⟩⟩, .inl ⟨_, rfl, .inl ⟨rfl, rfl⟩⟩, .inl ⟨_, rfl, .inl ⟨congrArg (TO.row 5 1) (bcells_app _ _).symm, rfl⟩⟩, trivial⟩, nextM hlt⟩
      · show s0 ++ E1 x ++ _ = _
        rw [← hinv]; simp
      · show c0' + 1 + ((of' (fun x : Api.Data => x.module) m (q.datas.drop (k0 + 1))).length : Int) = _
        omega
      · show 0 ≤ c0' + 1
        omega
    · rw [hd, of_neg (g := (fun x : Api.Data => x.module)) hm] at hinv hcnt
      refine Fit.in64 (by omega) (by omega) ?_
      exact ⟨(k0 + 1, (s0, c0')), ⟨hlt, hinv, hcnt, hc0⟩, ⟨nextI, same_keys rfl, same_keys rfl, trivial⟩, ⟨.inl ⟨_, rfl, .inl ⟨rfl, rfl⟩⟩, .inl ⟨_, rfl, .inl ⟨rfl, rfl⟩⟩, .inl ⟨_, rfl, .inl ⟨rfl, rfl⟩⟩, trivial⟩, nextM hlt⟩
  have hge : ¬ k0 < q.datas.length := by simpa using hge
  rw [drop_end hge] at hinv hcnt
  have e0 : s0 = D.flatMap E1 := by rw [← hinv]; simp [of']
  have f0 : c0' = (D.length : Int) := by simpa [of'] using hcnt
  clear hinv hcnt hge
  refine loopN q.impls.length 10 [8, 5, 6] (([] : List UInt8), (0 : Int)) (fun y => [.rw 13, .rw 37, .rw 66]) (fun y => [(2, .box 37 (progC q)), (13, .row 3 1 [[IC c0'], [IC y.2], [IC 0]]), (37, .row 5 1 (bcells s0)), (66, .row 5 1 (bcells y.1))]) (fun k y => y.1 ++ (of' (fun x : Impl => x.module) m (q.impls.drop k)).flatMap E2 = I'.flatMap E2 ∧ y.2 + (of' (fun x : Impl => x.module) m (q.impls.drop k)).length = I'.length ∧ 0 ≤ y.2) ⟨by rw [List.drop_zero, hI]; rfl, by rw [List.drop_zero, hI]; omega, Int.le_refl 0⟩ (same_keys rfl) ⟨same_keys rfl, same_keys rfl, .inr (.inr (.inr (.inl ⟨rfl, 66, 5, 1, rfl, rfl, rfl⟩))), trivial⟩
    ⟨.inl ⟨_, rfl, .inl ⟨rfl, rfl⟩⟩, .inl ⟨_, rfl, .inl ⟨rfl, rfl⟩⟩, .inl ⟨_, rfl, .inl ⟨rfl, rfl⟩⟩, .inr ⟨rfl, 5, 1, rfl⟩, trivial⟩ (fun _ => rfl) (fun _ => rfl) ?_
  rintro k1 ⟨s1, c1'⟩ hk1 ⟨hinv, hcnt, hc0⟩ _ _ _
  simp only at hinv hcnt hc0
  refine brn_p (fun hlt => ?_) (fun hge => ?_)
  · have hlt : k1 < q.impls.length := by simpa using hlt
    refine withDrop hlt fun x hx hxm hd => ?_
    refine idxT hx rfl rfl ?_
    refine brn_p (fun hm => ?_) (fun hm => ?_)
    · rw [hd, of_pos (g := (fun x : Impl => x.module)) hm] at hinv hcnt
      have hsz : s1.length + (E2 x).length ≤ 2 ^ 46 := by
        have := congrArg List.length hinv
        simp only [List.flatMap_cons, List.length_append] at this
        omega
      rw [List.length_cons] at hcnt
      refine idxT hx rfl rfl ?_
      refine callPD (h84 x (by omega)).give rfl fun _ => ?_
      refine appN _ (bcells_len s1) (by omega) ?_
      refine InB.mk (by decide) (by show (_ : Int) < 3; decide) ?_
      refine RowT.mk ⟨[IC c1'], rfl, rfl, ?_⟩
      refine Fit.in64 (by omega) (by omega) ?_
      refine InB.mk (by decide) (by show (_ : Int) < 3; decide) ?_
      refine ⟨rfl, rowSt' (es0 := [IC c1']) rfl rfl ?_⟩
      refine Fit.in64 (by omega) (by omega) ?_
      refine ⟨(k1 + 1, (s1 ++ E2 x, c1' + 1)), ⟨hlt, ?_, ?_, ?_⟩, ⟨nextI, same_keys rfl, same_keys rfl, same_keys rfl, trivial⟩, ⟨.inl ⟨_, rfl, .inl ⟨rfl, rfl⟩⟩, .inl ⟨_, rfl, .inl ⟨rfl, rfl⟩⟩, .inl ⟨_, rfl, .inl ⟨rfl, rfl⟩⟩, .inl ⟨_, rfl, .inl ⟨congrArg (TO.row 5 1) (bcells_app _ _).symm, rfl⟩⟩, trivial⟩, nextM hlt⟩
      · show s1 ++ E2 x ++ _ = _
        rw [← hinv]; simp
      · show c1' + 1 + ((of' (fun x : Impl => x.module) m (q.impls.drop (k1 + 1))).length : Int) = _
        omega
      · show 0 ≤ c1' + 1
        omega
    · rw [hd, of_neg (g := (fun x : Impl => x.module)) hm] at hinv hcnt
      refine Fit.in64 (by omega) (by omega) ?_
      exact ⟨(k1 + 1, (s1, c1')), ⟨hlt, hinv, hcnt, hc0⟩, ⟨nextI, same_keys rfl, same_keys rfl, same_keys rfl, trivial⟩, ⟨.inl ⟨_, rfl, .inl ⟨rfl, rfl⟩⟩, .inl ⟨_, rfl, .inl ⟨rfl, rfl⟩⟩, .inl ⟨_, rfl, .inl ⟨rfl, rfl⟩⟩, .inl ⟨_, rfl, .inl ⟨rfl, rfl⟩⟩, trivial⟩, nextM hlt⟩
  have hge : ¬ k1 < q.impls.length := by simpa using hge
  rw [drop_end hge] at hinv hcnt
  have e1 : s1 = I'.flatMap E2 := by rw [← hinv]; simp [of']
  have f1 : c1' = (I'.length : Int) := by simpa [of'] using hcnt
  clear hinv hcnt hge
  refine loopN q.funcs.length 11 [8, 5, 6, 7] (([] : List UInt8), (0 : Int)) (fun y => [.rw 13, .rw 37, .rw 66, .rw 95]) (fun y => [(2, .box 37 (progC q)), (13, .row 3 1 [[IC c0'], [IC c1'], [IC y.2]]), (37, .row 5 1 (bcells s0)), (66, .row 5 1 (bcells s1)), (95, .row 5 1 (bcells y.1))]) (fun k y => y.1 ++ (of' (fun x : Fun => x.module) m (q.funcs.drop k)).flatMap E3 = F'.flatMap E3 ∧ y.2 + (of' (fun x : Fun => x.module) m (q.funcs.drop k)).length = F'.length ∧ 0 ≤ y.2) ⟨by rw [List.drop_zero, hF]; rfl, by rw [List.drop_zero, hF]; omega, Int.le_refl 0⟩ (same_keys rfl) ⟨same_keys rfl, same_keys rfl, same_keys rfl, .inr (.inr (.inr (.inl ⟨rfl, 95, 5, 1, rfl, rfl, rfl⟩))), trivial⟩
    ⟨.inl ⟨_, rfl, .inl ⟨rfl, rfl⟩⟩, .inl ⟨_, rfl, .inl ⟨rfl, rfl⟩⟩, .inl ⟨_, rfl, .inl ⟨rfl, rfl⟩⟩, .inl ⟨_, rfl, .inl ⟨rfl, rfl⟩⟩, .inr ⟨rfl, 5, 1, rfl⟩, trivial⟩ (fun _ => rfl) (fun _ => rfl) ?_
  rintro k2 ⟨s2, c2'⟩ hk2 ⟨hinv, hcnt, hc0⟩ _ _ _
  simp only at hinv hcnt hc0
  refine brn_p (fun hlt => ?_) (fun hge => ?_)
  · have hlt : k2 < q.funcs.length := by simpa using hlt
    refine withDrop hlt fun x hx hxm hd => ?_
    refine idxT hx rfl rfl ?_
    refine brn_p (fun hm => ?_) (fun hm => ?_)
    · rw [hd, of_pos (g := (fun x : Fun => x.module)) hm] at hinv hcnt
      have hsz : s2.length + (E3 x).length ≤ 2 ^ 46 := by
        have := congrArg List.length hinv
        simp only [List.flatMap_cons, List.length_append] at this
        omega
      rw [List.length_cons] at hcnt
      refine idxT hx rfl rfl ?_
      refine callPD (h85 x (by omega)).give rfl fun _ => ?_
      refine appN _ (bcells_len s2) (by omega) ?_
      refine InB.mk (by decide) (by show (_ : Int) < 3; decide) ?_
      refine RowT.mk ⟨[IC c2'], rfl, rfl, ?_⟩
      refine Fit.in64 (by omega) (by omega) ?_
      refine InB.mk (by decide) (by show (_ : Int) < 3; decide) ?_
      refine ⟨rfl, rowSt' (es0 := [IC c2']) rfl rfl ?_⟩
      refine Fit.in64 (by omega) (by omega) ?_
      refine ⟨(k2 + 1, (s2 ++ E3 x, c2' + 1)), ⟨hlt, ?_, ?_, ?_⟩, ⟨nextI, same_keys rfl, same_keys rfl, same_keys rfl, same_keys rfl, trivial⟩, ⟨.inl ⟨_, rfl, .inl ⟨rfl, rfl⟩⟩, .inl ⟨_, rfl, .inl ⟨rfl, rfl⟩⟩, .inl ⟨_, rfl, .inl ⟨rfl, rfl⟩⟩, .inl ⟨_, rfl, .inl ⟨rfl, rfl⟩⟩, .inl ⟨_, rfl, .inl ⟨congrArg (TO.row 5 1) (bcells_app _ _).symm, rfl⟩⟩, trivial⟩, nextM hlt⟩
      · show s2 ++ E3 x ++ _ = _
        rw [← hinv]; simp
      · show c2' + 1 + ((of' (fun x : Fun => x.module) m (q.funcs.drop (k2 + 1))).length : Int) = _
        omega
      · show 0 ≤ c2' + 1
        omega
    · rw [hd, of_neg (g := (fun x : Fun => x.module)) hm] at hinv hcnt
      refine Fit.in64 (by omega) (by omega) ?_
      exact ⟨(k2 + 1, (s2, c2')), ⟨hlt, hinv, hcnt, hc0⟩, ⟨nextI, same_keys rfl, same_keys rfl, same_keys rfl, same_keys rfl, trivial⟩, ⟨.inl ⟨_, rfl, .inl ⟨rfl, rfl⟩⟩, .inl ⟨_, rfl, .inl ⟨rfl, rfl⟩⟩, .inl ⟨_, rfl, .inl ⟨rfl, rfl⟩⟩, .inl ⟨_, rfl, .inl ⟨rfl, rfl⟩⟩, .inl ⟨_, rfl, .inl ⟨rfl, rfl⟩⟩, trivial⟩, nextM hlt⟩
  have hge : ¬ k2 < q.funcs.length := by simpa using hge
  rw [drop_end hge] at hinv hcnt
  have e2 : s2 = F'.flatMap E3 := by rw [← hinv]; simp [of']
  have f2 : c2' = (F'.length : Int) := by simpa [of'] using hcnt
  clear hinv hcnt hge
  have q0 : s0.length = (D.flatMap E1).length := by rw [e0]
  have q1 : s1.length = (I'.flatMap E2).length := by rw [e1]
  have q2 : s2.length = (F'.flatMap E3).length := by rw [e2]
  have p0 : (encI c0').length = (encI D.length).length := by rw [f0]
  have p1 : (encI c1').length = (encI I'.length).length := by rw [f1]
  have p2 : (encI c2').length = (encI F'.length).length := by rw [f2]
  refine IdxT.mk ⟨[IC c0'], by decide, rfl, rfl, ?_⟩
  refine callPD h86 rfl fun _ => ?_
  refine callDO h76 rfl rfl ?_
  refine callPD (h77 c0') rfl fun _ => ?_
  refine appN _ (bcells_len c0) (by omega) ?_
  refine appN _ (lenA (bcells_len c0) (bcells_len _)) (by omega) ?_
  refine IdxT.mk ⟨[IC c1'], by decide, rfl, rfl, ?_⟩
  refine callP (h77 c1') rfl fun _ => ?_
  refine appN _ (lenA (lenA (bcells_len c0) (bcells_len _)) (bcells_len _)) (by omega) ?_
  refine appN _ (lenA (lenA (lenA (bcells_len c0) (bcells_len _)) (bcells_len _)) (bcells_len _)) (by omega) ?_
  refine IdxT.mk ⟨[IC c2'], by decide, rfl, rfl, ?_⟩
  refine callP (h77 c2') rfl fun _ => ?_
  refine appN _ (lenA (lenA (lenA (lenA (bcells_len c0) (bcells_len _)) (bcells_len _)) (bcells_len _)) (bcells_len _)) (by omega) ?_
  refine appN (b := s2) _ (lenA (lenA (lenA (lenA (lenA (bcells_len c0) (bcells_len _)) (bcells_len _)) (bcells_len _)) (bcells_len _)) (bcells_len _)) (by omega) ?_
  have e9 : bcells c0 ++ bcells (encI c0') ++ bcells s0 ++ bcells (encI c1') ++ bcells s1 ++ bcells (encI c2') ++ bcells s2 = bcells (c0 ++ encI D.length ++ D.flatMap E1 ++ encI I'.length ++ I'.flatMap E2 ++ encI F'.length ++ F'.flatMap E3) := by
    rw [f0, f1, f2, ← e0, ← e1, ← e2]
    simp only [bcells_app]
  exact retO [105] rfl rfl (rowE e9) rfl
end Go.Fr.Try
