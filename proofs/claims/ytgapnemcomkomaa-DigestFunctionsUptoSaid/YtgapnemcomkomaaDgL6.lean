/- Digest: the statement on functions. -/
import Derived.Test.YtgapnemcomkomaaDgU3
import Derived.Test.YtgapnemcomkomaaDgCode6
set_option linter.unusedVariables false
set_option linter.unusedSimpArgs false
namespace Go.Fr.Try
open Go Go.RowKit Go.Proofs Go.Fr Go.Fr.T Go.Fr.Api
theorem sig_module (f : Fun) (m : Int) : encSig none { f with module := m } = encSig none f := rfl
theorem fun_module (f : Fun) (m : Int) : encFun none { f with module := m } = encFun none f := rfl
theorem sig_more (f : Fun) (m : Int) (more : List Ty) (bl : List Block) (h : f.arity ≤ f.locals.length) : encSig none { f with module := m, locals := f.locals ++ more, blocks := bl } = encSig none f := by
  have e : argsOf { f with module := m, locals := f.locals ++ more, blocks := bl } = argsOf f := by
    unfold argsOf
    simp only [List.length_append]
    rw [List.take_append_of_le_length (by omega)]
    congr 2
    omega
  simp only [encSig, e]
theorem bulk_app (a b : List G) : G.bulkAll (a ++ b) = G.bulkAll a + G.bulkAll b := by
  induction a with
  | nil => simp [G.bulkAll]
  | cons x a ih => simp only [List.cons_append, G.bulkAll, ih]; omega
theorem wf_app {a b : List (List C)} (h : Wf (.sl a)) (k : Wf (.sl b)) (hl : (a ++ b).length ≤ maxLen) : Wf (.sl (a ++ b)) := by
  simp only [Wf] at h k ⊢
  exact ⟨hl, WfSS_iff.2 fun es he => (List.mem_append.1 he).elim (WfSS_iff.1 h.2 es) (WfSS_iff.1 k.2 es)⟩
set_option maxRecDepth 10000 in
theorem t6 (f : Fun) (m : Int) (more : List Ty) (bl : List Block) (hb : f.g.bulk + G.bulkAll (more.map Ty.g) + G.bulkAll (bl.map Block.g) ≤ 1048576) : CallsT P 6 [.agg (funC f), IC m, .sl (more.map tyC), .sl (bl.map blockC)] [] (Ret [] (.bool true)) := by
  have h11 := t11
  have h10 := t10
  have h13 := t13 f
  have h13' := t13 { f with module := m }
  have h13'' := t13 { f with module := m, locals := f.locals ++ more, blocks := bl }
  have hname : f.name.size ≤ 1048576 := by
    have : f.name.size + 1 ≤ f.g.bulk := by simp only [Fun.g, G.bulk, G.bulkAll]; omega
    omega
  have hs1 := encFun_le (po := none) trivial f
  have hs3 := encFun_le (po := none) trivial { f with module := m, locals := f.locals ++ more, blocks := bl }
  have hb3 : ({ f with module := m, locals := f.locals ++ more, blocks := bl } : Fun).g.bulk ≤ 1048576 := by
    have e : f.g.bulk = 9 + f.name.size + G.bulkAll (f.bounds.map Bound.g) + f.result.g.bulk + G.bulkAll (f.locals.map Ty.g) + G.bulkAll (f.blocks.map Block.g) + G.bulkAll (f.ties.map I) := by
      simp only [Fun.g, G.bulk, G.bulkAll]; omega
    simp only [Fun.g, G.bulk, G.bulkAll, List.map_append, bulk_app]
    omega
  have hlb : f.locals.length + more.length ≤ 1048576 := by
    have h1 := bulk_map (f := Ty.g) more
    have h2 := bulk_map (f := Ty.g) f.locals
    have : G.bulkAll (f.locals.map Ty.g) ≤ f.g.bulk := by simp only [Fun.g, G.bulk, G.bulkAll]; omega
    omega
  rw [sig_module, fun_module] at h13'
  have hsm := sig_more f m more bl
  generalize encFun none { f with module := m, locals := f.locals ++ more, blocks := bl } = w3 at h13'' hs3
  generalize encSig none { f with module := m, locals := f.locals ++ more, blocks := bl } = s3 at h13'' hsm
  generalize encFun none f = w1 at h13 h13' hs1
  generalize encSig none f = s1 at h13 h13' hsm
  generalize smallL = sm at h10
  have hfc : funC { f with module := m, locals := f.locals ++ more, blocks := bl } = [.str f.name, IC m, IC f.params, .sl (f.bounds.map boundC), IC f.arity, IC f.result.kind, IC f.result.id, .sl (f.result.args.map tyC), .sl (f.locals.map tyC ++ more.map tyC), .sl (bl.map blockC), .sl (ics f.ties)] := by simp only [funC, List.map_append]
  rw [hfc] at h13''
  refine callsT_facts Try.func6 yfacts6 rfl fun hw _ => ?_
  have hwf := hw.1
  have z1 : w1.length ≤ 2 ^ 46 := by have := hs1 hwf hname; omega
  have z3 : w3.length ≤ 2 ^ 46 := by
    have := hs3 (by
      refine ⟨hwf.1, hw.2.1, hwf.2.2.1, hwf.2.2.2.1, hwf.2.2.2.2.1, hwf.2.2.2.2.2.1, hwf.2.2.2.2.2.2.1, hwf.2.2.2.2.2.2.2.1, ?_, hw.2.2.2.1, hwf.2.2.2.2.2.2.2.2.2.2.1, trivial⟩
      show Wf (.sl ((f.locals ++ more).map tyC))
      rw [List.map_append]
      refine wf_app hwf.2.2.2.2.2.2.2.2.1 hw.2.2.1 ?_
      simp only [List.length_append, List.length_map, maxLen]
      omega) hname
    omega
  refine callP t9 rfl fun _ => ?_
  refine callB (h11 f) rfl fun b _ => ?_
  refine brn_split (fun _ => ?_) (fun _ => ?_)
  · exact retP rfl rfl
  refine callP (h10 more) rfl fun _ => ?_
  refine brn_split (fun _ => ?_) (fun _ => ?_)
  · exact retP rfl rfl
  refine callB (h11 ⟨⟨#[]⟩, 0, 0, [], 0, .mk 0 0 [], [], bl, []⟩) rfl fun b _ => ?_
  refine brn_split (fun _ => ?_) (fun _ => ?_)
  · exact retP rfl rfl
  refine brn_p (fun _ => ?_) (fun hle => ?_)
  · exact retP rfl rfl
  have hle : f.arity ≤ f.locals.length := by
    have : ¬ f.arity > ((f.locals.map tyC).length : Int) := hle
    rw [List.length_map] at this
    omega
  refine callP (h13 z1) rfl fun _ => ?_
  refine callP (h13' z1) rfl fun _ => ?_
  refine AppT.mk ?_ ?_ ?_ ?_
  · intro es he
    obtain ⟨x, _, rfl⟩ := List.mem_map.1 he
    exact tyC_len x
  · show 0 + (f.locals.map tyC).length ≤ maxLen
    simp only [List.length_map, maxLen]; omega
  · show (0 + (f.locals.map tyC).length) * 40 ≤ _
    rw [List.length_map]; omega
  refine AppT.mk ?_ ?_ ?_ ?_
  · intro es he
    obtain ⟨x, _, rfl⟩ := List.mem_map.1 he
    exact tyC_len x
  · show (f.locals.map tyC).length + (more.map tyC).length ≤ maxLen
    simp only [List.length_map, maxLen]; omega
  · show ((f.locals.map tyC).length + (more.map tyC).length) * 40 ≤ _
    rw [List.length_map, List.length_map]; omega
  refine callF [54] [] [] (h13'' z3) ⟨[], rfl, rfl, rfl, rfl, rfl, fun _ _ => ?_⟩
  have q3 := hsm hle
  refine brn_p (fun _ => ?_) (fun h => (h rfl).elim)
  refine brn_p (fun _ => ?_) (fun h => (h rfl).elim)
  have e : decide (foldN (bytesN s1) = foldN (bytesN s3)) = true := decide_eq_true (by rw [q3])
  exact retP rfl (congrArg C.bool e)
end Go.Fr.Try
