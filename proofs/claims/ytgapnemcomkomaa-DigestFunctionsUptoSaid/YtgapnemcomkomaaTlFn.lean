/- The evaluator over data speaks of functions. -/
import Derived.Test.YtgapnemcomkomaaTlCode
set_option linter.unusedVariables false
set_option linter.unusedSimpArgs false
namespace Go.Fr.T
open Go Go.RowKit Go.Fr

section
variable {P : Program} {G : Nat → Option (Nat × TypeId)} {F : Frz} {L : Loc} {ρ : Env} {M : TL} {τ : TEnv} {a : Act} {w : World}

theorem ret_sound (ht : TS G F L ρ M τ) : ∀ {rs : List RV} {K : List C → Prop}, retT M τ rs K → retV L ρ rs (fun vs => ∃ cs, Rels F L cs vs ∧ K cs)
  | [], K, h => ⟨[], by simp only [Rels], h⟩
  | (t, none) :: l, K, h => by
    simp only [retT] at h
    simp only [retV]
    refine retV_imp (ret_sound ht h) ?_
    rintro vs ⟨cs, h1, h2⟩
    exact ⟨_, by simp only [Rels]; exact ⟨_, _, rfl, cel_rel' (ht.env t), h1⟩, h2⟩
  | (t, some (agg, n)) :: l, K, h => by
    simp only [retT] at h
    simp only [retV]
    split at h
    case h_2 => exact h.elim
    rename_i k off hk
    split at h
    case h_2 => exact h.elim
    rename_i ty cs hM
    split at h
    case h_2 => exact h.elim
    rename_i hl
    obtain ⟨e1, _⟩ := inv_own (x := .t t) ht.env hk
    have e1 : ρ t = .own k off := e1
    obtain ⟨g, vs, e2, hr⟩ := tl_box ht.tl hM
    have hr2 := (hr.drop off).take n
    simp only [e1, e2, len_of (show ((vs.drop off).take n).length = n by rw [hr2.len]; exact lenC_eq hl)]
    refine retV_imp (ret_sound ht h) ?_
    rintro us ⟨ds, h1, h2⟩
    refine ⟨_, ?_, h2⟩
    simp only [Rels]
    have := cel_rel' (asC_rel (agg := agg) hr2)
    exact ⟨_, _, rfl, this, h1⟩
where
  retV_imp {L : Loc} {ρ : Env} : ∀ {rs : List RV} {K K' : List Value → Prop}, retV L ρ rs K → (∀ vs, K vs → K' vs) → retV L ρ rs K'
  | [], K, K', h, hk => hk _ h
  | (t, none) :: l, K, K', h, hk => by
    simp only [retV] at h ⊢
    exact retV_imp h fun vs => hk _
  | (t, some (agg, n)) :: l, K, K', h, hk => by
    simp only [retV] at h ⊢
    generalize ρ t = z at h ⊢
    split at h
    case h_2 => exact h.elim
    rename_i k off
    generalize L.get k = y at h ⊢
    split at h
    case h_2 => exact h.elim
    rename_i cs
    generalize len? ((cs.drop off).take n) n = b at h ⊢
    cases b
    · exact h.elim
    · exact retV_imp h fun vs => hk _
theorem res_rel {cs : List C} {vs : List Value} (h : Rels F L cs vs) : Rel F L (resT cs) (resVal vs) := by
  match cs, vs, h with
  | [], vs, h =>
    simp only [Rels] at h
    subst h
    simp only [resT, resVal, Rel]
    exact ⟨[], rfl, by simp only [Rels]⟩
  | [c], vs, h =>
    simp only [Rels] at h
    obtain ⟨v, vs', rfl, h1, rfl⟩ := h
    exact h1
  | c1 :: c2 :: cs, vs, h =>
    have h' := h
    simp only [Rels] at h'
    obtain ⟨v, vs', rfl, h1, v2, vs2, rfl, h2⟩ := h'
    simp only [resT, resVal, Rel]
    exact ⟨_, rfl, h⟩
theorem ResA.mono' {Li : List Own} {R : List TO → C → Prop} : ∀ F G L v, Frz.le F G → ResA Li R F L v → ResA Li R G L v := by
  rintro F G L v hF ⟨Mo, c, q1, q2, q3, q4, q5⟩
  exact ⟨Mo, c, q1, q2.mono hF, q3.mono hF, q4, q5⟩
theorem argT_get : ∀ (l : List C) (k j : Nat), argT k l j = if k ≤ j then (l[j - k]?).getD .und else .und
  | [], k, j => by simp [argT]
  | v :: l, k, j => by
    simp only [argT, tput_eq]
    by_cases h : j = k
    · subst h; simp
    · rw [if_neg h, argT_get l (k + 1) j]
      by_cases h1 : k ≤ j
      · rw [if_pos (by omega), if_pos h1, show j - k = (j - (k + 1)) + 1 by omega, List.getElem?_cons_succ]
      · rw [if_neg (by omega), if_neg h1]

theorem canR_rel {c : C} {v : Value} (h : Rel F L c v) : Rel F L c.canR v := by
  cases c <;> first
    | exact h
    | exact can_rel (c := .nils) h
    | exact slx_sl h
    | (simp only [Rel] at h
       obtain ⟨vs, h1, h2⟩ := h
       simp only [C.canR, Rel]
       first
         | exact ⟨vs, h1, cans_rel h2⟩
         | exact ⟨vs, h1, h2.map fun c _ v => canA_rel⟩)

theorem callsT_facts {f : FuncId} {fn : Func} {sc : SCode} {A : Ann} {rs : List RV} {args : List C} {Lin : List TO} {R : List TO → C → Prop} (hf : P.funcs[f]? = some fn) (hfacts : factsOf P A fn = some (sc, A.n, rs, false)) (hlen : Nat.ble args.length A.n = true)
    (h : WfS args → (∀ o ∈ Lin, o.Wf) → evalTC P sc (fun _ _ _ => False) (fun L ρ => retT L ρ rs fun vs => RetT Lin L (resT vs) R) (fun L ρ => retT L ρ rs fun vs => RetT Lin L (resT vs) R) (tinp Lin) (argT 0 args)) : CallsT P f args Lin R := by
  unfold factsOf at hfacts
  split at hfacts
  case h_2 => cases hfacts
  rename_i c hb
  split at hfacts
  case h_2 => cases hfacts
  rename_i sc' rs' hlow hres
  injection hfacts with hfacts
  injection hfacts with e1 e2
  injection e2 with e2 e3
  injection e3 with e3 hname
  subst e1 e3
  refine ⟨fun F Li vs hl htl ha => ⟨⟨fn, hf, by rw [hb]; rfl, hname⟩, ResA.mono', fun w hs => ?_⟩⟩
  refine calls_of_wp hf hb ?_
  have hwo : ∀ o ∈ Lin, o.Wf := by
    intro o ho
    obtain ⟨i, hi⟩ := List.mem_iff_getElem?.1 ho
    have := htl (1000 + i)
    rw [tinp_get, inp_get, if_pos (by omega), if_pos (by omega), show 1000 + i - 1000 = i by omega, hi] at this
    cases e : Li[i]? with
    | none => rw [e] at this; exact this.elim
    | some p => rw [e] at this; exact RelO.wf this
  have h := h ha.wf hwo
  have hla := ha.len
  have hlen := Nat.le_of_ble_eq_true hlen
  -- the frame
  have key : ∀ j, ∃ sv, RelV F (inp Li) (argT 0 args j) sv ∧ conc (inp Li) sv = (vs.toArray ++ Array.replicate (fn.ntmps - vs.toArray.size) undef).getD j undef ∧ (∀ k off, sv = .own k off → ∃ g t cs, (inp Li).get k = some (.box g t cs)) ∧ (∀ ad i, sv = .el ad i → ad ≠ none) := by
    intro j
    rw [argT_get]
    simp only [Nat.zero_le, if_true, Nat.sub_zero, Array.getD_eq_getD_getElem?]
    cases e : args[j]? with
    | some c =>
      have hlt : j < vs.length := by rw [hla]; exact (List.getElem?_eq_some_iff.1 e).1
      obtain ⟨s1, s2, s3, s4⟩ := svOf_ok (ha.at e (List.getElem?_eq_getElem hlt))
      refine ⟨_, s1, ?_, s3, fun ad i e => absurd e (s4 ad i)⟩
      rw [s2, Array.getElem?_append_left (by simpa using hlt)]
      simp [hlt]
    | none =>
      have hge : vs.length ≤ j := by rw [hla]; exact List.getElem?_eq_none_iff.1 e
      refine ⟨.v undef, relV_und, ?_, fun _ _ e => (by cases e), fun _ _ e => (by cases e)⟩
      rw [Array.getElem?_append_right (by simpa using hge)]
      simp only [Array.getElem?_replicate, conc]
      split <;> rfl
  let ρ0 : Env := fun j => (key j).choose
  have he : EnvOk (inp Li) ρ0 { tmps := vs.toArray ++ Array.replicate (fn.ntmps - vs.toArray.size) undef, defers := [] } :=
    ⟨fun t => (key t).choose_spec.2.1.symm, fun t k off e => (key t).choose_spec.2.2.1 k off e, fun t ad j e => (key t).choose_spec.2.2.2 ad j e⟩
  let G : Nat → Option (Nat × TypeId) := fun k => match (inp Li).get k with | some (.box g t _) => some (g, t) | _ => none
  have hG1 : ∀ k g t cs, (inp Li).get k = some (.box g t cs) → G k = some (g, t) := fun k g t cs e => by simp only [G, e]
  have hkp : Kp G (inp Li) := by
    intro k g t e
    simp only [G] at e
    split at e
    · rename_i g' t' cs h
      injection e with e
      injection e with e1 e2
      subst e1 e2
      exact ⟨cs, h⟩
    · cases e
  have ht : TS G F (inp Li) ρ0 (tinp Lin) (argT 0 args) := ⟨htl, fun j => (key j).choose_spec.1, hkp⟩
  refine wp_mono (evalTC_sound c hlow hs he ht (by simp [e2]; omega) rfl h) ?_
  intro e a' w' hq
  have fin : ∀ {a0 : Act}, Next2 A.n F (inp Li) w a0 (asgOf c) (Both G (fun L ρ => retT L ρ rs' fun vs => RetT Lin L (resT vs) R)) a' w' → a'.defers = [] ∧ ∃ v, (results fn a'.tmps).run P w' = .ok v w' ∧
      ∃ v' F' Lo, Ending.returned v = .returned v' ∧ St F' (inp Lo) w' ∧ Step F (inp Li) w F' (inp Lo) w' ∧ ResA Li R F' Lo v' := by
    rintro a0 ⟨F', L', ρ', g1, g2, g3, g4, g5, g6, M', τ', g7, hret⟩
    obtain ⟨us, hm, cs, hcs, ⟨fz, ko, hK⟩⟩ := retV_run g1 g2 hres (ret_sound g7 hret)
    have ht2 : TS G F' L' ρ' M' (fun _ => .any) := ⟨g7.tl, fun _ => trivial, g7.kp⟩
    obtain ⟨F2, L2, M2, τ2, args2, k1, k2, k3, k4, k5, M3, c2, c3, Mo, q1, q23, q4, q5, q6, q7⟩ := frzK_sound g1 g2 ht2 (by simp only [Rels]; exact ⟨_, [], rfl, res_rel hcs, rfl⟩) hK
    subst q1
    simp only [Rels] at k5
    obtain ⟨v, vs', ev, hv, rfl⟩ := k5
    injection ev with ev _
    subst ev
    have hw3 : ∃ L3, St F2 L3 w' ∧ Step F2 L2 w' F2 L3 w' ∧ RelTL F2 L3 M3 ∧ Rel F2 L3 c3 (resVal us) ∧ ∀ k g t cs, L2.get k = some (.box g t cs) → M3.get k ≠ none → L3.get k = some (.box g t cs) := by
      rcases q23 with ⟨rfl, rfl⟩ | ⟨q2, q3⟩
      · exact ⟨L2, k1, Step.refl _ _ _, k4.tl, hv, fun k g t cs h _ => h⟩
      · obtain ⟨b1, b2⟩ := gives_St k1 k4.tl q2
        refine ⟨_, b1, b2, gives_tl k4.tl q2, leC_rel k4.tl q3 hv, fun k g t cs h hne => ?_⟩
        rw [mkL_get]
        cases e : M3.get k with
        | none => exact absurd e hne
        | some o => simp only [h]
    obtain ⟨L3, b1, b2, htl3, hv3, hbx⟩ := hw3
    obtain ⟨Lo, d1, d2, d3⟩ := tl_sub htl3 q4
    have hno := nodup?_eq q5
    have hk3 : ∀ k g t, G k = some (g, t) → ∃ cs, (M3.get k ≠ none → L3.get k = some (.box g t cs)) := by
      intro k g t e
      obtain ⟨cs, h⟩ := k4.kp k g t e
      exact ⟨cs, fun hne => hbx _ _ _ _ h hne⟩
    refine ⟨g4, resVal us, ?_, resVal us, F2, Lo, rfl, b1.handed d1 hno, ?_, Mo.map (TO.mapC (C.ren (toIn ko 1000))), c3.canR.ren (toIn ko 1000), by simp [d2], tl_inp htl3 d2 d1 d3, (canR_rel hv3).ren (inp_sub d1), ?_, q7 (by simp only [WfS]; exact ⟨hv3.wf, trivial⟩)⟩
    · rw [results_eq]
      rw [Array.mapM_eq_mapM_toList]
      simp only [Sem.run_bind, Sem.run_map]
      rw [hm]
      simp only [Result.andThen_ok, Sem.run_pure]
      congr 1
      match us with
      | [] => rfl
      | [t] => rfl
      | t :: u :: r =>
        simp only [resVal]
        rw [dif_neg (by simp)]
    · have hst := (g5.trans k3).trans b2
      obtain ⟨x1, x2⟩ := sub_get d1
      refine ⟨hst.le, hst.os, hst.tape, hst.output, hst.size, hst.same, hst.frz, fun b hb => hst.own b ?_⟩
      obtain ⟨j, p, e, hb⟩ := hb
      rw [inp_get] at e
      split at e
      case isFalse => cases e
      have hlt : j - 1000 < Lo.length := (List.getElem?_eq_some_iff.1 e).1
      have hk : ko[j - 1000]? = some (ko[j - 1000]'(by omega)) := List.getElem?_eq_getElem (by omega)
      exact ⟨_, p, by rw [x2 _ _ hk]; exact e, hb⟩
    · intro i g t cs hi
      have hlt : i < Lin.length := by rw [← hl]; exact (List.getElem?_eq_some_iff.1 hi).1
      have hin : (inp Li).get (1000 + i) = some (.box g t cs) := by rw [inp_get, if_pos (by omega), show 1000 + i - 1000 = i by omega]; exact hi
      have hr := htl (1000 + i)
      rw [tinp_get, if_pos (by omega), show 1000 + i - 1000 = i by omega, hin, List.getElem?_eq_getElem hlt] at hr
      cases hLi : Lin[i] with
      | row => rw [hLi] at hr; exact hr.elim
      | box t' cs' =>
        obtain ⟨k', y1, y2⟩ := boxesAt_eq q6 i t' cs' (by rw [List.getElem?_eq_getElem hlt, hLi])
        rw [List.getElem?_range' hlt] at y1
        injection y1 with y1
        obtain ⟨x1, x2⟩ := sub_get d1
        obtain ⟨z1, z2⟩ := tsub_get q4
        have hlt2 : i < Mo.length := by rw [z1]; exact (List.getElem?_eq_some_iff.1 y2).1
        have hM3 : M3.get k' ≠ none := by rw [z2 i k' y2, List.getElem?_eq_getElem hlt2]; simp
        have hk' : k' = 1000 + i := by omega
        subst hk'
        obtain ⟨cs2, h2⟩ := hk3 _ g t (hG1 _ _ _ _ hin)
        exact ⟨cs2, by rw [← x2 i _ y2]; exact h2 hM3⟩
  cases e with
  | normal => exact fin hq
  | ret => exact fin hq
  | exit j => obtain ⟨F', L', ρ', _, _, _, _, _, _, M', τ', _, h⟩ := hq; exact h.elim
  | goto l => exact hq.elim
  | panic c => exact hq.elim
  | outgrown => exact hq.elim
end
end Go.Fr.T
