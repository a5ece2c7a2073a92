/- Part of the proofs of the statements of this seat. -/
import Derived.Test.YthfdbepkalpplaaFW2
import Derived.Test.YthfdbepkalpplaaFW1
import Derived.ChangeArms
import Derived.DataReads
import Derived.Carry
import Derived.ChangeSame
import Derived.WalkKit
import Derived.ProofKit
import Derived.OpenShut
import Derived.Tactics
import Derived.Tactics2
import Derived.Defers
import Derived.Recover
import Derived.OneCell
set_option maxRecDepth 10000
set_option linter.unusedVariables false
set_option linter.unusedSimpArgs false
namespace Go.Fr.T
open Go Go.RowKit Go.Fr
section
variable {P:Program} {PS:Pan} {G:Nat → Option (Nat × TypeId)} {F:Frz} {L:Loc} {ρ:Env} {M:TL} {τ:TEnv} {a:Act} {w:World} {Q:Exit → Act → World → Prop} {o:Oper}
theorem evals_env {L2:Loc} (he:EnvOk L ρ a) (he2:EnvOk L2 ρ a):∀ xs:List X,evals L2 ρ xs = evals L ρ xs
 | [] => rfl
 | x :: xs => by
  have:val L2 ρ x = val L ρ x:=by
   cases x with
   | t n => exact (he2.eq n).symm.trans (he.eq n)
   | c v => rfl
   | fn f => rfl
   | mt nm n =>
    simp only [val,ev]
    cases ρ n <;> rfl
  simp only [evals,this,evals_env he he2 xs]
theorem callT_sound {f:Nat} {args:List C} {vs:List Value} {K:TL → TEnv → C → Prop} (hs:St F L w) (he:EnvOk L ρ a) (ht:TS G F L ρ M τ) (ha:Rels F L args vs) (h:CallT P f args M τ K) :
  ∃ F' L',St F' L' w ∧ EnvOk L' ρ a ∧ Step F L w F' L' w ∧ CallPt P f vs F' L' (fun F' L' v => ∃ M' τ' c,TS G F' L' ρ M' τ' ∧ RelV F' L' c (.v v) ∧ K M' τ' c):=by
 cases h with
 | inpl ks Lin R h1 h2 h3 h4 => exact ⟨F,L,hs,he,Step.refl _ _ _,sim_callI ht ha h1 h2 h3 h4⟩
 | mk h =>
 obtain ⟨fz,ks,ko,h⟩:=h
 obtain ⟨F1,L1,M1,τ1,args1,g1,g2,g3,g4,g5,M2,Lin,R,k1,k3,k4,k5,k6,k7,k8,k9⟩:=frzK_sound hs he ht ha h
 rcases k1 with rfl | ⟨k1,k2⟩
 ·exact ⟨F1,_,g1,g2,g3,sim_call0 g4 g5 k3 k4 k5 k6 k7 k8 k9⟩
 ·obtain ⟨e1,e2,e3,e4,e5⟩:=gives_sound g1 g2 g4 k1 k2
  exact ⟨F1,_,e1,e2,g3.trans e3,sim_call0 e4 (g5.ext (Frz.le_refl F1) e5) k3 k4 k5 k6 k7 k8 k9⟩
theorem callXT_sound {f:Nat} {args:List C} {vs:List Value} {K:TL → TEnv → C → Prop} (hs:St F L w) (he:EnvOk L ρ a) (ht:TS G F L ρ M τ) (ha:Rels F L args vs) (h:CallXT P PS f args M τ K) :
  ∃ F' L',St F' L' w ∧ EnvOk L' ρ a ∧ Step F L w F' L' w ∧ CallXPt P (PXT G PS) f vs F' L' (fun F' L' v => ∃ M' τ' c,TS G F' L' ρ M' τ' ∧ RelV F' L' c (.v v) ∧ K M' τ' c):=by
 obtain ⟨fz,ks,ko,h⟩:=h
 obtain ⟨F1,L1,M1,τ1,args1,g1,g2,g3,g4,g5,M2,Lin,R,Pp,k1,k3,k4,k5,k6,k7,khb,k8,k8',k9⟩:=frzK_sound hs he ht ha h
 rcases k1 with rfl | ⟨k1,k2⟩
 ·exact ⟨F1,_,g1,g2,g3,sim_callX g4 g5 k3 k4 k5 k6 k7 khb k8 k8' k9⟩
 ·obtain ⟨e1,e2,e3,e4,e5⟩:=gives_sound g1 g2 g4 k1 k2
  exact ⟨F1,_,e1,e2,g3.trans e3,sim_callX e4 (g5.ext (Frz.le_refl F1) e5) k3 k4 k5 k6 k7 khb k8 k8' k9⟩
theorem cvalL_rel:∀ {cs:List C} {vs us:List Value},cvalL cs = some us → Rels F L cs vs → vs = us
 | [],vs,us,h,r => by simp only [cvalL,Option.some.injEq] at h; simp only [Rels] at r; rw [r,← h]
 | c :: cs,vs,us,h,r => by
  simp only [Rels] at r
  obtain ⟨v,vs',rfl,r1,r2⟩:=r
  cases c <;> simp only [cvalL,reduceCtorEq] at h
  all_goals
   split at h
   case h_2 => cases h
   rename_i us' hu
   injection h with h
   subst h
   rw [cvalL_rel hu r2]
   simp only [Rel] at r1
   first
    | rw [r1.1]
    | rw [r1]
theorem ifcV_rel {c:C} {u v:Value} (h:ifcV c = some u) (r:Rel F L c v):v = u ∧ ∃ t x,u = .iface t x:=by
 cases c <;> simp only [ifcV,reduceCtorEq] at h
 case ifc t c =>
  simp only [Rel] at r
  obtain ⟨x,rfl,r⟩:=r
  cases c <;> simp only [ifcV,reduceCtorEq] at h
  case agg cs =>
   split at h
   case h_2 => cases h
   rename_i us hu
   injection h with h
   subst h
   simp only [Rel] at r
   obtain ⟨vs,rfl,r⟩:=r
   rw [cvalL_rel hu r]
   exact ⟨rfl,_,_,rfl⟩
  all_goals
   injection h with h
   subst h
   simp only [Rel] at r
   first
    | (obtain ⟨rfl,_⟩:=r; exact ⟨rfl,_,_,rfl⟩)
    | (subst r; exact ⟨rfl,_,_,rfl⟩)
theorem Next1.from {F1:Frz} {L1:Loc} {K:Kont} {a':Act} {w':World} (hst:Step F L w F1 L1 w) (h:Next1 F1 L1 w a K a' w'):Next1 F L w a K a' w':=by
 obtain ⟨F',L',ρ',h1,h2,h3,h4,h5,h6⟩:=h
 exact ⟨F',L',ρ',h1,h2,h3,h4,hst.trans h5,h6⟩
theorem opT_sound {own:Bool} {s:SOp} {K:TK} (hs:St F L w) (he:EnvOk L ρ a) (ht:TS G F L ρ M τ) (hd:∀ k,o.dst = some k → k < a.tmps.size) (hl:lowOp P own o.op = some s)
  (hK:evalTOp P s o.dst M τ K):o.wp P a w (Next1 F L w a (Both G K)) Q:=by
 by_cases hc:callOp s = true
 ·cases s <;> simp only [callOp,Bool.false_eq_true] at hc
  ·rename_i f args
   simp only [evalTOp,fT_eq,fl_eq,fca_eq] at hK
   obtain ⟨F1,L1,g1,g2,g3,g4⟩:=callT_sound hs he ht (evals_rel ht.env args) hK
   refine Oper.wp_mono (fun a' w' => Next1.from g3) (evalOp_sound g1 g2 hd hl ?_)
   simp only [evalOp]
   rw [evals_env he g2]
   exact CallPt.imp g4 fun F' L' v ⟨M',τ',c,h1,h2,h3⟩ => h1.kput h2 h3
  ·rename_i fx args
   simp only [evalTOp,fT_eq,fl_eq,fca_eq] at hK
   split at hK
   ·rename_i f fi ca hx
    obtain ⟨fi',ca',e1,h1,h2⟩:=inv_fn ht.env hx
    obtain ⟨F1,L1,g1,g2,g3,g4⟩:=callT_sound hs he ht (conc_vals ht.env h1 h2 args) hK
    refine Oper.wp_mono (fun a' w' => Next1.from g3) (evalOp_sound g1 g2 hd hl ?_)
    simp only [evalOp,e1,fnOf]
    rw [evals_env he g2]
    exact CallPt.imp g4 fun F' L' v ⟨M',τ',c,h1,h2,h3⟩ => h1.kput h2 h3
   ·rename_i nm c hx
    split at hK
    case h_2 => exact hK.elim
    rename_i t c
    obtain ⟨u,e1,hr⟩:=inv_mval ht.env hx
    simp only [Rel] at hr
    obtain ⟨u',rfl,hu⟩:=hr
    obtain ⟨f',hm,hK⟩:=hK
    have hargs:Rels F L (c :: evalsT τ args) ([u'] ++ evals L ρ args ++ []):=by
     rw [List.append_nil]
     simp only [List.cons_append,List.nil_append,Rels]
     exact ⟨_,_,rfl,hu.lift,evals_rel ht.env args⟩
    obtain ⟨F1,L1,g1,g2,g3,g4⟩:=callT_sound hs he ht hargs hK
    refine Oper.wp_mono (fun a' w' => Next1.from g3) (evalOp_sound g1 g2 hd hl ?_)
    have e2:fnOf P (ev ρ fx) = some (f',[u'],[]):=by rw [e1]; simp only [fnOf,hm]
    simp only [evalOp,e2]
    rw [evals_env he g2]
    exact CallPt.imp g4 fun F' L' v ⟨M',τ',c,h1,h2,h3⟩ => h1.kput h2 h3
   ·rename_i t nm hx
    split at hK
    case h_2 => exact hK.elim
    rename_i t' c rest hif hargs0
    have e1:=inv_mof ht.env hx
    obtain ⟨f',hm,hK⟩:=hK
    have hrs:=evals_rel ht.env args
    rw [hargs0] at hrs
    simp only [Rels,Rel] at hrs
    obtain ⟨v0,rest',hev,⟨u,rfl,hu⟩,hrest⟩:=hrs
    have hargs:Rels F L (c :: rest) (u :: rest'):=by
     simp only [Rels]
     exact ⟨_,_,rfl,hu.lift,hrest⟩
    obtain ⟨F1,L1,g1,g2,g3,g4⟩:=callT_sound hs he ht hargs hK
    refine Oper.wp_mono (fun a' w' => Next1.from g3) (evalOp_sound g1 g2 hd hl ?_)
    have hi:∃ ms,P.underlying t = some (.interface ms):=by
     unfold isIfc at hif
     split at hif
     ·exact ⟨_,by assumption⟩
     ·cases hif
    obtain ⟨ms,hi⟩:=hi
    have e2:fnOf P (ev ρ fx) = none:=by rw [e1]; rfl
    have e3:fnOfM P (ev ρ fx) (evals L1 ρ args) = some (f',u :: rest'):=by
     rw [evals_env he g2,hev,e1]
     simp only [fnOfM,hi,hm]
    simp only [evalOp,e2,e3]
    exact CallPt.imp g4 fun F' L' v ⟨M',τ',c,h1,h2,h3⟩ => h1.kput h2 h3
   ·exact hK.elim
 ·exact evalOp_sound hs he hd hl (simOp (by simpa using hc) ht hK)
theorem opP_sound {own:Bool} {s:SOp} {K:TK} (hs:St F L w) (he:EnvOk L ρ a) (ht:TS G F L ρ M τ) (hd:∀ k,o.dst = some k → k < a.tmps.size) (hl:lowOp P own o.op = some s)
  (hK:evalTP P PS s o.dst M τ K) (hQ:∀ v ch w' F' L',Chn v ch → St F' L' w' → Step F L w F' L' w' → PXT G PS L' v → Q (.panic ch) a w'):o.wp P a w (Next1 F L w a (Both G K)) Q:=by
 cases s <;> simp only [evalTP] at hK <;> try (exact hK.elim)
 ·rename_i f args
  simp only [fT_eq,fl_eq,fca_eq] at hK
  obtain ⟨F1,L1,g1,g2,g3,g4⟩:=callXT_sound hs he ht (evals_rel ht.env args) hK
  refine Oper.wp_mono (fun a' w' => Next1.from g3) (pcall_sound (PX:=PXT G PS) g1 g2 hd hl ?_ fun v ch w' F' L' qc q1 q2 q3 => hQ v ch w' F' L' qc q1 (g3.trans q2) q3)
  rw [evals_env he g2]
  exact CallXPt.imp g4 fun F' L' v ⟨M',τ',c,h1,h2,h3⟩ => h1.kput h2 h3
 ·rename_i fx args
  split at hK
  case h_2 => exact hK.elim
  rename_i f fi ca hx
  simp only [fT_eq,fl_eq,fca_eq] at hK
  obtain ⟨fi',ca',e1,h1,h2⟩:=inv_fn ht.env hx
  obtain ⟨F1,L1,g1,g2,g3,g4⟩:=callXT_sound hs he ht (conc_vals ht.env h1 h2 args) hK
  refine Oper.wp_mono (fun a' w' => Next1.from g3) (pcallV_sound (PX:=PXT G PS) g1 g2 hd hl e1 ?_ fun v ch w' F' L' qc q1 q2 q3 => hQ v ch w' F' L' qc q1 (g3.trans q2) q3)
  rw [evals_env he g2]
  exact CallXPt.imp g4 fun F' L' v ⟨M',τ',c,h1,h2,h3⟩ => h1.kput h2 h3
 ·rename_i x
  obtain ⟨u,h1,hhb,h2⟩:=hK
  have hr:=cel_rel' (ev_rel ht.env x)
  have hc:(evT τ x).cel = evT τ x:=by
   cases e:evT τ x <;> rw [e] at h1 <;> first | rfl | (simp only [ifcV,reduceCtorEq] at h1; done)
  rw [hc] at hr
  obtain ⟨e1,t,y,e2⟩:=ifcV_rel h1 hr
  refine pan_sound (PX:=PXT G PS) hs he hl (t:=t) (u:=y) (e1.trans e2) ⟨ht.kp,by rw [← e2]; exact h2,hb_L ht.tl hhb fun k g t cs _ e => e⟩ hQ
theorem norm_sound (he:EnvOk L ρ a) (ht:TS G F L ρ M τ) (d:Option Nat):∃ ρ',EnvOk L ρ' a ∧ TS G F L ρ' M (normD d τ):=by
 cases d with
 | none => exact ⟨ρ,he,ht⟩
 | some k =>
  have hn:∀ j,normD (some k) τ j = if j = k then (τ k).toOwn else τ j:=by
   intro j
   simp only [normD]
   cases h:Nat.beq j k with
   | true => have:=Nat.eq_of_beq_eq_true h; simp [this]
   | false => have:=beq_f h; simp [this]
  by_cases hv:∃ k' off,τ k = .ownv k' off
  ·obtain ⟨k',off,hv⟩:=hv
   have hr:=ht.env k
   rw [hv] at hr
   simp only [RelV,Rel] at hr
   obtain ⟨v,hsv,g,t,cs,e2,rfl⟩:=hr
   have e1:conc L (ρ k) = .pointer (some ⟨g,off,none⟩):=hsv.conc
   refine ⟨Fr.put (some k) (.own k' off) ρ,⟨fun t' => ?_,fun t' j o e => ?_,fun t' ad j e => ?_⟩,ht.tl,fun j => ?_,ht.kp,ht.glob⟩
   ·rw [he.eq t',put_eq]
    simp only []
    split
    ·rename_i h; subst h; rw [e1]; simp only [conc,e2]
    ·rfl
   ·rw [put_eq] at e
    simp only [] at e
    split at e
    ·injection e with q1 q2; subst q1; exact ⟨g,t,cs,e2⟩
    ·exact he.own _ _ _ e
   ·rw [put_eq] at e
    simp only [] at e
    split at e
    ·cases e
    ·exact he.el _ _ _ e
   ·rw [hn,put_eq]
    simp only []
    split
    ·rw [hv]; exact ⟨rfl,g,t,cs,e2⟩
    ·exact ht.env j
  ·refine ⟨ρ,he,ht.tl,fun j => ?_,ht.kp,ht.glob⟩
   rw [hn]
   split
   ·rename_i h
    subst h
    have:(τ j).toOwn = τ j:=by
     cases e:τ j <;> first | rfl | exact absurd ⟨_,_,e⟩ hv
    rw [this]
    exact ht.env j
   ·exact ht.env j
def FzOk (G:Nat → Option (Nat × TypeId)) (PS:Pan) (ks:List Nat):Prop:=∀ k ∈ ks,G k ≠ none → 1000 ≤ k ∨ mem? (PS.hb.map (·.1)) k = true
theorem FzOk.left {ks ks':List Nat} (h:FzOk G PS (ks ++ ks')):FzOk G PS ks:=fun k hk => h k (List.mem_append.2 (.inl hk))
theorem FzOk.right {ks ks':List Nat} (h:FzOk G PS (ks ++ ks')):FzOk G PS ks':=fun k hk => h k (List.mem_append.2 (.inr hk))
theorem frzKeysS_app:∀ (a b:List SStep),frzKeysS (a ++ b) = frzKeysS a ++ frzKeysS b
 | [],b => rfl
 | .frz k :: a,b => by simp only [List.cons_append,frzKeysS,frzKeysS_app a b]
 | .op _ _ _ :: a,b => by simp only [List.cons_append,frzKeysS,frzKeysS_app a b]
 | .pc _ _ _ :: a,b => by simp only [List.cons_append,frzKeysS,frzKeysS_app a b]
theorem frz_step {k:Nat} {K:TK} {ih:TL → TEnv → TK → Prop} (hs:St F L w) (he:EnvOk L ρ a) (ht:TS G F L ρ M τ) (hG:G k ≠ none → 1000 ≤ k ∨ mem? (PS.hb.map (·.1)) k = true) (h:stepT P PS false (.frz k) ih M τ K) :
  ∃ F' L' ρ' M' τ',St F' L' w ∧ EnvOk L' ρ' a ∧ Step F L w F' L' w ∧ TS G F' L' ρ' M' τ' ∧ ih M' τ' K:=by
 simp only [stepT,fT_eq] at h
 split at h
 ·rename_i t sz els hk
  obtain ⟨F1,L1,g1,g2,g3,g4,_⟩:=frz1_sound hs he ht hk
  exact ⟨F1,L1,ρ,_,_,g1,g2,g3,g4,h⟩
 ·rename_i t cs hk
  split at h
  case h_2 => exact h.elim
  rename_i e1 e2 e3 e4
  have hGk:G k = none:=by
   cases e:G k with
   | none => rfl
   | some x =>
    rcases hG (by rw [e]; simp) with h1 | h1
    ·rw [Nat.blt_eq] at e3; omega
    ·rw [e4] at h1; cases h1
  obtain ⟨F1,L1,ρ1,g1,g2,g3,g4⟩:=frb1_sound hs he ht hk e1 e2 hGk
  exact ⟨F1,L1,ρ1,_,_,g1,g2,g3,g4,h⟩
 ·exact h.elim
theorem evalTOps_sound {A:Ann} {r:Nat} {ops:Array Oper} {K:TK}:∀ (is:List Nat) {ss:List SStep} {F:Frz} {L:Loc} {ρ:Env} {M:TL} {τ:TEnv} {a:Act} {w:World},lowReg P A r ops is = some ss → FzOk G PS (frzKeysS ss) → St F L w → EnvOk L ρ a → TS G F L ρ M τ → a.tmps.size = A.n →
  evalTOps P PS false ss M τ K → (∀ a' w',Next2 A.n F L w a (dstsOf ops is) (Both G K) a' w' → Q .normal a' w') →
  (∀ v ch a' w',Chn v ch → PNext A.n F L w a (dstsOf ops is) (PXT G PS) v a' w' → Q (.panic ch) a' w') → wpOps P ops Q is a w:=by
 intro is
 induction is with
 | nil =>
  intro ss F L ρ M τ a w hl hfz hs he ht hn hK hQ hQp
  simp only [lowReg,Option.some.injEq] at hl
  subst hl
  exact hQ a w ⟨F,L,ρ,hs,he,hn,rfl,Step.refl _ _ _,fun _ _ => rfl,M,τ,ht,hK⟩
 | cons i is ih =>
  intro ss F L ρ M τ a w hl hfz hs he ht hn hK hQ hQp
  simp only [lowReg] at hl
  split at hl
  case h_1 => cases hl
  rename_i o hi
  split at hl
  case h_2 => cases hl
  rename_i g s rest hg hop hdst hrest
  injection hl with hl
  subst hl
  have ghosts:∀ (ks:List Nat) {x:SStep} {F:Frz} {L:Loc} {ρ:Env} {M:TL} {τ:TEnv},FzOk G PS (frzKeysS (ks.map SStep.frz ++ x :: rest)) → St F L w → EnvOk L ρ a → TS G F L ρ M τ → evalTOps P PS false (ks.map SStep.frz ++ x :: rest) M τ K →
    ∃ F' L' ρ' M' τ',St F' L' w ∧ EnvOk L' ρ' a ∧ Step F L w F' L' w ∧ TS G F' L' ρ' M' τ' ∧ evalTOps P PS false (x :: rest) M' τ' K:=by
   intro ks
   induction ks with
   | nil => intro x F L ρ M τ _ hs he ht h; exact ⟨F,L,ρ,M,τ,hs,he,Step.refl _ _ _,ht,h⟩
   | cons k ks ihk =>
    intro x F L ρ M τ hz hs he ht h
    simp only [List.map_cons,List.cons_append,evalTOps_cons] at h
    obtain ⟨F1,L1,ρ1,M1,τ1,g1,g2,g3,g4,h⟩:=frz_step hs he ht (hz k (by simp [frzKeysS])) h
    obtain ⟨F2,L2,ρ2,M2,τ2,k1,k2,k3,k4,k5⟩:=ihk (fun j hj => hz j (by simp only [List.map_cons,List.cons_append,frzKeysS]; exact List.mem_cons_of_mem _ hj)) g1 g2 g4 h
    exact ⟨F2,L2,ρ2,M2,τ2,k1,k2,g3.trans k3,k4,k5⟩
  have hfzr:FzOk G PS (frzKeysS rest):=fun j hj => hfz j (by
   rw [frzKeysS_app]
   refine List.mem_append.2 (.inr ?_)
   cases hp:panAt A.pan r i <;> simp only [mkStep,frzKeysS] <;> exact hj)
  obtain ⟨F1,L1,ρ1,M1,τ1,hs1,he1,hst1,ht1,hK⟩:=ghosts _ hfz hs he ht hK
  clear ghosts he ht
  revert he1 ht1
  generalize ρ1 = ρ
  intro he1 ht1
  have hd:∀ k,o.dst = some k → k < a.tmps.size:=by
   intro k hk
   rw [hk] at hdst
   rw [hn]
   have h2:Nat.blt k A.n = true:=hdst
   simpa using h2
  have hdsts:dstsOf ops (i :: is) = match o.dst with | some d => d :: dstsOf ops is | none => dstsOf ops is:=by
   simp only [dstsOf,hi,Option.bind_some]
   rfl
  have notin:∀ j,j ∉ dstsOf ops (i :: is) → o.dst ≠ some j ∧ j ∉ dstsOf ops is:=by
   intro j hj
   rw [hdsts] at hj
   cases ho:o.dst with
   | none => rw [ho] at hj; exact ⟨by simp,hj⟩
   | some d =>
    rw [ho] at hj
    simp only [List.mem_cons,not_or] at hj
    exact ⟨by simp; exact fun e => hj.1 e.symm,hj.2⟩
  have after:∀ {KK:Prop},o.wp P a w (fun a' w' => Next1 F1 L1 w a (Both G fun M' τ' => evalTOps P PS false rest M' (normD o.dst τ') K) a' w') Q → o.wp P a w (wpOps P ops Q is) Q:=by
   intro _ this
   refine Oper.wp_mono ?_ (wp_frame (asg:=[]) this)
   rintro a' w' ⟨⟨F',L',ρ',g1,g2,g3,g4,g5,M',τ',g6,g7⟩,hfr⟩
   obtain ⟨ρ2,n1,n2⟩:=norm_sound g2 g6 o.dst
   refine ih hrest hfzr g1 n1 n2 (by rw [g3,hn]) g7 ?_ ?_
   ·rintro a'' w'' ⟨F'',L'',ρ'',k1,k2,k3,k4,k5,k6,k7⟩
    refine hQ a'' w'' ⟨F'',L'',ρ'',k1,k2,k3,k4.trans g4,(hst1.trans g5).trans k5,fun j hj => ?_,k7⟩
    obtain ⟨n1,n2⟩:=notin j hj
    rw [k6 j n2,hfr j n1]
   ·rintro v ch a'' w'' kc ⟨F'',L'',k1,k2,k3,k4,k5,k6⟩
    refine hQp v ch a'' w'' kc ⟨F'',L'',k1,(hst1.trans g5).trans k2,k3,k4.trans g4,fun j hj => ?_,k6⟩
    obtain ⟨n1,n2⟩:=notin j hj
    rw [k5 j n2,hfr j n1]
  have goOn:∀ {τ1:TEnv},TS G F1 L1 ρ M1 τ1 → evalTOp P s o.dst M1 τ1 (fun M' τ' => evalTOps P PS false rest M' (normD o.dst τ') K) → o.wp P a w (wpOps P ops Q is) Q:=by
   intro τ1 ht1 hK
   exact after (KK:=True) (opT_sound (Q:=Q) hs1 he1 ht1 hd hop hK)
  have goOnP:∀ {τ1:TEnv},TS G F1 L1 ρ M1 τ1 → evalTP P PS s o.dst M1 τ1 (fun M' τ' => evalTOps P PS false rest M' (normD o.dst τ') K) → o.wp P a w (wpOps P ops Q is) Q:=by
   intro τ1 ht1 hK
   exact after (KK:=True) (opP_sound (Q:=Q) hs1 he1 ht1 hd hop hK fun v ch w' F' L' qc q1 q2 q3 => hQp v ch a w' qc ⟨F',L',q1,hst1.trans q2,hn,rfl,fun _ _ => rfl,q3⟩)
  have skip:∀ {τ1:TEnv},TS G F1 L1 ρ M1 τ1 → evalTOps P PS false rest M1 (tput o.dst .und τ1) K → wpOps P ops Q is (a.put o.dst undef) w:=by
   intro τ1 ht1 hK
   have he2:=he1.put hd (v:=undef) (x:=.v undef) rfl noOwn noEl (boxKeep L1)
   refine ih hrest hfzr hs1 he2 (ht1.put (c:=.und) (sv:=.v undef) ⟨_,rfl,by simp only [Rel]⟩ o.dst) (by rw [size_put,hn]) hK ?_ ?_
   ·rintro a'' w'' ⟨F'',L'',ρ'',k1,k2,k3,k4,k5,k6,k7⟩
    refine hQ a'' w'' ⟨F'',L'',ρ'',k1,k2,k3,k4.trans (defers_put _ _ _),hst1.trans k5,fun j hj => ?_,k7⟩
    obtain ⟨n1,n2⟩:=notin j hj
    rw [k6 j n2,put_frame n1]
   ·rintro v ch a'' w'' kc ⟨F'',L'',k1,k2,k3,k4,k5,k6⟩
    refine hQp v ch a'' w'' kc ⟨F'',L'',k1,hst1.trans k2,k3,k4.trans (defers_put _ _ _),fun j hj => ?_,k6⟩
    obtain ⟨n1,n2⟩:=notin j hj
    rw [k5 j n2,put_frame n1]
  simp only [wpOps,hi]
  cases hpn:panAt A.pan r i with
  | false =>
   rw [hpn] at hK
   cases hgd:o.guard with
   | none =>
    rw [hgd] at hg
    simp only [lowGuard,Option.some.injEq] at hg
    subst hg
    simp only [mkStep,evalTOps_cons,stepT] at hK
    rw [if_pos (by simp [Region.wanted,hgd])]
    exact .inl (goOn ht1 hK)
   | some p =>
    obtain ⟨j,want⟩:=p
    rw [hgd] at hg
    simp only [lowGuard] at hg
    split at hg
    case h_2 => cases hg
    rename_i d hjd
    injection hg with hg
    subst hg
    simp only [mkStep,evalTOps_cons,stepT] at hK
    split at hK
    ·rename_i b hb
     have hb':ρ d = .v (.bool b):=inv_bool (x:=.t d) ht1.env hb
     have htmp:=he1.eq d
     rw [hb'] at htmp
     have hy:yielded ops a.tmps j = some b:=by
      simp only [yielded,hjd,Option.bind_some,getD_bool htmp]
     have hw:Region.wanted o (yielded ops a.tmps) = (b == want):=by
      simp only [Region.wanted,hgd,hy]
      cases b <;> cases want <;> rfl
     have htp:TS G F1 L1 ρ M1 (tput (some d) (.bool b) τ1):=by
      have:=ht1.put (c:=.bool b) (sv:=.v (.bool b)) ⟨_,rfl,by simp only [Rel]⟩ (some d)
      rwa [put_same hb'] at this
     rw [hw]
     cases b <;> simp only [brn] at hK
     ·cases want
      ·exact .inl (goOn htp hK)
      ·exact skip htp hK
     ·cases want
      ·exact skip htp hK
      ·exact .inl (goOn htp hK)
    ·rename_i hb
     have hr:=ht1.env d
     rw [hb] at hr
     simp only [RelV,Rel] at hr
     obtain ⟨v,hb',rfl⟩:=hr
     have htmp:=he1.eq d
     rw [hb'] at htmp
     have hy:yielded ops a.tmps j = none:=by
      simp only [yielded,hjd,Option.bind_some]
      rw [Array.getD_eq_getD_getElem?] at htmp
      cases e:a.tmps[d]? with
      | none => rfl
      | some v => rw [e] at htmp; simp only [Option.getD_some,conc] at htmp; rw [htmp]; rfl
     have hw:Region.wanted o (yielded ops a.tmps) = false:=by
      simp only [Region.wanted,hgd,hy]; rfl
     rw [hw]
     exact skip ht1 hK
    ·exact hK.elim
  | true =>
   rw [hpn] at hK
   cases hgd:o.guard with
   | none =>
    rw [hgd] at hg
    simp only [lowGuard,Option.some.injEq] at hg
    subst hg
    simp only [mkStep,evalTOps_cons,stepT] at hK
    rw [if_pos (by simp [Region.wanted,hgd])]
    exact .inl (goOnP ht1 hK)
   | some p =>
    obtain ⟨j,want⟩:=p
    rw [hgd] at hg
    simp only [lowGuard] at hg
    split at hg
    case h_2 => cases hg
    rename_i d hjd
    injection hg with hg
    subst hg
    simp only [mkStep,evalTOps_cons,stepT] at hK
    split at hK
    ·rename_i b _ hb
     have hb':ρ d = .v (.bool b):=inv_bool (x:=.t d) ht1.env hb
     have htmp:=he1.eq d
     rw [hb'] at htmp
     have hy:yielded ops a.tmps j = some b:=by
      simp only [yielded,hjd,Option.bind_some,getD_bool htmp]
     have hw:Region.wanted o (yielded ops a.tmps) = (b == want):=by
      simp only [Region.wanted,hgd,hy]
      cases b <;> cases want <;> rfl
     have htp:TS G F1 L1 ρ M1 (tput (some d) (.bool b) τ1):=by
      have:=ht1.put (c:=.bool b) (sv:=.v (.bool b)) ⟨_,rfl,by simp only [Rel]⟩ (some d)
      rwa [put_same hb'] at this
     rw [hw]
     cases b <;> simp only [brn] at hK
     ·cases want
      ·exact .inl (goOnP htp hK)
      ·exact skip htp hK
     ·cases want
      ·exact skip htp hK
      ·exact .inl (goOnP htp hK)
    ·rename_i hb
     have hr:=ht1.env d
     rw [hb] at hr
     simp only [RelV,Rel] at hr
     obtain ⟨v,hb',rfl⟩:=hr
     have htmp:=he1.eq d
     rw [hb'] at htmp
     have hy:yielded ops a.tmps j = none:=by
      simp only [yielded,hjd,Option.bind_some]
      rw [Array.getD_eq_getD_getElem?] at htmp
      cases e:a.tmps[d]? with
      | none => rfl
      | some v => rw [e] at htmp; simp only [Option.getD_some,conc] at htmp; rw [htmp]; rfl
     have hw:Region.wanted o (yielded ops a.tmps) = false:=by
      simp only [Region.wanted,hgd,hy]; rfl
     rw [hw]
     exact skip ht1 hK
    ·exact hK.elim
theorem relV_und:RelV F L .und (.v undef):=⟨_,rfl,by simp only [Rel]⟩
theorem evalOp_imp {o:SOp} {d:Option Nat} {F:Frz} {L:Loc} {ρ:Env} {K K':Kont} (h:evalOp P o d F L ρ K) (hk:∀ F' L' ρ',K F' L' ρ' → K' F' L' ρ'):evalOp P o d F L ρ K':=by
 cases o
 case box t x =>
  simp only [evalOp] at h ⊢
  cases d with
  | none => exact h.elim
  | some k =>
   simp only [] at h ⊢
   generalize L.get k = z at h ⊢
   cases z with
   | none => exact fun g => hk _ _ _ (h g)
   | some _ => exact h.elim
 case boxD t x =>
  simp only [evalOp] at h ⊢
  cases d with
  | none => exact h.elim
  | some k =>
   simp only [] at h ⊢
   generalize L.get k = z at h ⊢
   cases z with
   | none => exact fun g r => hk _ _ _ (h g r)
   | some _ => exact h.elim
 case boxF t x => exact fun g F' a b => hk _ _ _ (h g F' a b)
 case alloc t z =>
  simp only [evalOp] at h ⊢
  cases d with
  | none => exact h.elim
  | some k =>
   simp only [] at h ⊢
   generalize L.get k = z at h ⊢
   cases z with
   | none => exact fun g => hk _ _ _ (h g)
   | some _ => exact h.elim
 case allocD t z =>
  simp only [evalOp] at h ⊢
  cases d with
  | none => exact h.elim
  | some k =>
   simp only [] at h ⊢
   generalize L.get k = z at h ⊢
   cases z with
   | none => exact fun g r => hk _ _ _ (h g r)
   | some _ => exact h.elim
 case mkF e n sz xs =>
  simp only [evalOp] at h ⊢
  generalize parts? L ρ sz xs = z at h ⊢
  cases z with
  | true => exact fun g F' a b => hk _ _ _ (h g F' a b)
  | false => exact h.elim
 case mkFD e n sz xs =>
  simp only [evalOp] at h ⊢
  generalize parts? L ρ sz xs = z at h ⊢
  cases z with
  | true => exact fun g F' a b c => hk _ _ _ (h g F' a b c)
  | false => exact h.elim
 case mkR e n sz xs =>
  simp only [evalOp] at h ⊢
  generalize parts? L ρ sz xs = z at h ⊢
  cases z with
  | false => exact h.elim
  | true =>
   cases d with
   | none => exact h.elim
   | some k =>
    simp only [] at h ⊢
    generalize L.get k = z at h ⊢
    cases z with
    | none => exact fun g => hk _ _ _ (h g)
    | some _ => exact h.elim
 case s2b e x =>
  simp only [evalOp] at h ⊢
  generalize ev ρ x = z at h ⊢
  split at h
  ·exact fun g c F' a b e => hk _ _ _ (h g c F' a b e)
  ·exact h.elim
 case makeS e sz b zs l c =>
  simp only [evalOp] at h ⊢
  generalize ev ρ l = z1 at h ⊢
  generalize ev ρ c = z2 at h ⊢
  split at h
  ·rename_i k
   generalize L.get k = z at h ⊢
   cases z with
   | none => exact ⟨h.lo,h.le,h.hi,h.max,fun g => hk _ _ _ (h.out g)⟩
   | some _ => exact h.elim
  ·exact h.elim
 case storeX n a x =>
  simp only [evalOp] at h ⊢
  generalize len? (vcells (val L ρ x)) n = z1 at h ⊢
  generalize ones? (vcells (val L ρ x)) = z2 at h ⊢
  generalize ev ρ a = z3 at h ⊢
  split at h
  ·rename_i k off
   generalize L.get k = z at h ⊢
   split at h
   ·rename_i t cs
    generalize memB t ((cs.drop off).take n) n = b at h ⊢
    cases b
    ·exact h.elim
    ·exact fun r => hk _ _ _ (h r)
   ·exact h.elim
  ·exact ⟨let ⟨k,v,t,sz,m,xs,ad,c,h1,h2,h3,h4,h5,h6⟩:=h.out; ⟨k,v,t,sz,m,xs,ad,c,h1,h2,h3,h4,h5,fun r => hk _ _ _ (h6 r)⟩⟩
  ·exact ⟨let ⟨k,v,t,sz,m,xs,ad,c,h1,h2,h3,h4,h5,h6⟩:=h.out; ⟨k,v,t,sz,m,xs,ad,c,h1,h2,h3,h4,h5,fun r => hk _ _ _ (h6 r)⟩⟩
  ·exact h.elim
 case store n a x =>
  simp only [evalOp] at h ⊢
  generalize len? (vcells (val L ρ x)) n = z1 at h ⊢
  generalize ones? (vcells (val L ρ x)) = z2 at h ⊢
  generalize ev ρ a = z3 at h ⊢
  split at h
  ·rename_i k off
   generalize L.get k = z at h ⊢
   split at h
   ·rename_i t cs
    generalize memB t ((cs.drop off).take n) n = b at h ⊢
    cases b
    ·exact h.elim
    ·exact hk _ _ _ h
   ·exact h.elim
  ·exact ⟨let ⟨k,v,t,sz,m,xs,ad,c,h1,h2,h3,h4,h5,h6⟩:=h.out; ⟨k,v,t,sz,m,xs,ad,c,h1,h2,h3,h4,h5,hk _ _ _ h6⟩⟩
  ·exact ⟨let ⟨k,v,t,sz,m,xs,ad,c,h1,h2,h3,h4,h5,h6⟩:=h.out; ⟨k,v,t,sz,m,xs,ad,c,h1,h2,h3,h4,h5,hk _ _ _ h6⟩⟩
  ·exact h.elim
 case storeD n a x =>
  simp only [evalOp] at h ⊢
  generalize len? (vcells (val L ρ x)) n = z1 at h ⊢
  generalize ones? (vcells (val L ρ x)) = z2 at h ⊢
  generalize ev ρ a = z3 at h ⊢
  split at h
  ·rename_i k off
   generalize L.get k = z at h ⊢
   split at h
   ·rename_i t cs
    generalize memB t ((cs.drop off).take n) n = b at h ⊢
    cases b
    ·exact h.elim
    ·exact hk _ _ _ h
   ·exact h.elim
  ·exact h.elim
 case storeK key n a x =>
  obtain ⟨n',a',x',k,off,g,t,cs,ho,e1,e2,e3,e4,e5,h⟩:=evalOp_st rfl h
  exact evalOp_st' ho e1 e2 e3 e4 e5 (hk _ _ _ h)
 case makeSD e sz n zs =>
  simp only [evalOp] at h ⊢
  cases d with
  | none => exact h.elim
  | some k =>
   simp only [] at h ⊢
   split at h
   ·exact fun g r => hk _ _ _ (h g r)
   ·exact h.elim
 case call f args =>
  simp only [evalOp] at h ⊢
  exact CallPt.imp h fun _ _ _ h => hk _ _ _ h
 case callV f args =>
  simp only [evalOp] at h ⊢
  generalize fnOf P (ev ρ f) = z at h ⊢
  split at h
  ·exact CallPt.imp h fun _ _ _ h => hk _ _ _ h
  ·generalize fnOfM P (ev ρ f) (evals L ρ args) = z at h ⊢
   split at h
   ·exact CallPt.imp h fun _ _ _ h => hk _ _ _ h
   ·exact h.elim
 case look x i =>
  simp only [evalOp] at h ⊢
  generalize ev ρ x = z1 at h ⊢
  generalize ev ρ i = z2 at h ⊢
  split at h
  ·exact ⟨let ⟨k,r,b,h1,h2,h3⟩:=h.out; ⟨k,r,b,h1,h2,hk _ _ _ h3⟩⟩
  ·exact h.elim
 case callO f args =>
  simp only [evalOp] at h ⊢
  exact CallPt.imp h fun _ _ _ h r => hk _ _ _ (h r)
 case callVO f args =>
  simp only [evalOp] at h ⊢
  generalize fnOf P (ev ρ f) = z at h ⊢
  split at h
  ·exact CallPt.imp h fun _ _ _ h r => hk _ _ _ (h r)
  ·exact h.elim
 case callD f args =>
  simp only [evalOp] at h ⊢
  exact CallDPt.imp' h fun _ _ _ h => hk _ _ _ h
 case callVD f args =>
  simp only [evalOp] at h ⊢
  generalize fnOf P (ev ρ f) = z at h ⊢
  split at h
  ·exact CallDPt.imp' h fun _ _ _ h => hk _ _ _ h
  ·exact h.elim
 case app e sz b zs s x =>
  simp only [evalOp] at h ⊢
  generalize ev ρ s = z1 at h ⊢
  generalize ev ρ x = z2 at h ⊢
  split at h
  ·exact ⟨let ⟨kd,n,xs,m,news,h1,h2,h3,h4,h5,h6⟩:=h.out; ⟨kd,n,xs,m,news,h1,h2,h3,h4,h5,fun v hv => hk _ _ _ (h6 v hv)⟩⟩
  ·exact h.elim
 case appX e sz b zs s x =>
  simp only [evalOp] at h ⊢
  generalize ev ρ s = z1 at h ⊢
  generalize ev ρ x = z2 at h ⊢
  split at h
  ·exact ⟨let ⟨kd,n,xs,m,news,h1,h2,h3,h4,h5,h6⟩:=h.out; ⟨kd,n,xs,m,news,h1,h2,h3,h4,h5,fun v hv r => hk _ _ _ (h6 v hv r)⟩⟩
  ·exact h.elim
 case appD e sz b zs s x =>
  simp only [evalOp] at h ⊢
  generalize ev ρ s = z1 at h ⊢
  generalize ev ρ x = z2 at h ⊢
  split at h
  ·exact ⟨let ⟨kd,n,xs,m,news,h1,h2,h3,h4,h5,h6⟩:=h.out; ⟨kd,n,xs,m,news,h1,h2,h3,h4,h5,fun v hv r => hk _ _ _ (h6 v hv r)⟩⟩
  ·exact h.elim
 case appS e s x =>
  simp only [evalOp] at h ⊢
  generalize ev ρ s = z1 at h ⊢
  generalize ev ρ x = z2 at h ⊢
  split at h
  ·exact ⟨let ⟨kd,n,xs,h1,h2,h3,h4⟩:=h.out; ⟨kd,n,xs,h1,h2,h3,fun v hv => hk _ _ _ (h4 v hv)⟩⟩
  ·exact h.elim
 case appZ e b ki s x =>
  simp only [evalOp] at h ⊢
  generalize ev ρ s = z1 at h ⊢
  generalize ev ρ x = z2 at h ⊢
  split at h
  ·split at h
   ·exact ⟨let ⟨kd,n,xs,h1,h2,h3,h4⟩:=h.out; ⟨kd,n,xs,h1,h2,h3,fun v hv => hk _ _ _ (h4 v hv)⟩⟩
   ·exact h.elim
  ·exact h.elim
 case copy e sz dd x =>
  simp only [evalOp] at h ⊢
  generalize ev ρ dd = z1 at h ⊢
  generalize ev ρ x = z2 at h ⊢
  split at h
  ·exact ⟨let ⟨k,n,v,nr,xs,ad,cr,cd,j,h1,h2,h3,h4,h5⟩:=h.out; ⟨k,n,v,nr,xs,ad,cr,cd,j,h1,h2,h3,h4,hk _ _ _ h5⟩⟩
  ·obtain ⟨⟨k,n,v,nr,xs,ad,cr,cd,j,m,a,c,news,h1,h2,h3,h4,h5,h6,h7,h8,h9⟩ | ⟨da,n,cd,a,m,c,h1,h2,h3,h9⟩⟩:=h
   ·exact ⟨.inl ⟨k,n,v,nr,xs,ad,cr,cd,j,m,a,c,news,h1,h2,h3,h4,h5,h6,h7,h8,hk _ _ _ h9⟩⟩
   ·exact ⟨.inr ⟨da,n,cd,a,m,c,h1,h2,h3,hk _ _ _ h9⟩⟩
  ·exact h.elim
 case copyX e sz dd x =>
  simp only [evalOp] at h ⊢
  generalize ev ρ dd = z1 at h ⊢
  generalize ev ρ x = z2 at h ⊢
  split at h
  ·obtain ⟨⟨k,n,v,nr,xs,ad,cr,cd,j,m,a,c,news,h1,h2,h3,h4,h5,h6,h7,h8,h9⟩ | ⟨da,n,cd,a,m,c,h1,h2,h3,h9⟩⟩:=h
   ·exact ⟨.inl ⟨k,n,v,nr,xs,ad,cr,cd,j,m,a,c,news,h1,h2,h3,h4,h5,h6,h7,h8,fun r => hk _ _ _ (h9 r)⟩⟩
   ·exact ⟨.inr ⟨da,n,cd,a,m,c,h1,h2,h3,fun r => hk _ _ _ (h9 r)⟩⟩
  ·exact h.elim
 case pan x => simp only [evalOp] at h
 case dead => simp only [evalOp] at h
 case mkmap =>
  simp only [evalOp] at h ⊢
  cases d with
  | none => exact h.elim
  | some k =>
   simp only [] at h ⊢
   generalize L.get k = z at h ⊢
   cases z with
   | none => exact fun g => hk _ _ _ (h g)
   | some _ => exact h.elim
 case mupd str x i v =>
  simp only [evalOp] at h ⊢
  generalize ev ρ x = z1 at h ⊢
  split at h
  ·obtain ⟨k,cs,h1,h2,h3,cs',h4,h5⟩:=h
   exact ⟨k,cs,h1,h2,h3,cs',h4,hk _ _ _ h5⟩
  ·exact h.elim
 case mrange x =>
  simp only [evalOp] at h ⊢
  generalize ev ρ x = z1 at h ⊢
  split at h
  ·rename_i g k
   generalize L.get k = z at h ⊢
   cases z with
   | none =>
    obtain ⟨km,cs,h1,h2,h3⟩:=h
    exact ⟨km,cs,h1,h2,fun gi => hk _ _ _ (h3 gi)⟩
   | some _ => exact h.elim
  ·exact h.elim
 case mnext x =>
  simp only [evalOp] at h ⊢
  generalize ev ρ x = z1 at h ⊢
  split at h
  ·split at h
   ·rename_i hL
    obtain ⟨km,cs,h1,h2,h3,h4,h5⟩:=h.out
    exact ⟨km,cs,h1,h2,h3,fun j e a b => hk _ _ _ (h4 j e a b),fun a => hk _ _ _ (h5 a)⟩
   ·exact h.elim
  ·exact h.elim
 case mentry x =>
  simp only [evalOp] at h ⊢
  generalize ev ρ x = z1 at h ⊢
  split at h
  ·split at h
   ·obtain ⟨km,cs,j,e,h1,h2,h3,h4,h5,h6⟩:=h.out
    exact ⟨km,cs,j,e,h1,h2,h3,h4,h5,hk _ _ _ h6⟩
   ·exact h.elim
  ·exact h.elim
 all_goals
  simp only [evalOp] at h ⊢
  exact outV_imp h fun v h => hk _ _ _ h
theorem drawn_call {s s':SOp} (h:drawn s = some s'):callOp s' = false:=by
 cases s <;> simp only [drawn,Option.some.injEq,reduceCtorEq] at h <;> subst h <;> rfl
theorem drawnK_call {bx:List Nat} {s s':SOp} (h:drawnK bx s = some s'):callOp s' = false:=by
 unfold drawnK at h
 split at h
 ·split at h
  ·split at h
   ·injection h with h; subst h; rfl
   ·cases h
  ·cases h
 ·injection h with h; subst h; rfl
 ·split at h <;> (injection h with h; subst h; rfl)
 ·split at h <;> (injection h with h; subst h; rfl)
 ·exact drawn_call h
theorem drawnL_call {fl bx:List Nat} {bk:List (Nat × Nat)} {s s':SOp} (h:drawnL fl bk bx s = some s'):callOp s' = false:=by
 rcases drawnL_K h with h | ⟨a,n,i,rfl,rfl⟩ | ⟨a,n,i,key,rfl,rfl⟩ | ⟨a,n,i,rfl,rfl⟩ | ⟨i,rfl,rfl⟩
 ·exact drawnK_call h
 ·rfl
 ·rfl
 ·rfl
 ·rfl
theorem drawnO_call {s s':SOp} (h:drawnO s = some s'):callOp s' = false:=by
 cases s <;> simp only [drawnO,Option.some.injEq,reduceCtorEq] at h <;> subst h <;> rfl
theorem lowRegD_ops {A:Ann} {ops:Array Oper}:∀ {is:List Nat} {ss:List SStep},lowRegD P A ops is = some ss → ∀ s ∈ ss,(∃ d o g,s = .op d o g ∧ callOp o = false) ∨ ∃ d o,s = .pc d o none ∧ isXC o = true:=by
 intro is
 induction is with
 | nil => intro ss h s hs; simp only [lowRegD,Option.some.injEq] at h; subst h; cases hs
 | cons i is ih =>
  intro ss h s hs
  simp only [lowRegD] at h
  split at h
  case h_2 => cases h
  rename_i s0 ss0 h1 h2
  injection h with h
  subst h
  rcases List.mem_cons.1 hs with rfl | hs
  ·unfold lowD at h1
   split at h1
   case h_1 => cases h1
   split at h1
   case h_2 => cases h1
   split at h1
   ·split at h1
    case h_3 => cases h1
    ·injection h1 with h1
     exact .inr ⟨_,_,h1.symm,rfl⟩
    ·injection h1 with h1
     exact .inr ⟨_,_,h1.symm,rfl⟩
   ·split at h1
    ·split at h1
     case h_2 => cases h1
     rename_i s' hs'
     injection h1 with h1
     exact .inl ⟨_,s',_,h1.symm,drawnO_call hs'⟩
    ·split at h1
     case h_2 => cases h1
     rename_i s' hs'
     split at h1
     case h_2 => cases h1
     injection h1 with h1
     exact .inl ⟨_,s',_,h1.symm,drawnL_call hs'⟩
  ·exact ih h2 s hs
theorem allOp_pc:∀ {ss:List SStep},allOp ss = true → ∀ d o g,SStep.pc d o g ∉ ss
 | [],_,d,o,g,h => by cases h
 | .op _ _ _ :: l,ha,d,o,g,h => by
  rcases List.mem_cons.1 h with h | h
  ·cases h
  ·exact allOp_pc (ss:=l) ha d o g h
 | .frz _ :: l,ha,d,o,g,h => by cases ha
 | .pc _ _ _ :: l,ha,d,o,g,h => by cases ha
theorem allOp_ops {A:Ann} {ops:Array Oper} {is:List Nat} {ss:List SStep} (hl:lowRegD P A ops is = some ss) (ha:allOp ss = true):∀ s ∈ ss,∃ d o g,s = .op d o g ∧ callOp o = false:=by
 intro s hs
 rcases lowRegD_ops hl s hs with h | ⟨d,o,rfl,_⟩
 ·exact h
 ·exact absurd hs (allOp_pc ha _ _ _)
theorem simOps {K:TK}:∀ (ss:List SStep),(∀ s ∈ ss,∃ d o g,s = SStep.op d o g ∧ callOp o = false) → ∀ {F:Frz} {L:Loc} {ρ:Env} {M:TL} {τ:TEnv},TS G F L ρ M τ → evalTOps P PS true ss M τ K → evalOps P ss F L ρ (Both G K)
 | [],_,F,L,ρ,M,τ,ht,h => ⟨M,τ,ht,h⟩
 | s :: ss,hc,F,L,ρ,M,τ,ht,h => by
  obtain ⟨d,o,g,rfl,ho⟩:=hc s (by simp)
  have hc':∀ s ∈ ss,∃ d o g,s = SStep.op d o g ∧ callOp o = false:=fun s hs => hc s (by simp [hs])
  have goOn:∀ {ρ:Env} {τ:TEnv},TS G F L ρ M τ → evalTOp P o d M τ (fun M' τ' => evalTOps P PS true ss M' τ' K) → evalOp P o d F L ρ (fun F' L' ρ' => evalOps P ss F' L' ρ' (Both G K)):=by
   intro ρ τ ht h
   have:=simOp ho ht h
   exact evalOp_imp this fun F' L' ρ' ⟨M',τ',h1,h2⟩ => simOps ss hc' h1 h2
  cases g with
  | none =>
   simp only [evalTOps_cons,stepT] at h
   simp only [evalOps]
   exact goOn ht h
  | some p =>
   obtain ⟨s,want⟩:=p
   simp only [evalTOps_cons,stepT] at h
   simp only [evalOps]
   split at h
   ·rename_i b hb
    have hb':ρ s = .v (.bool b):=inv_bool (x:=.t s) ht.env hb
    simp only [hb']
    have htp:∀ b',b = b' → TS G F L (Fr.put (some s) (.v (.bool b')) ρ) M (tput (some s) (.bool b') τ):=fun b' _ => ht.put relV_bool (some s)
    have hu:∀ {ρ:Env} {τ:TEnv},TS G F L ρ M τ → TS G F L (Fr.put d (.v undef) ρ) M (tput d .und τ):=fun ht => ht.put relV_und d
    cases b <;> simp only [brn] at h ⊢ <;> cases want <;> simp only [] at h ⊢
    ·exact goOn (htp _ rfl) h
    ·exact simOps ss hc' (hu (htp _ rfl)) h
    ·exact simOps ss hc' (hu (htp _ rfl)) h
    ·exact goOn (htp _ rfl) h
   ·rename_i hb
    have hr:=ht.env s
    rw [hb] at hr
    simp only [RelV,Rel] at hr
    obtain ⟨v,hb',rfl⟩:=hr
    simp only [hb',undef]
    exact simOps ss hc' (ht.put relV_und d) h
   ·exact h.elim
theorem newsT_get:∀ {ss:List SStep},newsT ss M = true → ∀ s ∈ ss,∀ k,newK s = some k → M.get k = none
 | [],_,s,hs,_,_ => by cases hs
 | x :: l,h,s,hs,k,e => by
  unfold newsT at h
  rcases List.mem_cons.1 hs with rfl | hs
  ·rw [e] at h
   simp only [] at h
   cases e2:M.get k with
   | none => rfl
   | some o => rw [e2] at h; cases h
  ·split at h
   ·exact newsT_get h s hs k e
   ·split at h
    ·exact newsT_get h s hs k e
    ·cases h
theorem simOpsX {K:TK} {fb:List Nat}:∀ (ss:List SStep),(∀ s ∈ ss,(∃ d o g,s = SStep.op d o g ∧ callOp o = false) ∨ ∃ d o,s = SStep.pc d o none ∧ isXC o = true) → ∀ {F:Frz} {L:Loc} {ρ:Env} {M:TL} {τ:TEnv},TS G F L ρ M τ → evalTOpsX P PS fb ss M τ K → evalOpsX P (PXT G PS) fb ss F L ρ (Both G K)
 | [],_,F,L,ρ,M,τ,ht,h => ⟨M,τ,ht,h⟩
 | s :: ss,hc,F,L,ρ,M,τ,ht,h => by
  have hc':∀ s ∈ ss,(∃ d o g,s = SStep.op d o g ∧ callOp o = false) ∨ ∃ d o,s = SStep.pc d o none ∧ isXC o = true:=fun s hs => hc s (by simp [hs])
  rcases hc s (by simp) with ⟨d,o,g,rfl,ho⟩ | ⟨d,o,rfl,ho⟩
  case inr =>
   cases o <;> simp only [isXC,Bool.false_eq_true] at ho
   ·rename_i f l
    simp only [evalTOpsX_cons,stepX,evalTX,fT_eq,fl_eq,fca_eq] at h
    simp only [evalOpsX,xTgt]
    refine (sim_callXD ht (evals_rel ht.env l) h).imp fun F' L' v _ _ _ _ _ h => ?_
    obtain ⟨M',τ',c,h1,h2,h3⟩:=h
    exact simOpsX ss hc' (h1.put h2 d) h3
   ·rename_i fx l
    simp only [evalTOpsX_cons,stepX,evalTX] at h
    split at h
    case h_2 => exact h.elim
    rename_i f fi ca hx
    simp only [fT_eq,fl_eq,fca_eq] at h
    obtain ⟨fi',ca',e1,h1,h2⟩:=inv_fn ht.env hx
    simp only [evalOpsX,xTgt,e1]
    refine (sim_callXD ht (conc_vals ht.env h1 h2 l) h).imp fun F' L' v _ _ _ _ _ h => ?_
    obtain ⟨M',τ',c,h1,h2,h3⟩:=h
    exact simOpsX ss hc' (h1.put h2 d) h3
  have goOn:∀ {ρ:Env} {τ:TEnv},TS G F L ρ M τ → evalTOp P o d M τ (fun M' τ' => evalTOpsX P PS fb ss M' τ' K) → evalOp P o d F L ρ (fun F' L' ρ' => evalOpsX P (PXT G PS) fb ss F' L' ρ' (Both G K)):=by
   intro ρ τ ht h
   have:=simOp ho ht h
   exact evalOp_imp this fun F' L' ρ' ⟨M',τ',h1,h2⟩ => simOpsX ss hc' h1 h2
  cases g with
  | none =>
   simp only [evalTOpsX_cons,stepX,stepT] at h
   exact ⟨o,rfl,goOn ht h⟩
  | some p =>
   obtain ⟨s,want⟩:=p
   simp only [evalTOpsX_cons,stepX,stepT] at h
   simp only [evalOpsX,res]
   have hu:∀ {ρ:Env} {τ:TEnv},TS G F L ρ M τ → TS G F L (Fr.put d (.v undef) ρ) M (tput d .und τ):=fun ht => ht.put relV_und d
   have skip:∀ {ρ:Env} {τ:TEnv},TS G F L ρ M τ → evalTOpsX P PS fb ss M (tput d .und τ) K → evalOp P skipOp d F L ρ (fun F' L' ρ' => evalOpsX P (PXT G PS) fb ss F' L' ρ' (Both G K)):=by
    intro ρ τ ht h
    simp only [skipOp,evalOp,outV,ev]
    exact simOpsX ss hc' (hu ht) h
   split at h
   ·rename_i b hb
    have hb':ρ s = .v (.bool b):=inv_bool (x:=.t s) ht.env hb
    have htp:TS G F L ρ M (tput (some s) (.bool b) τ):=by
     have:=ht.put (relV_bool (b:=b)) (some s)
     rwa [Fr.put_same hb'] at this
    simp only [hb']
    cases b <;> simp only [brn] at h ⊢ <;> cases want <;> simp only [reduceCtorEq,↓reduceIte,Option.some.injEq,exists_eq_left'] at h ⊢
    ·exact goOn htp h
    ·exact skip htp h
    ·exact skip htp h
    ·exact goOn htp h
   ·rename_i hb
    have hr:=ht.env s
    rw [hb] at hr
    simp only [RelV,Rel] at hr
    obtain ⟨v,hb',rfl⟩:=hr
    simp only [hb',undef,Option.some.injEq,exists_eq_left']
    exact skip ht h
   ·exact h.elim
theorem putsT_eq:∀ (ls:List Nat) (vs:List C) (τ:TEnv) (j:Nat),putsT ls vs τ j = τ j ∨ ∃ (i:Nat) (c:C),ls[i]? = some j ∧ vs[i]? = some c ∧ putsT ls vs τ j = c
 | [],vs,τ,j => .inl rfl
 | k :: ls,[],τ,j => .inl rfl
 | k :: ls,v :: vs,τ,j => by
  simp only [putsT,tput_eq]
  split
  ·rename_i h; subst h; exact .inr ⟨0,v,by simp,by simp,rfl⟩
  ·rcases putsT_eq ls vs τ j with h | ⟨i,c,h1,h2,h3⟩
   ·exact .inl h
   ·exact .inr ⟨i + 1,c,by simpa using h1,by simpa using h2,h3⟩
theorem holdsT_at {M1:TL}:∀ {ls:List Nat} {vs:List C} {τ:TEnv},holdsT M M1 ls vs τ → ∀ {i j:Nat} {c:C},ls[i]? = some j → vs[i]? = some c → leC M M1 (τ j) c
 | [],vs,τ,h,i,j,c,e,_ => by simp at e
 | k :: ls,[],τ,h,i,j,c,_,e => by simp at e
 | k :: ls,v :: vs,τ,h,i,j,c,e1,e2 => by
  simp only [holdsT] at h
  cases i with
  | zero => simp at e1 e2; subst e1 e2; exact h.1
  | succ i => exact holdsT_at h.2 (by simpa using e1) (by simpa using e2)
theorem holdsT_wf {M1:TL} (ht:TS G F L ρ M τ):∀ {ls:List Nat} {vs:List C},vs.length = ls.length → holdsT M M1 ls vs τ → gives M M1 M1 → WfS vs
 | [],[],_,_,_ => by simp only [WfS]
 | [],v :: vs,hl,_,_ => by simp at hl
 | k :: ls,[],hl,_,_ => by simp at hl
 | k :: ls,v :: vs,hl,h,hg => by
  simp only [holdsT] at h
  simp only [WfS]
  refine ⟨?_,holdsT_wf ht (by simpa using hl) h.2 hg⟩
  have hr:=cel_rel' (ht.env k)
  rcases h.1 with e | ⟨e,_⟩ | ⟨e1,e2⟩ | ⟨e1,k',t,sz,e2,_⟩ | ⟨els,e1,e2⟩
  ·rw [e]; simp only [Wf]
  ·rw [e] at hr
   have:=hr.wf
   revert this
   cases v <;> simp [C.cel,Wf]
  ·rw [e2]; simp [Wf,WfSS]
  ·rw [e2]; simp only [Wf]
  ·rw [e1] at hr
   have:=(slx_sl hr).wf
   rw [e2]; exact this
theorem wf_row {M:TL} (ht:RelTL F L M):∀ {l:TL},(∀ k o,l.get k = some o → M.get k = some o) → ∀ k o,l.get k = some o → o.Wf:=by
 intro l h k o e
 rcases relK_get (ht k) with ⟨c1,_⟩ | ⟨q,p,c1,c2,hr⟩
 ·rw [h k o e] at c1; cases c1
 ·rw [h k o e] at c1
  injection c1 with c1
  subst c1
  exact hr.wf
theorem unrw_leaf {L':Loc} {F':Frz} (hF:F.le F') (hk:∀ k g t cs,L.get k = some (.box g t cs) → ∃ cs',L'.get k = some (.box g t cs')) :
  (∀ c v,C.leaf c = true → Rel F L c v → Rel F' L' (unrwLeaf c) v) ∧ (∀ c sv,C.leaf c = true → RelV F L c sv → RelV F' L' (unrwLeaf c) sv):=by
 have hb:∀ {k:Nat},(∃ g t cs,L.get k = some (.box g t cs)) → ∀ o,L.get k = some o → ∃ o',L'.get k = some o' ∧ Own.like o o':=by
  intro k hg o ho
  obtain ⟨g,t,cs,hg⟩:=hg
  rw [hg] at ho
  injection ho with ho
  subst ho
  obtain ⟨cs',h⟩:=hk k g t cs hg
  exact ⟨_,h,rfl,rfl⟩
 constructor
 ·intro c v hc h
  cases c <;> simp only [C.leaf,Bool.false_eq_true] at hc <;> simp only [unrwLeaf]
  case rw => simp only [Rel]
  case elr => simp only [Rel]
  case own k off =>
   have h':=h
   simp only [Rel] at h'
   obtain ⟨g,t,cs,h1,_⟩:=h'
   refine rel_leaf hF (fun j e => ?_) rfl h
   rcases e with ⟨off,e⟩ | e | e
   ·injection e with e e2; subst e; exact hb ⟨g,t,cs,h1⟩
   ·cases e
   ·cases e
  case mpr k =>
   have h':=h
   simp only [Rel] at h'
   obtain ⟨g,cs,h1,_⟩:=h'
   refine rel_leaf hF (fun j e => ?_) rfl h
   rcases e with ⟨off,e⟩ | e | e
   ·cases e
   ·cases e
   ·injection e with e; subst e; exact hb ⟨g,0,cs,h1⟩
  all_goals
   exact rel_leaf hF (fun j' e => by rcases e with ⟨off,e⟩ | e | e <;> cases e) rfl h
 ·intro c sv hc h
  cases c <;> simp only [C.leaf,Bool.false_eq_true] at hc <;> simp only [unrwLeaf]
  case rw => trivial
  case elr => trivial
  case own k off =>
   have h':=h
   simp only [RelV] at h'
   refine relV_leaf hF (fun j e => ?_) rfl h
   rcases e with ⟨off,e⟩ | ⟨off,e⟩ | e | ⟨a,b,e⟩ | e <;> first | cases e; done | skip
   injection e with e e2
   subst e
   exact hb h'.2
  case ownv k off =>
   have h':=h
   simp only [RelV,Rel] at h'
   obtain ⟨v,_,g,t,cs,h1,_⟩:=h'
   refine relV_leaf hF (fun j e => ?_) rfl h
   rcases e with ⟨off,e⟩ | ⟨off,e⟩ | e | ⟨a,b,e⟩ | e <;> first | cases e; done | skip
   injection e with e e2
   subst e
   exact hb ⟨g,t,cs,h1⟩
  case mpr k =>
   have h':=h
   simp only [RelV,Rel] at h'
   obtain ⟨v,_,g,cs,h1,_⟩:=h'
   refine relV_leaf hF (fun j e => ?_) rfl h
   rcases e with ⟨off,e⟩ | ⟨off,e⟩ | e | ⟨a,b,e⟩ | e <;> first | cases e; done | skip
   injection e with e
   subst e
   exact hb ⟨g,0,cs,h1⟩
  all_goals
   exact relV_leaf hF (fun j' e => by rcases e with ⟨off,e⟩ | ⟨off,e⟩ | e | ⟨a,b,e⟩ | e <;> cases e) rfl h
def svOf (L:Loc) (c:C) (v:Value):SV:=match c with | .own k off => .own k off | .ownv _ _ => .v v | _ => .v v
theorem svOf_ok {c:C} {v:Value} (h:Rel F L c v):RelV F L c (svOf L c v) ∧ conc L (svOf L c v) = v ∧ (∀ k off,svOf L c v = .own k off → ∃ g t cs,L.get k = some (.box g t cs)) ∧ (∀ ad j,svOf L c v ≠ .el ad j):=by
 cases c
 case own k off =>
  simp only [Rel] at h
  obtain ⟨g,t,cs,h,rfl⟩:=h
  refine ⟨⟨rfl,g,t,cs,h⟩,by simp only [svOf,conc,h],fun k' off' e => ?_,fun ad j e => (by cases e)⟩
  injection e with e1 e2
  subst e1
  exact ⟨g,t,cs,h⟩
 case pt es off =>
  simp only [Rel] at h
  obtain ⟨b,o,vs,rfl,h2,h3⟩:=h
  exact ⟨⟨b,o,0,vs,.inl ⟨rfl,rfl⟩,h2,h3⟩,rfl,fun k' off' e => (by cases e),fun ad j e => (by cases e)⟩
 case ownv => exact h.elim
 case elr => exact h.elim
 case any => exact ⟨trivial,rfl,fun k' off' e => (by cases e),fun ad j e => (by cases e)⟩
 all_goals
  exact ⟨⟨v,rfl,h⟩,rfl,fun k' off' e => (by cases e),fun ad j e => (by cases e)⟩
theorem head_env {F0:Frz} {L0:Loc} {ρ0:Env} {τ0:TEnv} {a0 a1:Act} {asg:List Nat} {ls:List Nat} {vs:List C} {L1:Loc} {F1:Frz} (he0:EnvOk L0 ρ0 a0) (ht0:∀ j,RelV F0 L0 (τ0 j) (ρ0 j)) (hF:F0.le F1)
  (hb:∀ k g t cs,L0.get k = some (.box g t cs) → ∃ cs',L1.get k = some (.box g t cs')) (hfr:∀ j,j ∉ asg → a1.tmps.getD j undef = a0.tmps.getD j undef)
  (hv:∀ (i j:Nat) c,ls[i]? = some j → vs[i]? = some c → Rel F1 L1 c (a1.tmps.getD j undef)) :
  ∃ ρ1,EnvOk L1 ρ1 a1 ∧ ∀ j,RelV F1 L1 (putsT ls vs (headE asg τ0) j) (ρ1 j):=by
 have key:∀ j,∃ sv,RelV F1 L1 (putsT ls vs (headE asg τ0) j) sv ∧ conc L1 sv = a1.tmps.getD j undef ∧ (∀ k off,sv = .own k off → ∃ g t cs,L1.get k = some (.box g t cs)) ∧ (∀ ad i,sv = .el ad i → ad ≠ none):=by
  intro j
  rcases putsT_eq ls vs (headE asg τ0) j with h | ⟨i,c,h1,h2,h3⟩
  ·rw [h]
   simp only [headE]
   split
   ·exact ⟨.v (a1.tmps.getD j undef),trivial,rfl,fun _ _ e => (by cases e),fun _ _ e => (by cases e)⟩
   ·rename_i hm
    have hj:j ∉ asg:=fun h => by rw [mem?_eq.2 h] at hm; cases hm
    obtain ⟨u1,u2⟩:=unrw_leaf hF hb
    refine ⟨ρ0 j,RelV.mp u1 u2 3 (ht0 j),?_,?_,he0.el j⟩
    ·rw [hfr j hj,he0.eq j]
     cases e:ρ0 j with
     | v x => rfl
     | el x i => rfl
     | own k off =>
      obtain ⟨g,t,cs,hg⟩:=he0.own j k off e
      obtain ⟨cs',hg'⟩:=hb _ _ _ _ hg
      simp only [conc,hg,hg']
    ·intro k off e
     obtain ⟨g,t,cs,hg⟩:=he0.own j k off e
     obtain ⟨cs',hg'⟩:=hb _ _ _ _ hg
     exact ⟨g,t,cs',hg'⟩
  ·rw [h3]
   obtain ⟨s1,s2,s3,s4⟩:=svOf_ok (hv i j c h1 h2)
   exact ⟨_,s1,s2,s3,fun ad i e => absurd e (s4 ad i)⟩
 refine ⟨fun j => (key j).choose,⟨fun t => ?_,fun t k off e => ?_,fun t ad j e => ?_⟩,fun j => (key j).choose_spec.1⟩
 ·exact (key t).choose_spec.2.1.symm
 ·exact (key t).choose_spec.2.2.1 k off e
 ·exact (key t).choose_spec.2.2.2 ad j e
theorem next2_imp {n:Nat} {F:Frz} {L:Loc} {w:World} {a:Act} {asg:List Nat} {K K':Kont} {a':Act} {w':World} (h:Next2 n F L w a asg K a' w') (hk:∀ {F' L' ρ'},K F' L' ρ' → K' F' L' ρ'):Next2 n F L w a asg K' a' w':=by
 obtain ⟨F',L',ρ',h1,h2,h3,h4,h5,h6,h7⟩:=h
 exact ⟨F',L',ρ',h1,h2,h3,h4,h5,h6,hk h7⟩
theorem ghostsT_sound {P:Program} {PS:Pan} {G:Nat → Option (Nat × TypeId)} {a:Act} {w:World} {rest:List SStep} {K:TK}:∀ (ks:List Nat) {F:Frz} {L:Loc} {ρ:Env} {M:TL} {τ:TEnv},FzOk G PS ks → St F L w → EnvOk L ρ a → TS G F L ρ M τ → evalTOps P PS false (ks.map SStep.frz ++ rest) M τ K →
  ∃ F' L' ρ' M' τ',St F' L' w ∧ EnvOk L' ρ' a ∧ Step F L w F' L' w ∧ TS G F' L' ρ' M' τ' ∧ evalTOps P PS false rest M' τ' K:=by
 intro ks
 induction ks with
 | nil => intro F L ρ M τ _ hs he ht h; exact ⟨F,L,ρ,M,τ,hs,he,Step.refl _ _ _,ht,h⟩
 | cons k ks ihk =>
  intro F L ρ M τ hz hs he ht h
  simp only [List.map_cons,List.cons_append,evalTOps_cons] at h
  obtain ⟨F1,L1,ρ1,M1,τ1,g1,g2,g3,g4,h⟩:=frz_step hs he ht (hz k (by simp)) h
  obtain ⟨F2,L2,ρ2,M2,τ2,k1,k2,k3,k4,k5⟩:=ihk (fun j hj => hz j (by simp [hj])) g1 g2 g4 h
  exact ⟨F2,L2,ρ2,M2,τ2,k1,k2,g3.trans k3,k4,k5⟩
theorem frzD_keys:∀ {ks:List Nat} {ss:List SStep},∀ k ∈ ks,k ∈ frzKeys (frzD ks (.regD ss))
 | [],_,k,h => by cases h
 | j :: l,ss,k,h => by
  have:∀ (l:List Nat),∀ k ∈ l,k ∈ frzKeysS (l.map SStep.frz):=by
   intro l
   induction l with
   | nil => intro k h; cases h
   | cons j l ih =>
    intro k h
    simp only [List.map_cons,frzKeysS,List.mem_cons] at h ⊢
    exact h.imp id (ih k)
  exact List.mem_append.2 (.inl (this (j :: l) k h))
theorem frzDT_sound {P:Program} {PS:Pan} {G:Nat → Option (Nat × TypeId)} {ρ:Env} {a:Act} {w:World} {ss:List SStep} {E:Nat → TK} {R N:TK} {F:Frz} {L:Loc} {M:TL} {τ:TEnv}:∀ (ks:List Nat),FzOk G PS (frzKeys (frzD ks (.regD ss))) → St F L w → EnvOk L ρ a → TS G F L ρ M τ → evalTC P PS (frzD ks (.regD ss)) E R N M τ →
  ∃ F' L' ρ' M' τ',St F' L' w ∧ EnvOk L' ρ' a ∧ Step F L w F' L' w ∧ TS G F' L' ρ' M' τ' ∧ evalTOps P PS true ss M' τ' N
 | [],_,hs,he,ht,h => ⟨F,L,ρ,M,τ,hs,he,Step.refl _ _ _,ht,h⟩
 | k :: l,hz,hs,he,ht,h => by
  have h':evalTOps P PS false ((k :: l).map SStep.frz ++ []) M τ (fun M τ => evalTOps P PS true ss M τ N):=by rw [List.append_nil]; exact h
  obtain ⟨F1,L1,ρ1,M1,τ1,h1,h2,h3,h4,h5⟩:=ghostsT_sound (k :: l) (fun j hj => hz j (frzD_keys j hj)) hs he ht h'
  exact ⟨F1,L1,ρ1,M1,τ1,h1,h2,h3,h4,h5⟩
theorem noBox_any {M:TL}:∀ {ks:List Nat},noBoxT M ks = true → ∀ k ∈ ks,∀ o,M.get k = some o → isRowT o = true
 | [],_,k,h,_,_ => by cases h
 | j :: ks,hn,k,h,o,e => by
  simp only [noBoxT] at hn
  split at hn
  ·cases hn
  ·cases hn
  ·rename_i hne hne2
   rcases List.mem_cons.1 h with rfl | h
   ·cases o with
    | box t cs => exact absurd e (hne _ _)
    | map es => exact absurd e (hne2 _)
    | row => rfl
   ·exact noBox_any hn k h o e
theorem noBox_get {M:TL} {ks:List Nat} (hn:noBoxT M ks = true) (k:Nat) (h:k ∈ ks) (t:TypeId) (cs:List C):M.get k ≠ some (.box t cs):=fun e => by cases noBox_any hn k h _ e
theorem noBox_getM {M:TL} {ks:List Nat} (hn:noBoxT M ks = true) (k:Nat) (h:k ∈ ks) (es:List (C × C)):M.get k ≠ some (.map es):=fun e => by cases noBox_any hn k h _ e
theorem evalTC_sound {A:Ann}:∀ (c:Code) {sc:SCode},low P A c = some sc → ∀ {G:Nat → Option (Nat × TypeId)} {E:Nat → TK} {R N:TK} {F:Frz} {L:Loc} {ρ:Env} {M:TL} {τ:TEnv} {a:Act} {w:World},FzOk G PS (frzKeys sc) → St F L w → EnvOk L ρ a → TS G F L ρ M τ → a.tmps.size = A.n →
  evalTC P PS sc E R N M τ → c.wp P (QQ A.n F L w a (asgOf c) (PXT G PS) (fun j => Both G (E j)) (Both G R) (Both G N)) a w:=by
 intro c
 induction c with
 | skip =>
  intro sc hl G E R N F L ρ M τ a w hfz hs he ht hn hK
  simp only [low,Option.some.injEq] at hl; subst hl
  exact wp_skip ⟨F,L,ρ,hs,he,hn,rfl,Step.refl _ _ _,fun _ _ => rfl,M,τ,ht,hK⟩
 | label l =>
  intro sc hl G E R N F L ρ M τ a w hfz hs he ht hn hK
  simp only [low,Option.some.injEq] at hl; subst hl
  exact wp_label ⟨F,L,ρ,hs,he,hn,rfl,Step.refl _ _ _,fun _ _ => rfl,M,τ,ht,hK⟩
 | exit id =>
  intro sc hl G E R N F L ρ M τ a w hfz hs he ht hn hK
  simp only [low,Option.some.injEq] at hl; subst hl
  exact wp_exit ⟨F,L,ρ,hs,he,hn,rfl,Step.refl _ _ _,fun _ _ => rfl,M,τ,ht,hK⟩
 | ret =>
  intro sc hl G E R N F L ρ M τ a w hfz hs he ht hn hK
  simp only [low,Option.some.injEq] at hl; subst hl
  exact wp_ret ⟨F,L,ρ,hs,he,hn,rfl,Step.refl _ _ _,fun _ _ => rfl,M,τ,ht,hK⟩
 | region r ops draw =>
  intro sc hl G E R N F L ρ M τ a w hfz hs he ht hn hK
  cases draw with
  | false =>
   simp only [low] at hl
   split at hl
   case h_2 => cases hl
   rename_i ss hss
   injection hl with hl; subst hl
   simp only [evalTC_skip,evalTC_reg,evalTC_regD,evalTC_seq,evalTC_cond,evalTC_block,evalTC_loop,evalTC_exit,evalTC_ret] at hK
   exact wp_region (evalTOps_sound _ hss hfz hs he ht hn hK (fun a' w' h => h) fun v ch a' w' hc h => ⟨v,hc,h⟩)
  | true =>
   simp only [low] at hl
   split at hl
   case h_2 => cases hl
   rename_i is cl ss h1 h2
   have h4:ordIs A.ord r = is:=by simp only [ordIs,h1]
   rw [h4] at h2
   split at hl
   case h_2 =>
    split at hl
    case h_2 => cases hl
    rename_i h3
    injection hl with hl; subst hl
    rw [evalTC_regX] at hK
    split at hK
    case h_2 => exact hK.elim
    rename_i hnew
    exact draw_soundX h2 h3 hs he hn (fun s hs k e => tl_none ht.tl (newsT_get hnew s hs k e)) (simOpsX ss (lowRegD_ops h2) ht hK) (fun a' w' h => h) fun v ch a' w' F' L' gc g1 g2 g3 g4 g5 g6 => ⟨v,gc,F',L',g1,g2,g3,g4,g5,g6⟩
   rename_i h0
   split at hl
   case h_2 => cases hl
   rename_i h3
   injection hl with hl; subst hl
   obtain ⟨F1,L1,ρ1,M1,τ1,hs1,he1,hst1,ht1,hK⟩:=frzDT_sound _ hfz hs he ht hK
   exact draw_sound h2 h3 hs1 he1 hn (simOps ss (allOp_ops h2 h0) ht1 hK) fun a' w' h => Next2.after (asg1:=[]) hst1 rfl (fun _ _ => rfl) h (fun _ h => absurd h List.not_mem_nil) (fun _ h => h)
 | seq x y ihx ihy =>
  intro sc hl G E R N F L ρ M τ a w hfz hs he ht hn hK
  simp only [low] at hl
  split at hl
  case h_2 => cases hl
  rename_i h1 h2
  injection hl with hl; subst hl
  simp only [evalTC_skip,evalTC_reg,evalTC_regD,evalTC_seq,evalTC_cond,evalTC_block,evalTC_loop,evalTC_exit,evalTC_ret] at hK
  refine wp_seq (wp_mono (ihx h1 hfz.left hs he ht hn hK) ?_)
  intro e a1 w1 hq
  cases e with
  | normal =>
   obtain ⟨F1,L1,ρ1,g1,g2,g3,g4,g5,g6,M1,τ1,g7,g8⟩:=hq
   refine wp_mono (ihy h2 hfz.right g1 g2 g7 g3 g8) ?_
   intro e2 a2 w2 hq2
   cases e2 <;> first
    | exact Next2.after g5 g4 g6 hq2 (fun j h => List.mem_append.2 (.inl h)) (fun j h => List.mem_append.2 (.inr h))
    | exact (let ⟨v,e,h⟩:=hq2; ⟨v,e,PNext.after g5 g4 g6 h (fun j h => List.mem_append.2 (.inl h)) (fun j h => List.mem_append.2 (.inr h)) fun _ h => h⟩)
    | exact hq2
  | exit id => exact hq.mono fun j h => List.mem_append.2 (.inl h)
  | ret => exact hq.mono fun j h => List.mem_append.2 (.inl h)
  | goto l => exact hq
  | panic c => exact (let ⟨v,e,h⟩:=hq; ⟨v,e,h.mono fun j h => List.mem_append.2 (.inl h)⟩)
  | outgrown => exact hq
 | cond c x y ihx ihy =>
  intro sc hl G E R N F L ρ M τ a w hfz hs he ht hn hK
  simp only [low] at hl
  split at hl
  case h_2 => cases hl
  rename_i h0 h1 h2
  injection hl with hl; subst hl
  simp only [evalTC_skip,evalTC_reg,evalTC_regD,evalTC_seq,evalTC_cond,evalTC_block,evalTC_loop,evalTC_exit,evalTC_ret] at hK
  split at hK
  case h_2 => exact hK.elim
  rename_i t htb
  have hc:a.eval c = .bool t:=by rw [lowX_eval h0 he,val_v (inv_bool ht.env htb)]
  refine wp_cond hc ?_
  cases t
  ·simp only [brn] at hK
   refine wp_mono (ihy h2 hfz.right hs he ht hn hK) ?_
   intro e a1 w1 hq
   cases e <;> first
    | exact hq.mono fun j h => List.mem_append.2 (.inr h)
    | exact (let ⟨v,e,h⟩:=hq; ⟨v,e,h.mono fun j h => List.mem_append.2 (.inr h)⟩)
    | exact hq
  ·simp only [brn] at hK
   refine wp_mono (ihx h1 hfz.left hs he ht hn hK) ?_
   intro e a1 w1 hq
   cases e <;> first
    | exact hq.mono fun j h => List.mem_append.2 (.inl h)
    | exact (let ⟨v,e,h⟩:=hq; ⟨v,e,h.mono fun j h => List.mem_append.2 (.inl h)⟩)
    | exact hq
 | block id x ih =>
  intro sc hl G E R N F L ρ M τ a w hfz hs he ht hn hK
  simp only [low] at hl
  split at hl
  case h_2 => cases hl
  rename_i h1
  injection hl with hl; subst hl
  simp only [evalTC_skip,evalTC_reg,evalTC_regD,evalTC_seq,evalTC_cond,evalTC_block,evalTC_loop,evalTC_exit,evalTC_ret] at hK
  refine wp_block (wp_mono (ih h1 hfz hs he ht hn hK) ?_)
  intro e a1 w1 hq
  cases e with
  | exit j =>
   simp only [Exit.inBlock]
   simp only [QQ] at hq
   by_cases hj:j = id
   ·subst hj
    have hb:Nat.beq j j = true:=by simp
    rw [hb] at hq
    rw [if_pos rfl]
    exact hq
   ·have hb:Nat.beq j id = false:=by
     cases h:Nat.beq j id with
     | true => exact absurd (Nat.eq_of_beq_eq_true h) hj
     | false => rfl
    rw [hb] at hq
    rw [if_neg hj]
    exact hq
  | normal => exact hq
  | ret => exact hq
  | goto l => exact hq
  | panic c => exact hq
  | outgrown => exact hq
 | loop x ih =>
  intro sc hl G E R N F L ρ M τ a w hfz hs he ht hn hK
  simp only [low] at hl
  split at hl
  case h_2 => cases hl
  rename_i sx h1
  injection hl with hl; subst hl
  simp only [evalTC_skip,evalTC_reg,evalTC_regD,evalTC_seq,evalTC_cond,evalTC_block,evalTC_loop,evalTC_exit,evalTC_ret] at hK
  split at hK
  case h_2 => exact hK.elim
  rename_i hnb
  obtain ⟨σ,x0,Inv,ls,lv,Lf,μ,i0,i1,i2,i3,i4,i5⟩:=hK
  -- the boxes that there are,with their addresses
  let G1:Nat → Option (Nat × TypeId):=fun k => match L.get k with | some (.box g t _) => some (g,t) | _ => none
  have hG1:∀ k g t cs,L.get k = some (.box g t cs) → G1 k = some (g,t):=fun k g t cs e => by simp only [G1,e]
  have hkp1:Kp G1 L:=by
   intro k g t e
   simp only [G1] at e
   split at e
   ·rename_i g' t' cs h
    injection e with e
    injection e with e1 e2
    subst e1 e2
    exact ⟨cs,h⟩
   ·cases e
  have hfz1:FzOk G1 PS (frzKeys sx):=by
   intro k hk hne
   exfalso
   simp only [G1] at hne
   split at hne
   ·rename_i g t cs e
    have hr:=ht.tl k
    rw [e] at hr
    cases e2:M.get k with
    | none => rw [e2] at hr; exact hr
    | some o =>
     rw [e2] at hr
     cases o with
     | row => exact hr
     | box t' cs' => exact noBox_get hnb k hk t' cs' e2
     | map es => exact noBox_getM hnb k hk es e2
   ·exact hne rfl
  have hG:∀ {L':Loc},Kp G1 L' → Kp G L':=fun hk k g t e => let ⟨cs,h⟩:=ht.kp k g t e; hk k g t (hG1 k g t cs h)
  have hbox:∀ {L':Loc},Kp G1 L' → ∀ k g t cs,L.get k = some (.box g t cs) → ∃ cs',L'.get k = some (.box g t cs'):=fun hk k g t cs h => hk k g t (hG1 k g t cs h)
  have both:∀ {K:TK} {F' L' ρ'},Both G1 K F' L' ρ' → Both G K F' L' ρ':=fun ⟨M',τ',h1,h2⟩ => ⟨M',τ',⟨h1.tl,h1.env,hG h1.kp,h1.glob⟩,h2⟩
  have wfs:∀ {F':Frz} {L':Loc} {M':TL},RelTL F' L' M' → (∀ k o,M'.get k = some o → o.Wf):=fun h k o e => wf_row h (fun _ _ e => e) k o e
  -- a round's end,or what is ahead of the first round,is a head
  have enter:∀ (y:σ) (F1:Frz) (L1:Loc) (ρ1:Env) (M1:TL) (τ1:TEnv) (a1:Act) (w1:World),F.le F1 → St F1 L1 w1 → EnvOk L1 ρ1 a1 → TS G1 F1 L1 ρ1 M1 τ1 → (∀ j,j ∉ asgOf x → a1.tmps.getD j undef = a.tmps.getD j undef) →
    holdsT M1 (Lf y) ls (lv y) τ1 → gives M1 (Lf y) (Lf y) → ∃ L2,St F1 L2 w1 ∧ Step F1 L1 w1 F1 L2 w1 ∧ RelTL F1 L2 (Lf y) ∧ Kp G1 L2 ∧ WfS (lv y) ∧
     ∃ ρ2,EnvOk L2 ρ2 a1 ∧ ∀ j,RelV F1 L2 (putsT ls (lv y) (headE (asgOf x) τ) j) (ρ2 j):=by
   intro y F1 L1 ρ1 M1 τ1 a1 w1 hle hs1 he1 ht1 hfr hh hg
   obtain ⟨g1,g2⟩:=gives_St hs1 ht1.tl hg
   have hkp:Kp G1 (mkL L1 (Lf y)):=by
    intro k g t e
    obtain ⟨cs,hL1⟩:=ht1.kp k g t e
    obtain ⟨cs0,hL0⟩:=hkp1 k g t e
    refine ⟨cs,?_⟩
    rcases relK_get (ht.tl k) with ⟨c1,c2⟩ | ⟨q,p,c1,c2,hr⟩
    ·rw [hL0] at c2; cases c2
    ·rw [hL0] at c2
     injection c2 with c2
     subst c2
     cases q with
     | row => exact hr.elim
     | box t' cs' =>
      obtain ⟨o2,e2⟩:=keepsT_any (i3 y) c1 rfl
      rw [mkL_get,e2]
      simp only [hL1]
     | map es =>
      obtain ⟨o2,e2⟩:=keepsT_any (i3 y) c1 rfl
      rw [mkL_get,e2]
      simp only [hL1]
   refine ⟨mkL L1 (Lf y),g1,g2,gives_tl ht1.tl hg,hkp,holdsT_wf ht1 (i4 y) hh hg,head_env he ht.env hle (hbox hkp) hfr ?_⟩
   intro i j c e1 e2
   have hr:=cel_rel' (ht1.env j)
   have hv:a1.tmps.getD j undef = conc L1 (ρ1 j):=he1.eq j
   rw [hv]
   have hle1:=holdsT_at hh e1 e2
   rcases hle1 with e | ⟨e,hk⟩ | ⟨e,e'⟩ | ⟨e,k',t',sz',e',q1,q2⟩ | ⟨els,e,e'⟩
   ·rw [e]; simp only [Rel]
   ·have hc:(τ1 j).cel = τ1 j:=by
     rw [e]
     rw [e] at hr
     cases c <;> first | rfl | (simp only [hasKeysA,hasKeys,Bool.false_eq_true] at hk; done)
    rw [hc] at hr
    exact leC_rel ht1.tl (.inr (.inl ⟨e,hk⟩)) hr
   ·rw [e] at hr
    exact leC_rel ht1.tl (.inr (.inr (.inl ⟨rfl,e'⟩))) hr
   ·rw [e] at hr
    exact leC_rel ht1.tl (.inr (.inr (.inr (.inl ⟨rfl,k',t',sz',e',q1,q2⟩)))) hr
   ·rw [e] at hr
    exact leC_rel ht1.tl (.inr (.inr (.inr (.inr ⟨els,rfl,e'⟩)))) hr
  refine wp_loop_n (fun n a1 w1 => ∃ (y:σ) (F1:Frz) (L1:Loc),n = μ y ∧ F.le F1 ∧ Inv y ∧ St F1 L1 w1 ∧ a1.tmps.size = A.n ∧ a1.defers = a.defers ∧ Step F L w F1 L1 w1 ∧ (∀ j,j ∉ asgOf x → a1.tmps.getD j undef = a.tmps.getD j undef) ∧
   RelTL F1 L1 (Lf y) ∧ Kp G1 L1 ∧ WfS (lv y) ∧ ∃ ρ1,EnvOk L1 ρ1 a1 ∧ ∀ j,RelV F1 L1 (putsT ls (lv y) (headE (asgOf x) τ) j) (ρ1 j)) ?_ ?_
  ·obtain ⟨L2,k1,k2,k3,k4,k5,k6⟩:=enter x0 F L ρ M τ a w (Frz.le_refl F) hs he ⟨ht.tl,ht.env,hkp1,ht.glob⟩ (fun _ _ => rfl) i1 i2
   exact ⟨_,x0,F,L2,rfl,Frz.le_refl F,i0,k1,hn,rfl,k2,fun _ _ => rfl,k3,k4,k5,k6⟩
  ·rintro n a1 w1 ⟨y,F1,L1,rfl,hle,hinv,hs1,hn1,hd1,hst1,hfr1,htl1,hkp,hwf,ρ1,he1,henv1⟩
   refine wp_mono (ih h1 hfz1 hs1 he1 (⟨htl1,henv1,hkp,hs1.glob⟩:TS G1 F1 L1 ρ1 (Lf y) (putsT ls (lv y) (headE (asgOf x) τ))) hn1 (i5 y hinv hwf (wfs htl1))) ?_
   intro e a2 w2 hq
   cases e with
   | normal =>
    obtain ⟨F2,L2,ρ2,g1,g2,g3,g4,g5,g6,M2,τ2,g7,y',k1,k2,k3,k4⟩:=hq
    have hfr2:∀ j,j ∉ asgOf x → a2.tmps.getD j undef = a.tmps.getD j undef:=fun j hj => by rw [g6 j hj,hfr1 j hj]
    obtain ⟨L3,q1,q2,q3,q4,q5,q6⟩:=enter y' F2 L2 ρ2 M2 τ2 a2 w2 (Frz.le_trans hle g5.le) g1 g2 g7 hfr2 k2 k3
    exact ⟨μ y',k4,y',F2,L3,rfl,Frz.le_trans hle g5.le,k1,q1,g3,g4.trans hd1,(hst1.trans g5).trans q2,hfr2,q3,q4,q5,q6⟩
   | exit j => exact Next2.after hst1 hd1 hfr1 (next2_imp hq both) (fun j h => h) (fun j h => h)
   | ret => exact Next2.after hst1 hd1 hfr1 (next2_imp hq both) (fun j h => h) (fun j h => h)
   | goto l => exact hq
   | panic c => exact (let ⟨v,e,h⟩:=hq; ⟨v,e,PNext.after hst1 hd1 hfr1 h (fun j h => h) (fun j h => h) fun L' h => ⟨hG h.1,h.2⟩⟩)
   | outgrown => exact hq
 | rangeFunc f ps x y ihx ihy => intro sc hl; simp only [low] at hl; cases hl
 | scope x ih =>
  intro sc hl G E R N F L ρ M τ a w hfz hs he ht hn hK
  simp only [low] at hl
  refine wp_scope_straight (wp_mono (ih hl hfz hs he ht hn hK) ?_)
  intro e a1 w1 hq
  cases e <;> exact hq
 | goto l => intro sc hl; simp only [low] at hl; cases hl
 | refuse why => intro sc hl; simp only [low] at hl; cases hl
end
section
variable {P:Program} {G:Nat → Option (Nat × TypeId)} {F:Frz} {L:Loc} {ρ:Env} {M:TL} {τ:TEnv} {a:Act} {w:World}
theorem ret_sound (ht:TS G F L ρ M τ):∀ {rs:List RV} {K:List C → Prop},retT M τ rs K → retV L ρ rs (fun vs => ∃ cs,Rels F L cs vs ∧ K cs)
 | [],K,h => ⟨[],by simp only [Rels],h⟩
 | (t,none) :: l,K,h => by
  simp only [retT] at h
  simp only [retV]
  refine retV_imp (ret_sound ht h) ?_
  rintro vs ⟨cs,h1,h2⟩
  exact ⟨_,by simp only [Rels]; exact ⟨_,_,rfl,cel_rel' (ht.env t),h1⟩,h2⟩
 | (t,some (agg,n)) :: l,K,h => by
  simp only [retT] at h
  simp only [retV]
  split at h
  case h_2 => exact h.elim
  rename_i k off hk
  split at h
  case h_2 => exact h.elim
  rename_i ty cs hM
  split at h
  case h_2 => exact h.elim
  rename_i hl
  obtain ⟨e1,_⟩:=inv_own (x:=.t t) ht.env hk
  have e1:ρ t = .own k off:=e1
  obtain ⟨g,ty,vs,e2,hr,hty⟩:=tl_box ht.tl hM
  have hr2:=(hr.drop off).take n
  simp only [e1,e2,memB_of hty.2.2 (len_of (show ((vs.drop off).take n).length = n by rw [hr2.len]; exact lenC_eq hl))]
  refine retV_imp (ret_sound ht h) ?_
  rintro us ⟨ds,h1,h2⟩
  refine ⟨_,?_,h2⟩
  simp only [Rels]
  have:=cel_rel' (asC_rel (agg:=agg) hr2)
  exact ⟨_,_,rfl,this,h1⟩
where
 retV_imp {L:Loc} {ρ:Env}:∀ {rs:List RV} {K K':List Value → Prop},retV L ρ rs K → (∀ vs,K vs → K' vs) → retV L ρ rs K'
 | [],K,K',h,hk => hk _ h
 | (t,none) :: l,K,K',h,hk => by
  simp only [retV] at h ⊢
  exact retV_imp h fun vs => hk _
 | (t,some (agg,n)) :: l,K,K',h,hk => by
  simp only [retV] at h ⊢
  generalize ρ t = z at h ⊢
  split at h
  case h_2 => exact h.elim
  rename_i k off
  generalize L.get k = y at h ⊢
  split at h
  case h_2 => exact h.elim
  rename_i ty cs
  generalize memB ty ((cs.drop off).take n) n = b at h ⊢
  cases b
  ·exact h.elim
  ·exact retV_imp h fun vs => hk _
theorem res_rel {cs:List C} {vs:List Value} (h:Rels F L cs vs):Rel F L (resT cs) (resVal vs):=by
 match cs,vs,h with
 | [],vs,h =>
  simp only [Rels] at h
  subst h
  simp only [resT,resVal,Rel]
  exact ⟨[],rfl,by simp only [Rels]⟩
 | [c],vs,h =>
  simp only [Rels] at h
  obtain ⟨v,vs',rfl,h1,rfl⟩:=h
  exact h1
 | c1 :: c2 :: cs,vs,h =>
  have h':=h
  simp only [Rels] at h'
  obtain ⟨v,vs',rfl,h1,v2,vs2,rfl,h2⟩:=h'
  simp only [resT,resVal,Rel]
  exact ⟨_,rfl,h⟩
theorem argT_get:∀ (l:List C) (k j:Nat),argT k l j = if k ≤ j then (l[j - k]?).getD .und else .und
 | [],k,j => by simp [argT]
 | v :: l,k,j => by
  simp only [argT,tput_eq]
  by_cases h:j = k
  ·subst h; simp
  ·rw [if_neg h,argT_get l (k + 1) j]
   by_cases h1:k ≤ j
   ·rw [if_pos (by omega),if_pos h1,show j - k = (j - (k + 1)) + 1 by omega,List.getElem?_cons_succ]
   ·rw [if_neg (by omega),if_neg h1]
theorem canR_rel {c:C} {v:Value} (h:Rel F L c v):Rel F L c.canR v:=by
 cases c <;> first
  | exact h
  | exact can_rel (c:=.nils) h
  | exact slx_sl h
  | (simp only [Rel] at h
     obtain ⟨vs,h1,h2⟩:=h
     simp only [C.canR,Rel]
     first
      | exact ⟨vs,h1,cans_rel h2⟩
      | exact ⟨vs,h1,h2.map fun c _ v => canA_rel⟩)
theorem panic_back {F':Frz} {L':Loc} {w':World} {Li:List Own} (hs:St F' L' w') (hst:Step F (inp Li) w F' L' w') (hb:∀ (i:Nat) g t cs,Li[i]? = some (.box g t cs) → ∃ cs',L'.get (1000 + i) = some (.box g t cs')) :
  ∃ Lo,St F' (inp Lo) w' ∧ Step F (inp Li) w F' (inp Lo) w' ∧ Lo.length = Li.length ∧ ∀ (i:Nat) g t cs,Li[i]? = some (.box g t cs) → ∃ cs',Lo[i]? = some (.box g t cs'):=by
 let Lo:List Own:=Li.mapIdx fun i o => match o with
  | .box _ _ _ => match L'.get (1000 + i) with | some p => p | none => .row (.slice none 0 0) 0 0 0 []
  | .row _ t sz _ _ => .row (.slice none 0 0) t sz 0 []
 have get:∀ k p,(inp Lo).get k = some p → L'.get k = some p ∨ ∃ t sz,p = .row (.slice none 0 0) t sz 0 []:=by
  intro k p e
  rw [inp_get] at e
  split at e
  case isFalse => cases e
  rename_i hk
  simp only [Lo,List.getElem?_mapIdx] at e
  cases h:Li[k - 1000]? with
  | none => rw [h] at e; cases e
  | some o =>
   rw [h] at e
   simp only [Option.map_some,Option.some.injEq] at e
   cases o with
   | box g t cs =>
    simp only at e
    rw [show 1000 + (k - 1000) = k by omega] at e
    cases h2:L'.get k with
    | none => rw [h2] at e; exact .inr ⟨0,0,e.symm⟩
    | some q => rw [h2] at e; exact .inl (by rw [← e])
   | row v t sz n xs => exact .inr ⟨t,sz,e.symm⟩
 refine ⟨Lo,⟨hs.frz,fun k o e => ?_,fun k o g e hg => ?_,fun k k' o o' g e e' hg hg' => ?_,hs.glob⟩,⟨hst.le,hst.os,hst.tape,hst.output,hst.size,hst.same,hst.frz,fun b ho => hst.own b ?_⟩,by simp [Lo],fun i g t cs hi => ?_⟩
 ·rcases get k o e with h | ⟨t,sz,rfl⟩
  ·exact hs.own k o h
  ·exact World.ownsRow_nil w' 0 t sz
 ·rcases get k o e with h | ⟨t,sz,rfl⟩
  ·exact hs.off k o g h hg
  ·cases hg
 ·rcases get k o e with h | ⟨t,sz,rfl⟩ <;> rcases get k' o' e' with h' | ⟨t',sz',rfl⟩
  ·exact hs.sep k k' o o' g h h' hg hg'
  ·cases hg'
  ·cases hg
  ·cases hg
 ·obtain ⟨k,o,e,hg⟩:=ho
  rcases get k o e with h | ⟨t,sz,rfl⟩
  ·exact ⟨k,o,h,hg⟩
  ·cases hg
 ·obtain ⟨cs',h⟩:=hb i g t cs hi
  exact ⟨cs',by simp only [Lo,List.getElem?_mapIdx,hi,Option.map_some,h]⟩
theorem fin_T {n:Nat} {asg:List Nat} {fn:Func} {rs:List RV} {Lin:List TO} {Li:List Own} {R:List TO → C → Prop} {a0 a':Act} {w':World} (hres:resOk P fn.results.toList = some rs) (hl:Li.length = Lin.length) (htl:RelTL F (inp Li) (tinp Lin))
  (hG1:∀ k g t cs,(inp Li).get k = some (.box g t cs) → G k = some (g,t)) (hq:Next2 n F (inp Li) w a0 asg (Both G (fun L ρ => retT L ρ rs fun vs => RetT Lin L (resT vs) R)) a' w') :
  a'.defers = a0.defers ∧ ∃ v,(results fn a'.tmps).run P w' = .ok v w' ∧ ∃ F' Lo,St F' (inp Lo) w' ∧ Step F (inp Li) w F' (inp Lo) w' ∧ ResA Li R F' Lo v:=by
 obtain ⟨F',L',ρ',g1,g2,g3,g4,g5,g6,M',τ',g7,hret⟩:=hq
 obtain ⟨us,hm,cs,hcs,⟨fz,ko,hK⟩⟩:=retV_run g1 g2 hres (ret_sound g7 hret)
 have ht2:TS G F' L' ρ' M' (fun _ => .any):=⟨g7.tl,fun _ => trivial,g7.kp,g7.glob⟩
 obtain ⟨F2,L2,M2,τ2,args2,k1,k2,k3,k4,k5,M3,c2,c3,Mo,q1,q23,q4,q5,q6,q7⟩:=frzK_sound g1 g2 ht2 (by simp only [Rels]; exact ⟨_,[],rfl,res_rel hcs,rfl⟩) hK
 subst q1
 simp only [Rels] at k5
 obtain ⟨v,vs',ev,hv,rfl⟩:=k5
 injection ev with ev _
 subst ev
 have hw3:∃ L3,St F2 L3 w' ∧ Step F2 L2 w' F2 L3 w' ∧ RelTL F2 L3 M3 ∧ Rel F2 L3 c3 (resVal us) ∧ ∀ k g t cs,L2.get k = some (.box g t cs) → M3.get k ≠ none → L3.get k = some (.box g t cs):=by
  rcases q23 with ⟨rfl,rfl⟩ | ⟨q2,q3⟩
  ·exact ⟨L2,k1,Step.refl _ _ _,k4.tl,hv,fun k g t cs h _ => h⟩
  ·obtain ⟨b1,b2⟩:=gives_St k1 k4.tl q2
   refine ⟨_,b1,b2,gives_tl k4.tl q2,leC_rel k4.tl q3 hv,fun k g t cs h hne => ?_⟩
   rw [mkL_get]
   cases e:M3.get k with
   | none => exact absurd e hne
   | some o => simp only [h]
 obtain ⟨L3,b1,b2,htl3,hv3,hbx⟩:=hw3
 obtain ⟨Lo,d1,d2,d3⟩:=tl_sub htl3 q4
 have hno:=nodup?_eq q5
 have hk3:∀ k g t,G k = some (g,t) → ∃ cs,(M3.get k ≠ none → L3.get k = some (.box g t cs)):=by
  intro k g t e
  obtain ⟨cs,h⟩:=k4.kp k g t e
  exact ⟨cs,fun hne => hbx _ _ _ _ h hne⟩
 refine ⟨g4,resVal us,?_,F2,Lo,b1.handed d1 hno,?_,Mo.map (TO.mapC (C.ren (toIn ko 1000))),c3.canR.ren (toIn ko 1000),by simp [d2],tl_inp htl3 d2 d1 d3,(canR_rel hv3).ren (inp_sub d1),?_,q7 (by simp only [WfS]; exact ⟨hv3.wf,trivial⟩)⟩
 ·rw [results_eq]
  rw [Array.mapM_eq_mapM_toList]
  simp only [Sem.run_bind,Sem.run_map]
  rw [hm]
  simp only [Result.andThen_ok,Sem.run_pure]
  congr 1
  match us with
  | [] => rfl
  | [t] => rfl
  | t :: u :: r =>
   simp only [resVal]
   rw [dif_neg (by simp)]
 ·have hst:=(g5.trans k3).trans b2
  obtain ⟨x1,x2⟩:=sub_get d1
  refine ⟨hst.le,hst.os,hst.tape,hst.output,hst.size,hst.same,hst.frz,fun b hb => hst.own b ?_⟩
  obtain ⟨j,p,e,hb⟩:=hb
  rw [inp_get] at e
  split at e
  case isFalse => cases e
  have hlt:j - 1000 < Lo.length:=(List.getElem?_eq_some_iff.1 e).1
  have hk:ko[j - 1000]? = some (ko[j - 1000]'(by omega)):=List.getElem?_eq_getElem (by omega)
  exact ⟨_,p,by rw [x2 _ _ hk]; exact e,hb⟩
 ·intro i g t cs hi
  have hlt:i < Lin.length:=by rw [← hl]; exact (List.getElem?_eq_some_iff.1 hi).1
  have hin:(inp Li).get (1000 + i) = some (.box g t cs):=by rw [inp_get,if_pos (by omega),show 1000 + i - 1000 = i by omega]; exact hi
  have hr:=htl (1000 + i)
  rw [tinp_get,if_pos (by omega),show 1000 + i - 1000 = i by omega,hin,List.getElem?_eq_getElem hlt] at hr
  have hnr:isRowT Lin[i] = false:=by
   cases hLi:Lin[i] with
   | row => rw [hLi] at hr; exact hr.elim
   | box t' cs' => rfl
   | map es => rfl
  ·obtain ⟨k',y1,y2⟩:=boxesAt_any q6 i _ (List.getElem?_eq_getElem hlt) hnr
   rw [List.getElem?_range' hlt] at y1
   injection y1 with y1
   obtain ⟨x1,x2⟩:=sub_get d1
   obtain ⟨z1,z2⟩:=tsub_get q4
   have hlt2:i < Mo.length:=by rw [z1]; exact (List.getElem?_eq_some_iff.1 y2).1
   have hM3:M3.get k' ≠ none:=by rw [z2 i k' y2,List.getElem?_eq_getElem hlt2]; simp
   have hk':k' = 1000 + i:=by omega
   subst hk'
   obtain ⟨cs2,h2⟩:=hk3 _ g t (hG1 _ _ _ _ hin)
   exact ⟨cs2,by rw [← x2 i _ y2]; exact h2 hM3⟩
theorem callsTX_facts {Pp:Value → Prop} {f:FuncId} {fn:Func} {sc:SCode} {A:Ann} {rs:List RV} {args:List C} {Lin:List TO} {R:List TO → C → Prop} (hf:P.funcs[f]? = some fn) (hfacts:factsOf P A fn = some (sc,A.n,rs,false)) (hlen:Nat.ble args.length A.n = true)
  (h:WfS args → (∀ o ∈ Lin,o.Wf) → evalTC P ⟨Pp,[]⟩ sc (fun _ _ _ => False) (fun L ρ => retT L ρ rs fun vs => RetT Lin L (resT vs) R) (fun L ρ => retT L ρ rs fun vs => RetT Lin L (resT vs) R) (tinp Lin) (argT 0 args)):CallsTX P f args Lin R Pp:=by
 unfold factsOf at hfacts
 split at hfacts
 case h_2 => cases hfacts
 rename_i c hb
 split at hfacts
 case h_2 => cases hfacts
 rename_i sc' rs' hlow hres
 injection hfacts with hfacts
 injection hfacts with e1 e2
 injection e2 with e2 e3
 injection e3 with e3 hname
 subst e1 e3
 refine ⟨fun F Li vs hl htl ha => ⟨⟨fn,hf,by rw [hb]; rfl,hname⟩,ResA.mono',fun w hs => ?_⟩⟩
 refine calls_of_wp hf hb ?_
 have hwo:∀ o ∈ Lin,o.Wf:=by
  intro o ho
  obtain ⟨i,hi⟩:=List.mem_iff_getElem?.1 ho
  have:=htl (1000 + i)
  rw [tinp_get,inp_get,if_pos (by omega),if_pos (by omega),show 1000 + i - 1000 = i by omega,hi] at this
  cases e:Li[i]? with
  | none => rw [e] at this; exact this.elim
  | some p => rw [e] at this; exact RelO.wf this
 have h:=h ha.wf hwo
 have hla:=ha.len
 have hlen:=Nat.le_of_ble_eq_true hlen
 -- the frame
 have key:∀ j,∃ sv,RelV F (inp Li) (argT 0 args j) sv ∧ conc (inp Li) sv = (vs.toArray ++ Array.replicate (fn.ntmps - vs.toArray.size) undef).getD j undef ∧ (∀ k off,sv = .own k off → ∃ g t cs,(inp Li).get k = some (.box g t cs)) ∧ (∀ ad i,sv = .el ad i → ad ≠ none):=by
  intro j
  rw [argT_get]
  simp only [Nat.zero_le,if_true,Nat.sub_zero,Array.getD_eq_getD_getElem?]
  cases e:args[j]? with
  | some c =>
   have hlt:j < vs.length:=by rw [hla]; exact (List.getElem?_eq_some_iff.1 e).1
   obtain ⟨s1,s2,s3,s4⟩:=svOf_ok (ha.at e (List.getElem?_eq_getElem hlt))
   refine ⟨_,s1,?_,s3,fun ad i e => absurd e (s4 ad i)⟩
   rw [s2,Array.getElem?_append_left (by simpa using hlt)]
   simp [hlt]
  | none =>
   have hge:vs.length ≤ j:=by rw [hla]; exact List.getElem?_eq_none_iff.1 e
   refine ⟨.v undef,relV_und,?_,fun _ _ e => (by cases e),fun _ _ e => (by cases e)⟩
   rw [Array.getElem?_append_right (by simpa using hge)]
   simp only [Array.getElem?_replicate,conc]
   split <;> rfl
 let ρ0:Env:=fun j => (key j).choose
 have he:EnvOk (inp Li) ρ0 { tmps:=vs.toArray ++ Array.replicate (fn.ntmps - vs.toArray.size) undef,defers:=[] } :=
  ⟨fun t => (key t).choose_spec.2.1.symm,fun t k off e => (key t).choose_spec.2.2.1 k off e,fun t ad j e => (key t).choose_spec.2.2.2 ad j e⟩
 let G:Nat → Option (Nat × TypeId):=fun k => match (inp Li).get k with | some (.box g t _) => some (g,t) | _ => none
 have hG1:∀ k g t cs,(inp Li).get k = some (.box g t cs) → G k = some (g,t):=fun k g t cs e => by simp only [G,e]
 have hkp:Kp G (inp Li):=by
  intro k g t e
  simp only [G] at e
  split at e
  ·rename_i g' t' cs h
   injection e with e
   injection e with e1 e2
   subst e1 e2
   exact ⟨cs,h⟩
  ·cases e
 have hGd:∀ k,G k ≠ none → 1000 ≤ k:=by
  intro k hne
  simp only [G] at hne
  split at hne
  ·rename_i g t cs h
   rw [inp_get] at h
   split at h
   ·assumption
   ·cases h
  ·exact absurd rfl hne
 have ht:TS G F (inp Li) ρ0 (tinp Lin) (argT 0 args):=⟨htl,fun j => (key j).choose_spec.1,hkp,hs.glob⟩
 refine wp_mono (evalTC_sound c hlow (fun k _ hne => .inl (hGd k hne)) hs he ht (by simp [e2]; omega) h) ?_
 intro e a' w' hq
 have fin:∀ {a0:Act},a0.defers = [] → Next2 A.n F (inp Li) w a0 (asgOf c) (Both G (fun L ρ => retT L ρ rs' fun vs => RetT Lin L (resT vs) R)) a' w' → a'.defers = [] ∧ ∃ v,(results fn a'.tmps).run P w' = .ok v w' ∧
   ∃ v' F' Lo,Ending.returned v = .returned v' ∧ St F' (inp Lo) w' ∧ Step F (inp Li) w F' (inp Lo) w' ∧ ResA Li R F' Lo v':=by
  intro a0 hd0 hq
  obtain ⟨k1,v,k2,F',Lo,k3,k4,k5⟩:=fin_T hres hl htl hG1 hq
  exact ⟨k1.trans hd0,v,k2,v,F',Lo,rfl,k3,k4,k5⟩
 cases e with
 | normal => exact (let ⟨h1,v,h2,h3⟩:=fin rfl hq; ⟨h1,v,h2,.inl h3⟩)
 | ret => exact (let ⟨h1,v,h2,h3⟩:=fin rfl hq; ⟨h1,v,h2,.inl h3⟩)
 | exit j => obtain ⟨F',L',ρ',_,_,_,_,_,_,M',τ',_,h⟩:=hq; exact h.elim
 | goto l => exact hq.elim
 | panic c =>
  obtain ⟨v,hch,F',L',g1,g2,g3,g4,g5,kp,hp,_⟩:=hq
  obtain ⟨Lo,q1,q2,q3,q4⟩:=panic_back g1 g2 (fun i g t cs hi => kp (1000 + i) g t (hG1 _ g t cs (by rw [inp_get,if_pos (by omega),show 1000 + i - 1000 = i by omega]; exact hi)))
  exact ⟨g4,.inr ⟨v,_,F',Lo,rfl,hch,q1,q2,q3,q4,hp⟩⟩
 | outgrown => exact hq.elim
theorem CallsTX.noPan {f:Nat} {args:List C} {Lin:List TO} {R:List TO → C → Prop} (h:CallsTX P f args Lin R fun _ => False):CallsT P f args Lin R :=
 ⟨fun F Li vs h1 h2 h3 => let k:=h.out F Li vs h1 h2 h3; ⟨k.ent,k.mono,fun w hs => (k.run w hs).mono fun e w' q => q.elim id fun ⟨_,_,_,_,_,_,_,_,_,_,q⟩ => q.elim⟩⟩
theorem callsT_facts {f:FuncId} {fn:Func} {sc:SCode} {A:Ann} {rs:List RV} {args:List C} {Lin:List TO} {R:List TO → C → Prop} (hf:P.funcs[f]? = some fn) (hfacts:factsOf P A fn = some (sc,A.n,rs,false)) (hlen:Nat.ble args.length A.n = true)
  (h:WfS args → (∀ o ∈ Lin,o.Wf) → evalTC P ⟨fun _ => False,[]⟩ sc (fun _ _ _ => False) (fun L ρ => retT L ρ rs fun vs => RetT Lin L (resT vs) R) (fun L ρ => retT L ρ rs fun vs => RetT Lin L (resT vs) R) (tinp Lin) (argT 0 args)):CallsT P f args Lin R :=
 (callsTX_facts hf hfacts hlen h).noPan
end
section
variable {P:Program} {L:TL} {ρ:TEnv}
def Ret (Lo:List TO) (x:C):List TO → C → Prop:=fun Mo v => Mo = Lo ∧ v = x
theorem callP {f:Nat} {args args':List C} {K:TL → TEnv → C → Prop} {x:C} (h:CallsT P f args' [] (Ret [] x)) (ha:(args.map fun c => c.canA.ren (toIn [] 1000)) = args') (k:Wf x → K L ρ (x.ren (fromIn [])).slt):CallT P f args L ρ K:=by
 subst ha
 exact .mk ⟨[],[],[],L,[],_,.inl rfl,rfl,rfl,rfl,rfl,rfl,h,fun v Mo ⟨e1,e2⟩ hw _ => by subst e1 e2; exact ⟨rfl,k hw⟩⟩
theorem callPD {f:Nat} {args args':List C} {K:TL → TEnv → C → Prop} {d:Option Nat} {x:C} (h:CallsT P f args' [] (Ret [] x)) (ha:(args.map fun c => c.canA.ren (toIn [] 1000)) = args') (k:Wf x → K L ρ x.slt):CallDT P f args L ρ d K:=by
 subst ha
 exact .frz _ h fun v Mo ⟨e1,e2⟩ hw => by subst e1 e2; exact ⟨rfl,k hw⟩
theorem callO (ks ko:List Nat) {f:Nat} {args args':List C} {K:TL → TEnv → C → Prop} {x:C} {Lin Lin' Lo:List TO} (h:CallsT P f args' Lin' (Ret Lo x)) (hs:L.sub ks = some Lin)
  (hc:(nodup? ks && nodup? ko && koOk L ks ko && boxesAt Lin ks ko) = true) (ha:(args.map fun c => c.canA.ren (toIn ks 1000)) = args') (hl:Lin.map (TO.mapC (C.ren (toIn ks 1000))) = Lin') (hn:ko.length = Lo.length)
  (k:Wf x → (∀ o ∈ Lo,o.Wf) → K (((L.dels ks).kills (rowsOf L ks)).puts ko (Lo.map (TO.mapC (C.ren (fromIn ko))))) (killsE (rowsOf L ks) ρ) (x.ren (fromIn ko)).slt):CallT P f args L ρ K:=by
 subst ha hl
 simp only [Bool.and_eq_true] at hc
 obtain ⟨⟨⟨c1,c2⟩,c3⟩,c4⟩:=hc
 exact .mk ⟨[],ks,ko,L,Lin,_,.inl rfl,hs,c1,c2,c3,c4,h,fun v Mo ⟨e1,e2⟩ hw hwo => by subst e1 e2; exact ⟨hn,k hw hwo⟩⟩
theorem callOD (ks ko:List Nat) {f:Nat} {args args':List C} {K:TL → TEnv → C → Prop} {x:C} {Lin Lin' Lo:List TO} (h:CallsT P f args' Lin' (Ret Lo x)) (hs:L.sub ks = some Lin)
  (hc:(nodup? ks && nodup? ko && koOk L ks ko && boxesAt Lin ks ko) = true) (ha:(args.map fun c => c.canA.ren (toIn ks 1000)) = args') (hl:Lin.map (TO.mapC (C.ren (toIn ks 1000))) = Lin') (hn:ko.length = Lo.length)
  (k:Wf x → (∀ o ∈ Lo,o.Wf) → K (((L.dels ks).kills (rowsOf L ks)).puts ko (Lo.map (TO.mapC (C.ren (fromIn ko))))) (killsE (rowsOf L ks) ρ) (x.ren (fromIn ko)).slt):CallT0 P f args L ρ K:=by
 subst ha hl
 simp only [Bool.and_eq_true] at hc
 obtain ⟨⟨⟨c1,c2⟩,c3⟩,c4⟩:=hc
 exact ⟨ks,ko,Lin,_,hs,c1,c2,c3,c4,h,fun v Mo ⟨e1,e2⟩ hw hwo => by subst e1 e2; exact ⟨hn,k hw hwo⟩⟩
theorem callF (fz ks ko:List Nat) {f:Nat} {args args':List C} {K:TL → TEnv → C → Prop} {x:C} {Lo Lin':List TO} (h:CallsT P f args' Lin' (Ret Lo x))
  (hf:frzK fz L ρ args fun L ρ args => ∃ Lin,L.sub ks = some Lin ∧ (nodup? ks && nodup? ko && koOk L ks ko && boxesAt Lin ks ko) = true ∧ (args.map fun c => c.canA.ren (toIn ks 1000)) = args' ∧ Lin.map (TO.mapC (C.ren (toIn ks 1000))) = Lin' ∧ ko.length = Lo.length ∧
   (Wf x → (∀ o ∈ Lo,o.Wf) → K (((L.dels ks).kills (rowsOf L ks)).puts ko (Lo.map (TO.mapC (C.ren (fromIn ko))))) (killsE (rowsOf L ks) ρ) (x.ren (fromIn ko)).slt)):CallT P f args L ρ K:=by
 refine .mk ⟨fz,ks,ko,?_⟩
 refine frzK_imp hf ?_
 rintro L ρ args ⟨Lin,hs,hc,rfl,rfl,hn,k⟩
 simp only [Bool.and_eq_true] at hc
 obtain ⟨⟨⟨c1,c2⟩,c3⟩,c4⟩:=hc
 exact ⟨L,Lin,_,.inl rfl,hs,c1,c2,c3,c4,h,fun v Mo ⟨e1,e2⟩ hw hwo => by subst e1 e2; exact ⟨hn,k hw hwo⟩⟩
where
 frzK_imp:∀ {fz:List Nat} {L:TL} {ρ:TEnv} {args:List C} {K K':TL → TEnv → List C → Prop},frzK fz L ρ args K → (∀ L ρ args,K L ρ args → K' L ρ args) → frzK fz L ρ args K'
  | [],L,ρ,args,K,K',h,hk => hk _ _ _ h
  | k :: fz,L,ρ,args,K,K',h,hk => by
   simp only [frzK] at h ⊢
   generalize L.get k = z at h ⊢
   split at h
   ·exact frzK_imp h hk
   ·exact h.elim
theorem retP {Lin:List TO} {v x:C} (hb:boxesAt Lin (List.range' 1000 Lin.length) [] = true) (e:v.canR.ren (toIn [] 1000) = x):RetT Lin L v (Ret [] x) :=
 ⟨[],[],L,v,v,[],rfl,.inl ⟨rfl,rfl⟩,rfl,rfl,hb,fun _ => ⟨rfl,e⟩⟩
theorem retO (ko:List Nat) {Lin Mo Lo:List TO} {v x:C} (hs:L.sub ko = some Mo) (hc:(nodup? ko && boxesAt Lin (List.range' 1000 Lin.length) ko) = true) (hl:Mo.map (TO.mapC (C.ren (toIn ko 1000))) = Lo) (e:v.canR.ren (toIn ko 1000) = x):RetT Lin L v (Ret Lo x):=by
 simp only [Bool.and_eq_true] at hc
 exact ⟨[],ko,L,v,v,Mo,rfl,.inl ⟨rfl,rfl⟩,hs,hc.1,hc.2,fun _ => ⟨hl,e⟩⟩
theorem retN (k t sz:Nat) {Lin:List TO} (hn:L = []) (hb:boxesAt Lin (List.range' 1000 Lin.length) [k] = true):RetT Lin L .nils (Ret [.row t sz []] (.rw 1000)):=by
 subst hn
 have hk:Nat.beq k k = true:=by simp
 refine ⟨[],[k],[(k,.row t sz [])],.nils,.rw k,[.row t sz []],rfl,.inr ⟨⟨.inr ⟨rfl,t,sz,rfl⟩,trivial⟩,.inr (.inr (.inr (.inl ⟨rfl,k,t,sz,rfl,rfl,?_⟩)))⟩,?_,rfl,hb,fun _ => ⟨rfl,?_⟩⟩
 ·simp only [TL.get,hk]
 ·simp only [TL.sub,TL.get,hk]
 ·simp only [C.canR,C.ren,C.mp,renLeaf,toIn,hk]
theorem retF (fz ko:List Nat) {Lin Lo:List TO} {v x:C} (hf:frzK fz L (fun _ => .any) [v] fun L _ vs => ∃ c Mo,vs = [c] ∧ L.sub ko = some Mo ∧ (nodup? ko && boxesAt Lin (List.range' 1000 Lin.length) ko) = true ∧ Mo.map (TO.mapC (C.ren (toIn ko 1000))) = Lo ∧ c.canR.ren (toIn ko 1000) = x):RetT Lin L v (Ret Lo x):=by
 refine ⟨fz,ko,?_⟩
 refine callF.frzK_imp hf ?_
 rintro L ρ vs ⟨c,Mo,rfl,hs,hc,hl,e⟩
 simp only [Bool.and_eq_true] at hc
 exact ⟨L,c,c,Mo,rfl,.inl ⟨rfl,rfl⟩,hs,hc.1,hc.2,fun _ => ⟨hl,e⟩⟩
theorem loopN {β:Type} {body:TL → TEnv → TK → Prop} {asg:List Nat} (n:Nat) (ki:Nat) (ls:List Nat) (s0:β) (lv:β → List C) (Lf:β → TL) (Inv:Nat → β → Prop) (h0:Inv 0 s0) (hk:leC L (Lf s0) (ρ ki) (.int .i64 0)) (hh:holdsT L (Lf s0) ls (lv s0) ρ)
  (hg:gives L (Lf s0) (Lf s0)) (hb:∀ s,keepsT L (Lf s) = true) (hl:∀ s,(lv s).length = ls.length)
  (h:∀ (k:Nat) s,k ≤ n → Inv k s → WfS (lv s) → (∀ j o,(Lf s).get j = some o → o.Wf) → (k:Int) ≤ 9223372036854775807 → body (Lf s) (putsT (ki :: ls) (.int .i64 k :: lv s) (headE asg ρ)) fun L' ρ' =>
   ∃ x':Nat × β,(x'.1 ≤ n ∧ Inv x'.1 x'.2) ∧ holdsT L' (Lf x'.2) (ki :: ls) (.int .i64 x'.1 :: lv x'.2) ρ' ∧ gives L' (Lf x'.2) (Lf x'.2) ∧ n - x'.1 < n - k):LoopT body asg L ρ:=by
 refine ⟨Nat × β,(0,s0),fun x => x.1 ≤ n ∧ Inv x.1 x.2,ki :: ls,fun x => .int .i64 x.1 :: lv x.2,fun x => Lf x.2,fun x => n - x.1,⟨Nat.zero_le _,h0⟩,⟨hk,hh⟩,hg,fun x => hb x.2,fun x => by simp [hl],?_⟩
 rintro ⟨k,s⟩ ⟨hkn,hi⟩ hw hwo
 simp only [WfS,Wf] at hw
 exact h k s hkn hi hw.2 hwo (wf_i64 hw.1).2
theorem nextI {L1:TL} {k:Nat}:leC L L1 (.int .i64 ((k:Int) + 1)) (.int .i64 ((k + 1:Nat):Int)):=.inr (.inl ⟨rfl,rfl⟩)
theorem nextM {n k:Nat} (h:k < n):n - (k + 1) < n - k:=by omega
theorem wf_len {els:List (List C)} (h:Wf (.sl els)):els.length ≤ 9223372036854775807:=by simp only [Wf,maxLen] at h; omega
theorem wf_lenM {α:Type} {f:α → List C} {l:List α} (h:Wf (.sl (l.map f))):l.length ≤ 9223372036854775807:=by have:=wf_len h; simpa using this
theorem idxT {α:Type} {f:α → List C} {l:List α} {k sz:Nat} {x:α} {es:List C} {K:List C → Prop} (hx:l[k]? = some x) (he:f x = es) (hl:lenC? es sz = true) (h:K es):IdxT (l.map f) (k:Int) sz K :=
 ⟨es,by omega,by simp [hx,he],hl,h⟩
theorem same_keys {L1:TL} {c:C} (h:hasKeysA L1 3 c = true):leC L L1 c c:=.inr (.inl ⟨rfl,h⟩)
theorem drop_end {α:Type} {l:List α} {k:Nat} (h:¬ k < l.length):l.drop k = []:=List.drop_eq_nil_iff.2 (by omega)
theorem callXO (ks ko:List Nat) {PS:Pan} {Pp:Value → Prop} {f:Nat} {args args':List C} {K:TL → TEnv → C → Prop} {x:C} {Lin Lin' Lo:List TO} (h:CallsTX P f args' Lin' (Ret Lo x) Pp) (hs:L.sub ks = some Lin)
  (hc:(nodup? ks && nodup? ko && koOk L ks ko && boxesAt Lin ks ko) = true) (ha:(args.map fun c => c.canA.ren (toIn ks 1000)) = args') (hl:Lin.map (TO.mapC (C.ren (toIn ks 1000))) = Lin') (hn:ko.length = Lo.length) (hp:∀ v,Pp v → PS.ps v)
  (k:Wf x → (∀ o ∈ Lo,o.Wf) → K (((L.dels ks).kills (rowsOf L ks)).puts ko (Lo.map (TO.mapC (C.ren (fromIn ko))))) (killsE (rowsOf L ks) ρ) (x.ren (fromIn ko)).slt) (hh:hbOk L ks PS.hb = true:=by rfl):CallXT P PS f args L ρ K:=by
 subst ha hl
 simp only [Bool.and_eq_true] at hc
 obtain ⟨⟨⟨c1,c2⟩,c3⟩,c4⟩:=hc
 exact ⟨[],ks,ko,L,Lin,_,_,.inl rfl,hs,c1,c2,c3,c4,hh,h,hp,fun v Mo ⟨e1,e2⟩ hw hwo => by subst e1 e2; exact ⟨hn,k hw hwo⟩⟩
theorem panT {PS:Pan} {c:C} {v:Value} (hv:ifcV c = some v) (h:PS.ps v) (hh:hbOk L [] PS.hb = true:=by rfl):PanT PS L c:=⟨v,hv,hh,h⟩
end
end Go.Fr.T
namespace Go.Fr
open Go Go.RowKit
mutual
def G.bulk:G → Nat
 | .int _ _ => 1
 | .bool _ => 1
 | .str s => s.size + 1
 | .sl _ l => G.bulkAll l + 1
 | .st l => G.bulkAll l + 1
def G.bulkAll:List G → Nat
 | [] => 0
 | x :: l => G.bulk x + G.bulkAll l
end
mutual
def bulkD {H:Type}:DataW H → Nat
 | .lit (.string bytes) => bytes.length + 1
 | .lit _ => 1
 | .nil => 1
 | .ptr d => bulkD d + 1
 | .slice elems spare => bulkDAll elems + bulkDAll spare + 1
 | .agg parts => bulkDAll parts + 1
 | .iface _ d => bulkD d + 1
 | .map entries => bulkDEntries entries + 1
 | .held _ => 1
def bulkDAll {H:Type}:List (DataW H) → Nat
 | [] => 0
 | d :: r => bulkD d + bulkDAll r
def bulkDEntries {H:Type}:List (Lit × DataW H) → Nat
 | [] => 0
 | x :: r => bulkDEntry x + bulkDEntries r
def bulkDEntry {H:Type}:Lit × DataW H → Nat
 | (.string bytes,d) => bytes.length + bulkD d + 1
 | (_,d) => bulkD d + 1
end
def Ok (P:Program):Nat → TypeId → G → Prop
 | 0,_,_ => False
 | n + 1,t,g => match P.underlying t with
  | some .bool => ∃ b,g = .bool b
  | some (.int k) => ∃ x,g = .int k x ∧ (Lit.int k x).wf = true
  | some .string => ∃ s,g = .str s
  | some (.slice e) => ∃ l,g = .sl (P.cellsOf e) l ∧ ∀ x ∈ l,Ok P n e x
  | some (.struct fs) => ∃ l,g = .st l ∧ l.length = fs.size ∧ ∀ (i:Nat) (f:Field) (x:G),fs[i]? = some f → l[i]? = some x → Ok P n f.type x
  | _ => False
def contig (P:Program):Nat → List Field → Nat → Bool
 | o,[],n => Nat.beq o n
 | o,f :: fs,n => Nat.beq f.offset o && contig P (o + P.cellsOf f.type) fs n
def flatT (P:Program) (S:List TypeId) (t:TypeId):Bool :=
 match P.underlying t with
 | some .bool => true
 | some (.int _) => true
 | some .string => true
 | some (.slice e) => mem? S e && Nat.blt 0 (P.cellsOf e)
 | some (.struct fs) => contig P 0 fs.toList (P.cellsOf t) && fs.toList.all fun f => mem? S f.type
 | _ => false
def flat (P:Program) (S:List TypeId):Bool:=S.all (flatT P S)
theorem choose_list {Q:Nat → G → Prop}:∀ (n:Nat),(∀ i,i < n → ∃ g,Q i g) → ∃ l:List G,l.length = n ∧ ∀ i g,l[i]? = some g → Q i g
 | 0,_ => ⟨[],rfl,fun i g h => by simp at h⟩
 | n + 1,h => by
  obtain ⟨l,h1,h2⟩:=choose_list n (fun i hi => h i (by omega))
  obtain ⟨g,hg⟩:=h n (by omega)
  refine ⟨l ++ [g],by simp [h1],fun i x hx => ?_⟩
  by_cases hi:i < l.length
  ·rw [List.getElem?_append_left hi] at hx; exact h2 i x hx
  ·rw [List.getElem?_append_right (by omega)] at hx
   have:i - l.length = 0:=by
    cases e:i - l.length with
    | zero => rfl
    | succ k => rw [e] at hx; simp at hx
   rw [this] at hx
   simp only [List.getElem?_cons_zero,Option.some.injEq] at hx
   subst hx
   have:i = n:=by omega
   subst this
   exact hg
theorem bulkAll_le {H:Type}:∀ {l:List G} {ds:List (DataW H)},l.length = ds.length → (∀ (i:Nat) g d,l[i]? = some g → ds[i]? = some d → g.bulk ≤ bulkD d) → G.bulkAll l ≤ bulkDAll ds
 | [],_,_,_ => by simp [G.bulkAll]
 | x :: l,[],h,_ => by simp at h
 | x :: l,d :: ds,h,hb => by
  simp only [G.bulkAll,bulkDAll]
  have h1:=hb 0 x d (by simp) (by simp)
  have h2:=bulkAll_le (l:=l) (ds:=ds) (by simpa using h) (fun i g d' hg hd => hb (i + 1) g d' (by simpa using hg) (by simpa using hd))
  omega
section
variable {H:Type} {enc:TypeId × Value → H} {P:Program} {w:World} {base:Nat} {spare:Nat → Bool} {held:Bool}
def frzOf (w:World):Frz:=fun b => w.heap[b]?
theorem fcells_of {a:Addr} {n:Nat} {cs:List Value} (h:w.cells? base a n = some cs) (hn:0 < n):cs.length = n ∧ FCells (frzOf w) (some a) 0 cs:=by
 obtain ⟨_,hlen,hc⟩:=World.cells?_some h
 refine ⟨hlen,?_⟩
 have h0:=hc 0 hn
 rw [List.getElem?_eq_getElem (by omega)] at h0
 have hspot:a.spot = none:=by simpa [Addr.add] using World.cell?_spot h0
 have hblk:∃ arr t fr,w.heap[a.block]? = some (.cells arr t fr):=by
  simp only [World.cell?,Addr.add] at h0
  split at h0
  ·rename_i c t fr e; exact ⟨c,t,fr,e⟩
  ·cases h0
 obtain ⟨arr,t,fr,hb⟩:=hblk
 refine ⟨a,arr,t,fr,rfl,hb,hspot,fun i v hv => ?_⟩
 have hi:i < n:=by rw [← hlen]; exact (List.getElem?_eq_some_iff.1 hv).1
 have:=hc i hi
 obtain ⟨b,o,sp⟩:=a
 simp only at hspot
 subst hspot
 rw [hv,add_none] at this
 simp only [World.cell?] at this
 simp only at hb
 rw [hb] at this
 simpa using this
theorem fcells_shift {F:Frz} {a:Addr} {n:Nat} {cs:List Value} (hs:a.spot = none) (h:FCells F (some (a.add n)) 0 cs):FCells F (some a) n cs:=by
 obtain ⟨b,o,sp⟩:=a
 simp only at hs
 subst hs
 rw [add_none] at h
 obtain ⟨ad,arr,t,fr,e,hb,hsp,hc⟩:=h
 injection e with e
 subst e
 exact ⟨_,arr,t,fr,rfl,hb,rfl,fun i v hv => by have:=hc i v hv; simpa [Nat.add_assoc] using this⟩
theorem fcells_spot {F:Frz} {a:Addr} {cs:List Value} (h:FCells F (some a) 0 cs):a.spot = none:=by
 obtain ⟨ad,arr,t,fr,e,hb,hsp,hc⟩:=h
 injection e with e
 subst e
 exact hsp
theorem trod_rd {S:List TypeId} (hS:flat P S = true):∀ (fuel:Nat) (t:TypeId) (cs:List Value) (x:DataW H × List MemPlace),t ∈ S → DataW.trod enc P w base spare held fuel t cs = some x →
  ∃ g,Ok P fuel t g ∧ Rd (frzOf w) g cs ∧ g.bulk ≤ bulkD x.1:=by
 intro fuel
 induction fuel with
 | zero => intro t cs x _ h; simp [DataW.trod] at h
 | succ n ih =>
  intro t cs x ht h
  have hf:=List.all_eq_true.1 hS t ht
  simp only [flatT] at hf
  split at hf
  ·rename_i hu
   obtain ⟨b,rfl,rfl⟩:=DataW.trod_bool hu h
   exact ⟨.bool b,by simp [Ok,hu],by simp [Rd],by simp [G.bulk,bulkD]⟩
  ·rename_i k hu
   obtain ⟨m,rfl,rfl,hw⟩:=DataW.trod_int hu h
   exact ⟨.int k m,by simp [Ok,hu,hw],by simp [Rd,hw],by simp [G.bulk,bulkD]⟩
  ·rename_i hu
   obtain ⟨s,rfl,rfl,hw⟩:=DataW.trod_string hu h
   exact ⟨.str s,by simp [Ok,hu],by simp [Rd],by simp [G.bulk,bulkD]⟩
  ·rename_i e hu
   simp only [Bool.and_eq_true] at hf
   have he:e ∈ S:=mem?_eq.1 hf.1
   have hpos:0 < P.cellsOf e:=by simpa using hf.2
   rcases DataW.trod_slice hu h with ⟨rfl,rfl⟩ | ⟨a,len,cap,elems,rest,m,e1,rfl,rfl,hb,hl,hm,hlen,hel,_,_⟩
   ·refine ⟨.sl (P.cellsOf e) [],by simp [Ok,hu],?_,by simp [G.bulk,G.bulkAll,bulkD]⟩
    rw [Rd_sl]
    exact ⟨none,0,rfl,by simp,by simp,fun _ => ⟨rfl,rfl⟩,fun j x hx => by simp at hx⟩
   ·obtain rfl:m = n:=by omega
    have hspot:0 < len → a.spot = none:=by
     intro h0
     have h1:=hel 0 h0
     rw [List.getElem?_eq_getElem (by omega)] at h1
     obtain ⟨es,h2,h3⟩:=Option.bind_eq_some_iff.1 h1
     have:=fcells_spot (fcells_of h2 hpos).2
     simpa [Addr.add] using this
    obtain ⟨l,hl1,hl2⟩:=choose_list (Q:=fun i g => Ok P m e g ∧ (∃ es,es.length = P.cellsOf e ∧ FCells (frzOf w) (some a) (i * P.cellsOf e) es ∧ Rd (frzOf w) g es) ∧ ∀ y,elems[i]? = some y → g.bulk ≤ bulkD y.1) len (by
     intro i hi
     have h1:=hel i hi
     rw [List.getElem?_eq_getElem (by omega)] at h1
     obtain ⟨es,h2,h3⟩:=Option.bind_eq_some_iff.1 h1
     obtain ⟨g,g1,g2,g3⟩:=ih e es _ he h3
     obtain ⟨g4,g5⟩:=fcells_of h2 hpos
     refine ⟨g,g1,⟨es,g4,fcells_shift (hspot (by omega)) g5,g2⟩,fun y hy => ?_⟩
     rw [List.getElem?_eq_getElem (by omega)] at hy
     injection hy with hy
     subst hy
     exact g3)
    refine ⟨.sl (P.cellsOf e) l,?_,?_,?_⟩
    ·simp only [Ok,hu]
     refine ⟨l,rfl,fun x hx => ?_⟩
     obtain ⟨i,hi⟩:=List.mem_iff_getElem?.1 hx
     exact (hl2 i x hi).1
    ·rw [Rd_sl]
     exact ⟨some a,cap,by rw [hl1],by omega,hm,fun e => (by cases e),fun j x hx => (hl2 j x hx).2.1⟩
    ·simp only [G.bulk,bulkD]
     have:=bulkAll_le (l:=l) (ds:=elems.map (·.1)) (by simp [hl1,hlen]) (fun i g d hg hd => by
      simp only [List.getElem?_map,Option.map_eq_some_iff] at hd
      obtain ⟨y,hy,rfl⟩:=hd
      exact (hl2 i g hg).2.2 y hy)
     omega
  ·rename_i fs hu
   simp only [Bool.and_eq_true] at hf
   obtain ⟨hcont,hall⟩:=hf
   obtain ⟨xs,m,e1,rfl,hlen,hxl,hfs⟩:=DataW.trod_struct hu h
   obtain rfl:m = n:=by omega
   have key:∀ (fl:List Field) (ys:List (DataW H × List MemPlace)) (o:Nat),contig P o fl (P.cellsOf t) = true → ys.length = fl.length → (∀ f ∈ fl,f.type ∈ S) →
     (∀ (i:Nat) f,fl[i]? = some f → DataW.trod enc P w base spare held m f.type ((cs.drop f.offset).take (P.cellsOf f.type)) = ys[i]?) →
     ∃ l,l.length = fl.length ∧ (∀ (i:Nat) f g,fl[i]? = some f → l[i]? = some g → Ok P m f.type g) ∧ RdAll (frzOf w) l (cs.drop o) ∧ G.bulkAll l ≤ bulkDAll (ys.map (·.1)):=by
    intro fl
    induction fl with
    | nil =>
     intro ys o hc _ _ _
     simp only [contig] at hc
     have:=Nat.eq_of_beq_eq_true hc
     refine ⟨[],rfl,fun i f g h => by simp at h,?_,by simp [G.bulkAll]⟩
     simp only [RdAll]
     rw [List.drop_eq_nil_iff]; omega
    | cons f fl ihf =>
     intro ys o hc hy hmem hfs
     simp only [contig,Bool.and_eq_true] at hc
     have hoff:=Nat.eq_of_beq_eq_true hc.1
     match ys,hy with
     | y :: ys,hy =>
      have h0:=hfs 0 f (by simp)
      simp only [List.getElem?_cons_zero] at h0
      obtain ⟨g,g1,g2,g3⟩:=ih f.type _ _ (hmem f (by simp)) h0
      obtain ⟨l,l1,l2,l3,l4⟩:=ihf ys (o + P.cellsOf f.type) hc.2 (by simpa using hy) (fun f' hf' => hmem f' (by simp [hf'])) (fun i f' hf' => by
       have:=hfs (i + 1) f' (by simpa using hf')
       simpa using this)
      refine ⟨g :: l,by simp [l1],fun i f' g' hf' hg' => ?_,?_,?_⟩
      ·cases i with
       | zero => simp only [List.getElem?_cons_zero,Option.some.injEq] at hf' hg'; subst hf'; subst hg'; exact g1
       | succ i => exact l2 i f' g' (by simpa using hf') (by simpa using hg')
      ·simp only [RdAll]
       refine ⟨(cs.drop o).take (P.cellsOf f.type),cs.drop (o + P.cellsOf f.type),?_,by rw [← hoff]; exact g2,l3⟩
       rw [← List.drop_drop,List.take_append_drop]
      ·simp only [G.bulkAll,List.map_cons,bulkDAll]; omega
   obtain ⟨l,l1,l2,l3,l4⟩:=key fs.toList xs 0 hcont (by simp [hxl]) (fun f hf => mem?_eq.1 (List.all_eq_true.1 hall f hf)) (fun i f hi => hfs i f (by simpa using hi))
   refine ⟨.st l,?_,?_,?_⟩
   ·simp only [Ok,hu]
    exact ⟨l,rfl,by simpa using l1,fun i f x hi hx => l2 i f x (by simpa using hi) hx⟩
   ·simp only [Rd]; simpa using l3
   ·simp only [G.bulk,bulkD]; omega
  ·cases hf
end
namespace Api
abbrev I (n:Int):G:=.int .i64 n
inductive Ty where
 | mk (kind id:Int) (args:List Ty)
 deriving Inhabited
def Ty.kind:Ty → Int | .mk k _ _ => k
def Ty.id:Ty → Int | .mk _ i _ => i
def Ty.args:Ty → List Ty | .mk _ _ l => l
mutual
def Ty.g:Ty → G
 | .mk k i l => .st [I k,I i,.sl 3 (Ty.gs l)]
def Ty.gs:List Ty → List G
 | [] => []
 | t :: l => t.g :: Ty.gs l
end
theorem Ty.gs_map:∀ l:List Ty,Ty.gs l = l.map Ty.g
 | [] => rfl
 | t :: l => by simp [Ty.gs,Ty.gs_map l]
structure Bound where
 param:Int
 trait:Int
def Bound.g (b:Bound):G:=.st [I b.param,I b.trait]
structure Term where
 kind:Int
 a:Int
 targets:List Int
def Term.g (x:Term):G:=.st [I x.kind,I x.a,.sl 1 (x.targets.map I)]
structure Ins where
 op:Int
 dst:Int
 a:Int
 b:Int
 n:Int
 args:List Int
 types:List Ty
def Ins.g (x:Ins):G:=.st [I x.op,I x.dst,I x.a,I x.b,I x.n,.sl 1 (x.args.map I),.sl 3 (x.types.map Ty.g)]
structure Block where
 code:List Ins
 fin:Term
def Block.g (x:Block):G:=.st [.sl 7 (x.code.map Ins.g),x.fin.g]
structure Fun where
 name:ByteArray
 module:Int
 params:Int
 bounds:List Bound
 arity:Int
 result:Ty
 locals:List Ty
 blocks:List Block
 ties:List Int
def Fun.g (f:Fun):G:=.st [.str f.name,I f.module,I f.params,.sl 2 (f.bounds.map Bound.g),I f.arity,f.result.g,.sl 3 (f.locals.map Ty.g),.sl 4 (f.blocks.map Block.g),.sl 1 (f.ties.map I)]
structure Variant where
 name:ByteArray
 fields:List Ty
def Variant.g (x:Variant):G:=.st [.str x.name,.sl 3 (x.fields.map Ty.g)]
structure Data where
 name:ByteArray
 module:Int
 params:Int
 variants:List Variant
 drop:Int
def Data.g (d:Data):G:=.st [.str d.name,I d.module,I d.params,.sl 2 (d.variants.map Variant.g),I d.drop]
structure Impl where
 trait:Int
 module:Int
 params:Int
 bounds:List Bound
 type:Ty
 func:Int
def Impl.g (x:Impl):G:=.st [I x.trait,I x.module,I x.params,.sl 2 (x.bounds.map Bound.g),x.type.g,I x.func]
structure Prog where
 modules:List ByteArray
 uses:List (List Int)
 datas:List Data
 traits:List ByteArray
 homes:List Int
 impls:List Impl
 funcs:List Fun
 main:Int
def Prog.g (p:Prog):G:=.st [.sl 1 (p.modules.map .str),.sl 1 (p.uses.map fun l => .sl 1 (l.map I)),.sl 5 (p.datas.map Data.g),.sl 1 (p.traits.map .str),.sl 1 (p.homes.map I),.sl 8 (p.impls.map Impl.g),.sl 11 (p.funcs.map Fun.g),I p.main]
section
variable {F:Frz} {cs:List Value}
end
end Api
end Go.Fr
namespace Go.Fr
open Go Go.RowKit
namespace Api
section
variable {P:Program}
def OkL (P:Program) (n:Nat):List TypeId → List G → Prop
 | [],[] => True
 | t :: ts,x :: l => Ok P n t x ∧ OkL P n ts l
 | _,_ => False
theorem okL_of {n:Nat}:∀ {fl:List Field} {l:List G},l.length = fl.length → (∀ (i:Nat) (f:Field) (x:G),fl[i]? = some f → l[i]? = some x → Ok P n f.type x) → OkL P n (fl.map (·.type)) l
 | [],[],_,_ => trivial
 | [],x :: l,h,_ => by simp at h
 | f :: fl,[],h,_ => by simp at h
 | f :: fl,x :: l,h,hk => ⟨hk 0 f x (by simp) (by simp),okL_of (by simpa using h) fun i f' x' hf hx => hk (i + 1) f' x' (by simpa using hf) (by simpa using hx)⟩
theorem ok_int {n:Nat} {t:TypeId} {g:G} {k:IntKind} (h:P.underlying t = some (.int k)) (hg:Ok P n t g):∃ x,g = .int k x:=by
 cases n with
 | zero => exact hg.elim
 | succ n => simp only [Ok,h] at hg; obtain ⟨x,h1,_⟩:=hg; exact ⟨x,h1⟩
theorem ok_str {n:Nat} {t:TypeId} {g:G} (h:P.underlying t = some .string) (hg:Ok P n t g):∃ x,g = .str x:=by
 cases n with
 | zero => exact hg.elim
 | succ n => simp only [Ok,h] at hg; exact hg
theorem ok_list {α:Type} {f:α → G}:∀ {l:List G},(∀ x ∈ l,∃ y,x = f y) → ∃ l':List α,l = l'.map f
 | [],_ => ⟨[],rfl⟩
 | x :: l,h => by
  obtain ⟨y,rfl⟩:=h x (by simp)
  obtain ⟨l',rfl⟩:=ok_list (l:=l) (fun z hz => h z (by simp [hz]))
  exact ⟨y :: l',rfl⟩
theorem ok_sl' {n:Nat} {t e:TypeId} {g:G} {sz:Nat} {α:Type} {f:α → G} (h:P.underlying t = some (.slice e)) (hsz:P.cellsOf e = sz) (hg:Ok P n t g) (he:∀ m x,m < n → Ok P m e x → ∃ y,x = f y):∃ l:List α,g = .sl sz (l.map f):=by
 cases n with
 | zero => exact hg.elim
 | succ n =>
  simp only [Ok,h] at hg
  obtain ⟨l,rfl,hl⟩:=hg
  obtain ⟨l',rfl⟩:=ok_list (f:=f) (fun x hx => he n x (by omega) (hl x hx))
  exact ⟨l',by rw [hsz]⟩
theorem ok_st {n:Nat} {t:TypeId} {g:G} {fs:Array Field} {ts:List TypeId} (h:P.underlying t = some (.struct fs)) (hts:fs.toList.map (·.type) = ts) (hg:Ok P n t g):∃ m l,m < n ∧ g = .st l ∧ OkL P m ts l:=by
 cases n with
 | zero => exact hg.elim
 | succ n =>
  simp only [Ok,h] at hg
  obtain ⟨l,rfl,hl,hk⟩:=hg
  subst hts
  exact ⟨n,l,by omega,rfl,okL_of (by simpa using hl) fun i f x hf hx => hk i f x (by simpa using hf) hx⟩
def isSt (P:Program) (t:TypeId) (ts:List TypeId):Bool:=match P.underlying t with | some (.struct fs) => decide (fs.toList.map (·.type) = ts) | _ => false
def isSl (P:Program) (t e sz:Nat):Bool:=match P.underlying t with | some (.slice e') => Nat.beq e' e && Nat.beq (P.cellsOf e) sz | _ => false
def isI (P:Program) (t:TypeId):Bool:=match P.underlying t with | some (.int .i64) => true | _ => false
def isS (P:Program) (t:TypeId):Bool:=match P.underlying t with | some .string => true | _ => false
theorem isSt_ok {t:TypeId} {ts:List TypeId} (h:isSt P t ts = true) {n:Nat} {g:G} (hg:Ok P n t g):∃ m l,m < n ∧ g = .st l ∧ OkL P m ts l:=by
 simp only [isSt] at h
 split at h
 ·rename_i fs hu; exact ok_st hu (by simpa using h) hg
 ·cases h
theorem isSl_ok {t e sz:Nat} (h:isSl P t e sz = true) {n:Nat} {g:G} {α:Type} {f:α → G} (hg:Ok P n t g) (he:∀ m x,m < n → Ok P m e x → ∃ y,x = f y):∃ l:List α,g = .sl sz (l.map f):=by
 simp only [isSl] at h
 split at h
 ·rename_i e' hu
  simp only [Bool.and_eq_true] at h
  have h1:=Nat.eq_of_beq_eq_true h.1
  have h2:=Nat.eq_of_beq_eq_true h.2
  subst h1
  exact ok_sl' hu h2 hg he
 ·cases h
theorem isI_ok {t:TypeId} (h:isI P t = true) {n:Nat} {g:G} (hg:Ok P n t g):∃ x,g = I x:=by
 simp only [isI] at h
 split at h
 ·rename_i hu; exact ok_int hu hg
 ·cases h
theorem isS_ok {t:TypeId} (h:isS P t = true) {n:Nat} {g:G} (hg:Ok P n t g):∃ x,g = .str x:=by
 simp only [isS] at h
 split at h
 ·rename_i hu; exact ok_str hu hg
 ·cases h
theorem okL1 {n:Nat} {t1:TypeId} {l:List G} (h:OkL P n [t1] l):∃ a,l = [a] ∧ Ok P n t1 a:=by
 match l,h with
 | [a],h => exact ⟨a,rfl,h.1⟩
theorem okL_cons {n:Nat} {t1:TypeId} {ts:List TypeId} {l:List G} (h:OkL P n (t1 :: ts) l):∃ a r,l = a :: r ∧ Ok P n t1 a ∧ OkL P n ts r:=by
 match l,h with
 | a :: r,h => exact ⟨a,r,rfl,h.1,h.2⟩
theorem ok_ty {t ti ts:TypeId} (hi:isI P ti = true) (ht:isSt P t [ti,ti,ts] = true) (hs:isSl P ts t 3 = true):∀ (n:Nat) (g:G),Ok P n t g → ∃ x:Ty,g = x.g:=by
 intro n
 induction n using Nat.strongRecOn with
 | _ n ih =>
  intro g hg
  obtain ⟨m,l,hm,rfl,hl⟩:=isSt_ok ht hg
  obtain ⟨a,l,rfl,ha,hl⟩:=okL_cons hl
  obtain ⟨b,l,rfl,hb,hl⟩:=okL_cons hl
  obtain ⟨c,rfl,hc⟩:=okL1 hl
  obtain ⟨k,rfl⟩:=isI_ok hi ha
  obtain ⟨i,rfl⟩:=isI_ok hi hb
  obtain ⟨xs,rfl⟩:=isSl_ok hs hc (f:=Ty.g) (fun m' x hm' hx => ih m' (by omega) x hx)
  exact ⟨.mk k i xs,by simp [Ty.g,Ty.gs_map]⟩
structure Ids where
 int:TypeId
 str:TypeId
 ints:TypeId
 strs:TypeId
 intss:TypeId
 ty:TypeId
 tys:TypeId
 bound:TypeId
 bounds:TypeId
 term:TypeId
 ins:TypeId
 inss:TypeId
 block:TypeId
 blocks:TypeId
 func:TypeId
 funcs:TypeId
 variant:TypeId
 variants:TypeId
 data:TypeId
 datas:TypeId
 impl:TypeId
 impls:TypeId
 prog:TypeId
def Ids.tyOk (P:Program) (d:Ids):Bool:=isI P d.int && isSt P d.ty [d.int,d.int,d.tys] && isSl P d.tys d.ty 3
def Ids.funcOk (P:Program) (d:Ids):Bool:=d.tyOk P && isS P d.str && isSl P d.ints d.int 1 && isSt P d.bound [d.int,d.int] && isSl P d.bounds d.bound 2 && isSt P d.term [d.int,d.int,d.ints] &&
 isSt P d.ins [d.int,d.int,d.int,d.int,d.int,d.ints,d.tys] && isSl P d.inss d.ins 7 && isSt P d.block [d.inss,d.term] && isSl P d.blocks d.block 4 &&
 isSt P d.func [d.str,d.int,d.int,d.bounds,d.int,d.ty,d.tys,d.blocks,d.ints]
def Ids.progOk (P:Program) (d:Ids):Bool:=d.funcOk P && isSl P d.strs d.str 1 && isSl P d.intss d.ints 1 && isSt P d.variant [d.str,d.tys] && isSl P d.variants d.variant 2 && isSt P d.data [d.str,d.int,d.int,d.variants,d.int] &&
 isSl P d.datas d.data 5 && isSt P d.impl [d.int,d.int,d.int,d.bounds,d.ty,d.int] && isSl P d.impls d.impl 8 && isSl P d.funcs d.func 11 && isSt P d.prog [d.strs,d.intss,d.datas,d.strs,d.ints,d.impls,d.funcs,d.int]
theorem Ids.func_of {d:Ids} (h:d.progOk P = true):d.funcOk P = true:=by
 simp only [Ids.progOk,Bool.and_eq_true] at h
 exact h.1.1.1.1.1.1.1.1.1.1
theorem Ids.ty_of {d:Ids} (h:d.funcOk P = true):d.tyOk P = true:=by
 simp only [Ids.funcOk,Bool.and_eq_true] at h
 exact h.1.1.1.1.1.1.1.1.1.1
theorem Ids.ty' {d:Ids} (h:d.tyOk P = true) {n:Nat} {g:G} (hg:Ok P n d.ty g):∃ x:Ty,g = x.g:=by
 simp only [Ids.tyOk,Bool.and_eq_true] at h
 exact ok_ty h.1.1 h.1.2 h.2 n g hg
theorem Ids.i {d:Ids} (h:d.tyOk P = true) {n:Nat} {g:G} (hg:Ok P n d.int g):∃ x:Int,g = I x:=by
 simp only [Ids.tyOk,Bool.and_eq_true] at h
 exact isI_ok h.1.1 hg
theorem Ids.tysOk {d:Ids} (h:d.tyOk P = true) {n:Nat} {g:G} (hg:Ok P n d.tys g):∃ x:List Ty,g = .sl 3 (x.map Ty.g):=by
 have h':=h
 simp only [Ids.tyOk,Bool.and_eq_true] at h'
 exact isSl_ok h'.2 hg fun m x _ hx => Ids.ty' h hx
theorem Ids.bnd {d:Ids} (h:d.funcOk P = true) {n:Nat} {g:G} (hg:Ok P n d.bound g):∃ x:Bound,g = x.g:=by
 have hf:=h
 have ht:=Ids.ty_of hf
 have hf':=hf
 simp only [Ids.funcOk,Bool.and_eq_true] at hf'
 obtain ⟨⟨⟨⟨⟨⟨⟨⟨⟨⟨_,k1⟩,k2⟩,k3⟩,k4⟩,k5⟩,k6⟩,k7⟩,k8⟩,k9⟩,k10⟩:=hf'
 obtain ⟨m,l0,hm,rfl,hl0⟩:=isSt_ok k3 hg
 obtain ⟨g0,l1,rfl,e0,hl1⟩:=okL_cons hl0
 obtain ⟨v0,rfl⟩:=Ids.i ht e0
 obtain ⟨g1,rfl,e1⟩:=okL1 hl1
 obtain ⟨v1,rfl⟩:=Ids.i ht e1
 exact ⟨⟨v0,v1⟩,rfl⟩
theorem Ids.trm {d:Ids} (h:d.funcOk P = true) {n:Nat} {g:G} (hg:Ok P n d.term g):∃ x:Term,g = x.g:=by
 have hf:=h
 have ht:=Ids.ty_of hf
 have hf':=hf
 simp only [Ids.funcOk,Bool.and_eq_true] at hf'
 obtain ⟨⟨⟨⟨⟨⟨⟨⟨⟨⟨_,k1⟩,k2⟩,k3⟩,k4⟩,k5⟩,k6⟩,k7⟩,k8⟩,k9⟩,k10⟩:=hf'
 obtain ⟨m,l0,hm,rfl,hl0⟩:=isSt_ok k5 hg
 obtain ⟨g0,l1,rfl,e0,hl1⟩:=okL_cons hl0
 obtain ⟨v0,rfl⟩:=Ids.i ht e0
 obtain ⟨g1,l2,rfl,e1,hl2⟩:=okL_cons hl1
 obtain ⟨v1,rfl⟩:=Ids.i ht e1
 obtain ⟨g2,rfl,e2⟩:=okL1 hl2
 obtain ⟨v2,rfl⟩:=isSl_ok k2 e2 (f:=I) fun m x _ hx => Ids.i ht hx
 exact ⟨⟨v0,v1,v2⟩,rfl⟩
theorem Ids.ins' {d:Ids} (h:d.funcOk P = true) {n:Nat} {g:G} (hg:Ok P n d.ins g):∃ x:Ins,g = x.g:=by
 have hf:=h
 have ht:=Ids.ty_of hf
 have hf':=hf
 simp only [Ids.funcOk,Bool.and_eq_true] at hf'
 obtain ⟨⟨⟨⟨⟨⟨⟨⟨⟨⟨_,k1⟩,k2⟩,k3⟩,k4⟩,k5⟩,k6⟩,k7⟩,k8⟩,k9⟩,k10⟩:=hf'
 obtain ⟨m,l0,hm,rfl,hl0⟩:=isSt_ok k6 hg
 obtain ⟨g0,l1,rfl,e0,hl1⟩:=okL_cons hl0
 obtain ⟨v0,rfl⟩:=Ids.i ht e0
 obtain ⟨g1,l2,rfl,e1,hl2⟩:=okL_cons hl1
 obtain ⟨v1,rfl⟩:=Ids.i ht e1
 obtain ⟨g2,l3,rfl,e2,hl3⟩:=okL_cons hl2
 obtain ⟨v2,rfl⟩:=Ids.i ht e2
 obtain ⟨g3,l4,rfl,e3,hl4⟩:=okL_cons hl3
 obtain ⟨v3,rfl⟩:=Ids.i ht e3
 obtain ⟨g4,l5,rfl,e4,hl5⟩:=okL_cons hl4
 obtain ⟨v4,rfl⟩:=Ids.i ht e4
 obtain ⟨g5,l6,rfl,e5,hl6⟩:=okL_cons hl5
 obtain ⟨v5,rfl⟩:=isSl_ok k2 e5 (f:=I) fun m x _ hx => Ids.i ht hx
 obtain ⟨g6,rfl,e6⟩:=okL1 hl6
 obtain ⟨v6,rfl⟩:=Ids.tysOk ht e6
 exact ⟨⟨v0,v1,v2,v3,v4,v5,v6⟩,rfl⟩
theorem Ids.blk {d:Ids} (h:d.funcOk P = true) {n:Nat} {g:G} (hg:Ok P n d.block g):∃ x:Block,g = x.g:=by
 have hf:=h
 have ht:=Ids.ty_of hf
 have hf':=hf
 simp only [Ids.funcOk,Bool.and_eq_true] at hf'
 obtain ⟨⟨⟨⟨⟨⟨⟨⟨⟨⟨_,k1⟩,k2⟩,k3⟩,k4⟩,k5⟩,k6⟩,k7⟩,k8⟩,k9⟩,k10⟩:=hf'
 obtain ⟨m,l0,hm,rfl,hl0⟩:=isSt_ok k8 hg
 obtain ⟨g0,l1,rfl,e0,hl1⟩:=okL_cons hl0
 obtain ⟨v0,rfl⟩:=isSl_ok k7 e0 (f:=Ins.g) fun m x _ hx => Ids.ins' hf hx
 obtain ⟨g1,rfl,e1⟩:=okL1 hl1
 obtain ⟨v1,rfl⟩:=Ids.trm hf e1
 exact ⟨⟨v0,v1⟩,rfl⟩
theorem Ids.fn {d:Ids} (h:d.funcOk P = true) {n:Nat} {g:G} (hg:Ok P n d.func g):∃ x:Fun,g = x.g:=by
 have hf:=h
 have ht:=Ids.ty_of hf
 have hf':=hf
 simp only [Ids.funcOk,Bool.and_eq_true] at hf'
 obtain ⟨⟨⟨⟨⟨⟨⟨⟨⟨⟨_,k1⟩,k2⟩,k3⟩,k4⟩,k5⟩,k6⟩,k7⟩,k8⟩,k9⟩,k10⟩:=hf'
 obtain ⟨m,l0,hm,rfl,hl0⟩:=isSt_ok k10 hg
 obtain ⟨g0,l1,rfl,e0,hl1⟩:=okL_cons hl0
 obtain ⟨v0,rfl⟩:=isS_ok k1 e0
 obtain ⟨g1,l2,rfl,e1,hl2⟩:=okL_cons hl1
 obtain ⟨v1,rfl⟩:=Ids.i ht e1
 obtain ⟨g2,l3,rfl,e2,hl3⟩:=okL_cons hl2
 obtain ⟨v2,rfl⟩:=Ids.i ht e2
 obtain ⟨g3,l4,rfl,e3,hl4⟩:=okL_cons hl3
 obtain ⟨v3,rfl⟩:=isSl_ok k4 e3 (f:=Bound.g) fun m x _ hx => Ids.bnd hf hx
 obtain ⟨g4,l5,rfl,e4,hl5⟩:=okL_cons hl4
 obtain ⟨v4,rfl⟩:=Ids.i ht e4
 obtain ⟨g5,l6,rfl,e5,hl6⟩:=okL_cons hl5
 obtain ⟨v5,rfl⟩:=Ids.ty' ht e5
 obtain ⟨g6,l7,rfl,e6,hl7⟩:=okL_cons hl6
 obtain ⟨v6,rfl⟩:=Ids.tysOk ht e6
 obtain ⟨g7,l8,rfl,e7,hl8⟩:=okL_cons hl7
 obtain ⟨v7,rfl⟩:=isSl_ok k9 e7 (f:=Block.g) fun m x _ hx => Ids.blk hf hx
 obtain ⟨g8,rfl,e8⟩:=okL1 hl8
 obtain ⟨v8,rfl⟩:=isSl_ok k2 e8 (f:=I) fun m x _ hx => Ids.i ht hx
 exact ⟨⟨v0,v1,v2,v3,v4,v5,v6,v7,v8⟩,rfl⟩
theorem Ids.imp {d:Ids} (h:d.progOk P = true) {n:Nat} {g:G} (hg:Ok P n d.impl g):∃ x:Impl,g = x.g:=by
 have h0:=h
 have hf:=Ids.func_of h
 have ht:=Ids.ty_of hf
 have hf':=hf
 simp only [Ids.funcOk,Bool.and_eq_true] at hf'
 obtain ⟨⟨⟨⟨⟨⟨⟨⟨⟨⟨_,k1⟩,k2⟩,k3⟩,k4⟩,k5⟩,k6⟩,k7⟩,k8⟩,k9⟩,k10⟩:=hf'
 simp only [Ids.progOk,Bool.and_eq_true] at h
 obtain ⟨⟨⟨⟨⟨⟨⟨⟨⟨⟨h,p1⟩,p2⟩,p3⟩,p4⟩,p5⟩,p6⟩,p7⟩,p8⟩,p9⟩,p10⟩:=h
 obtain ⟨m,l0,hm,rfl,hl0⟩:=isSt_ok p7 hg
 obtain ⟨g0,l1,rfl,e0,hl1⟩:=okL_cons hl0
 obtain ⟨v0,rfl⟩:=Ids.i ht e0
 obtain ⟨g1,l2,rfl,e1,hl2⟩:=okL_cons hl1
 obtain ⟨v1,rfl⟩:=Ids.i ht e1
 obtain ⟨g2,l3,rfl,e2,hl3⟩:=okL_cons hl2
 obtain ⟨v2,rfl⟩:=Ids.i ht e2
 obtain ⟨g3,l4,rfl,e3,hl4⟩:=okL_cons hl3
 obtain ⟨v3,rfl⟩:=isSl_ok k4 e3 (f:=Bound.g) fun m x _ hx => Ids.bnd hf hx
 obtain ⟨g4,l5,rfl,e4,hl5⟩:=okL_cons hl4
 obtain ⟨v4,rfl⟩:=Ids.ty' ht e4
 obtain ⟨g5,rfl,e5⟩:=okL1 hl5
 obtain ⟨v5,rfl⟩:=Ids.i ht e5
 exact ⟨⟨v0,v1,v2,v3,v4,v5⟩,rfl⟩
end
end Api
end Go.Fr
namespace Go.Fr.T
open Go Go.RowKit Go.Fr
mutual
def gcs:G → List C
 | .int k n => [.int k n]
 | .bool b => [.bool b]
 | .str s => [.str s]
 | .sl _ l => [.sl (gcss l)]
 | .st l => gflat l
def gcss:List G → List (List C)
 | [] => []
 | x :: l => gcs x :: gcss l
def gflat:List G → List C
 | [] => []
 | x :: l => gcs x ++ gflat l
end
theorem gcss_map:∀ l:List G,gcss l = l.map gcs
 | [] => rfl
 | x :: l => by simp only [gcss,List.map_cons,gcss_map l]
theorem onesL_append {a b:List C} (h:onesL a = true) (k:onesL b = true):onesL (a ++ b) = true:=by
 rw [onesL_iff] at *
 intro c hc
 rcases List.mem_append.1 hc with hc | hc
 ·exact h c hc
 ·exact k c hc
mutual
theorem rd_rels {F:Frz}:∀ {g:G} {cs:List Value},Rd F g cs → g.bulk ≤ maxLen → Rels F [] (gcs g) cs ∧ onesL (gcs g) = true
 | .int k n,cs,h,hb => by
  simp only [Rd] at h
  obtain ⟨rfl,h⟩:=h
  simp only [gcs,Rels,Rel]
  exact ⟨⟨_,_,rfl,⟨rfl,h⟩,rfl⟩,rfl⟩
 | .bool b,cs,h,hb => by
  simp only [Rd] at h
  subst h
  simp only [gcs,Rels,Rel]
  exact ⟨⟨_,_,rfl,rfl,rfl⟩,rfl⟩
 | .str s,cs,h,hb => by
  simp only [Rd] at h
  subst h
  simp only [G.bulk] at hb
  simp only [gcs,Rels,Rel]
  exact ⟨⟨_,_,rfl,⟨rfl,by omega⟩,rfl⟩,rfl⟩
 | .sl sz l,cs,h,hb => by
  simp only [Rd] at h
  obtain ⟨a,c,rfl,h1,h2,h3,h4⟩:=h
  simp only [G.bulk] at hb
  have hl:(gcss l).length = l.length:=by simp [gcss_map]
  simp only [gcs,Rels,Rel]
  refine ⟨⟨_,_,rfl,⟨a,c,by rw [hl],by rw [hl]; exact h1,by rw [hl]; omega,fun e => ?_,sz,rdSl_rels h4 (by omega)⟩,rfl⟩,rfl⟩
  obtain ⟨e1,e2⟩:=h3 e
  subst e1
  exact ⟨rfl,e2⟩
 | .st l,cs,h,hb => by
  simp only [Rd] at h
  simp only [G.bulk] at hb
  simp only [gcs]
  exact rdAll_rels h (by omega)
theorem rdSl_rels {F:Frz} {a:Option Addr} {sz:Nat}:∀ {i:Nat} {l:List G},RdSl F a sz i l → G.bulkAll l ≤ maxLen → RelS F a sz i (gcss l)
 | _,[],_,_ => by simp only [gcss,RelS]
 | i,x :: l,h,hb => by
  simp only [RdSl] at h
  obtain ⟨⟨es,h1,h2,h3⟩,h4⟩:=h
  simp only [G.bulkAll] at hb
  obtain ⟨r1,r2⟩:=rd_rels h3 (by omega)
  simp only [gcss,RelS]
  exact ⟨⟨es,h1,h2,r2,r1⟩,rdSl_rels h4 (by omega)⟩
theorem rdAll_rels {F:Frz}:∀ {l:List G} {cs:List Value},RdAll F l cs → G.bulkAll l ≤ maxLen → Rels F [] (gflat l) cs ∧ onesL (gflat l) = true
 | [],cs,h,_ => by simp only [RdAll] at h; subst h; simp only [gflat,Rels]; exact ⟨trivial,rfl⟩
 | x :: l,cs,h,hb => by
  simp only [RdAll] at h
  obtain ⟨c1,c2,rfl,h1,h2⟩:=h
  simp only [G.bulkAll] at hb
  obtain ⟨r1,r2⟩:=rd_rels h1 (by omega)
  obtain ⟨q1,q2⟩:=rdAll_rels h2 (by omega)
  simp only [gflat]
  exact ⟨r1.append q1,onesL_append r2 q2⟩
end
open Api
abbrev IC (n:Int):C:=.int .i64 n
def ics (l:List Int):List (List C):=l.map fun n => [IC n]
def scs (l:List ByteArray):List (List C):=l.map fun s => [C.str s]
mutual
def tyC:Ty → List C
 | .mk k i l => [IC k,IC i,.sl (tyCs l)]
def tyCs:List Ty → List (List C)
 | [] => []
 | t :: l => tyC t :: tyCs l
end
theorem tyCs_map:∀ l:List Ty,tyCs l = l.map tyC
 | [] => rfl
 | t :: l => by simp only [tyCs,List.map_cons,tyCs_map l]
theorem tyC_eq (t:Ty):tyC t = [IC t.kind,IC t.id,.sl (t.args.map tyC)]:=by
 cases t
 simp only [tyC,tyCs_map,Ty.kind,Ty.id,Ty.args]
def boundC (b:Bound):List C:=[IC b.param,IC b.trait]
def insC (x:Ins):List C:=[IC x.op,IC x.dst,IC x.a,IC x.b,IC x.n,.sl (ics x.args),.sl (x.types.map tyC)]
def blockC (x:Block):List C:=[.sl (x.code.map insC),IC x.fin.kind,IC x.fin.a,.sl (ics x.fin.targets)]
def funC (f:Fun):List C:=[.str f.name,IC f.module,IC f.params,.sl (f.bounds.map boundC),IC f.arity,IC f.result.kind,IC f.result.id,.sl (f.result.args.map tyC),.sl (f.locals.map tyC),.sl (f.blocks.map blockC),.sl (ics f.ties)]
def variantC (x:Variant):List C:=[.str x.name,.sl (x.fields.map tyC)]
def dataC (d:Api.Data):List C:=[.str d.name,IC d.module,IC d.params,.sl (d.variants.map variantC),IC d.drop]
def implC (x:Impl):List C:=[IC x.trait,IC x.module,IC x.params,.sl (x.bounds.map boundC),IC x.type.kind,IC x.type.id,.sl (x.type.args.map tyC),IC x.func]
def progC (p:Prog):List C:=[.sl (scs p.modules),.sl (p.uses.map fun l => [.sl (ics l)]),.sl (p.datas.map dataC),.sl (scs p.traits),.sl (ics p.homes),.sl (p.impls.map implC),.sl (p.funcs.map funC),IC p.main]
mutual
theorem gcs_ty:∀ t:Ty,gcs t.g = tyC t
 | .mk k i l => by simp only [Ty.g,gcs,gflat,tyC,gcs_tys l,List.append_nil,List.cons_append,List.nil_append]
theorem gcs_tys:∀ l:List Ty,gcss (Ty.gs l) = tyCs l
 | [] => rfl
 | t :: l => by simp only [Ty.gs,gcss,tyCs,gcs_ty t,gcs_tys l]
end
theorem idxS {l:List ByteArray} {k:Nat} {x:ByteArray} {K:List C → Prop} (hx:l[k]? = some x) (h:K [.str x]):IdxT (scs l) (k:Int) 1 K:=⟨[.str x],by omega,by simp [scs,hx],rfl,h⟩
theorem idxTy {l:List Ty} {k:Nat} {x:Ty} {K:List C → Prop} (hx:l[k]? = some x) (h:K [IC x.kind,IC x.id,.sl (x.args.map tyC)]):IdxT (l.map tyC) (k:Int) 3 K:=idxT hx (tyC_eq x) rfl h
end Go.Fr.T
namespace Go.Fr.T
open Go Go.RowKit Go.Fr Go.ChangeShapes Go.WideShapes Go.ChangeAt
def argC:G → C
 | .int k n => .int k n
 | .bool b => .bool b
 | .str s => .str s
 | .sl _ l => .sl (gcss l)
 | .st l => .agg (gflat l)
def OkA (P:Program):List TypeId → List G → Prop
 | [],[] => True
 | t :: ts,g :: gs => (∃ n,Ok P n t g) ∧ OkA P ts gs
 | _,_ => False
section
variable {H:Type} {enc:TypeId × Value → H} {P:Program} {W:World}
theorem rels_one {F:Frz} {L:Loc} {c:C} {v:Value} (h:Rels F L [c] [v]):Rel F L c v:=by
 simp only [Rels] at h
 obtain ⟨x,y,e,h1,h2⟩:=h
 injection e with e1 e2
 subst e1
 exact h1
theorem arg_rel {S:List TypeId} (hS:flat P S = true) {t:TypeId} (ht:t ∈ S) {r:Reach} {b0:Nat} {sp:Nat → Bool} {hd:Bool} {v:Value} {d:DataW H} {ps:List MemPlace} (hval:Value.okWide P W r b0 t v)
  (h:DataW.Trod enc P W 0 sp hd t v d ps) (hb:bulkD d ≤ maxLen):∃ n g,Ok P n t g ∧ Rel (frzOf W) [] (argC g) v ∧ g.bulk ≤ bulkD d:=by
 obtain ⟨fuel,h⟩:=h
 obtain ⟨g,h1,h2,h3⟩:=trod_rd hS fuel t _ _ ht h
 refine ⟨fuel,g,h1,?_,h3⟩
 have h4:=(rd_rels h2 (Nat.le_trans h3 hb)).1
 have hf:=List.all_eq_true.1 hS t ht
 cases fuel with
 | zero => exact h1.elim
 | succ n =>
 simp only [flatT] at hf
 simp only [Ok] at h1
 split at hf
 ·rename_i hu
  obtain ⟨b,rfl⟩:=okWide_bool hu hval
  simp only [hu] at h1
  obtain ⟨b',rfl⟩:=h1
  exact rels_one h4
 ·rename_i k hu
  obtain ⟨m,rfl⟩:=okWide_int hu hval
  simp only [hu] at h1
  obtain ⟨b',rfl,_⟩:=h1
  exact rels_one h4
 ·rename_i hu
  obtain ⟨m,rfl⟩:=okWide_string hu hval
  simp only [hu] at h1
  obtain ⟨b',rfl⟩:=h1
  exact rels_one h4
 ·rename_i e hu
  obtain ⟨a,l,c,rfl⟩:=okWide_slice hu hval
  simp only [hu] at h1
  obtain ⟨b',rfl,_⟩:=h1
  exact rels_one h4
 ·rename_i fs hu
  simp only [Value.okWide,hu] at hval
  obtain ⟨cs,rfl,_,_⟩:=hval
  simp only [hu] at h1
  obtain ⟨l,rfl,_⟩:=h1
  simp only [argC,Rel]
  exact ⟨cs.toList,by simp,h4⟩
 ·cases hf
theorem args_rels {S:List TypeId} (hS:flat P S = true) {r:Reach} {b0:Nat} {sp:Nat → Bool} {hd:Bool}:∀ {ts:List TypeId} {vs:List Value} {ds:List (DataW H)} {ps:List MemPlace},(∀ t ∈ ts,t ∈ S) →
  (∀ (j:Nat) t v,ts[j]? = some t → vs[j]? = some v → Value.okWide P W r b0 t v) → DataW.TrodAll enc P W 0 sp hd ts vs ds ps → bulkDAll ds ≤ maxLen →
  ∃ gs,OkA P ts gs ∧ Rels (frzOf W) [] (gs.map argC) vs ∧ G.bulkAll gs ≤ bulkDAll ds
 | [],[],[],_,_,_,_,_ => ⟨[],trivial,by simp only [List.map_nil,Rels],by simp [G.bulkAll]⟩
 | t :: ts,v :: vs,d :: ds,ps,hm,hv,⟨p,q,h1,h2,_⟩,hb => by
  simp only [bulkDAll] at hb ⊢
  obtain ⟨n,g,g1,g2,g3⟩:=arg_rel hS (hm t (by simp)) (hv 0 t v rfl rfl) h1 (by omega)
  obtain ⟨gs,k1,k2,k3⟩:=args_rels hS (fun t ht => hm t (by simp [ht])) (fun j t v ht hv' => hv (j + 1) t v (by simpa using ht) (by simpa using hv')) h2 (by omega)
  refine ⟨g :: gs,⟨⟨n,g1⟩,k1⟩,?_,by simp only [G.bulkAll]; omega⟩
  simp only [List.map_cons,Rels]
  exact ⟨v,vs,rfl,g2,k2⟩
 | [],_ :: _,_,_,_,_,h,_ => h.elim
 | [],[],_ :: _,_,_,_,h,_ => h.elim
 | _ :: _,[],_,_,_,_,h,_ => h.elim
 | _ :: _,_ :: _,[],_,_,_,h,_ => h.elim
theorem trodAll_below {ts:List TypeId} (hl:laidOutB P = true) (hr:ts.all (fun t => P.readableRec t && decide (t < P.types.size)) = true) {W':World} (hb:Below W.heap.size W W') {sp:Nat → Bool} :
  ∀ {vs:List Value} {ds:List (DataW H)} {ps:List MemPlace},DataW.TrodAll enc P W 0 (fun _ => true) true ts vs ds ps → (∀ x ∈ ps,x.block < W.heap.size) → (∀ x ∈ ps,sp x.block = true) → DataW.TrodAll enc P W' 0 sp true ts vs ds ps:=by
 induction ts with
 | nil =>
  intro vs ds ps h _ _
  match vs,ds,h with
  | [],[],h => exact h
 | cons t ts ih =>
  intro vs ds ps h h1 h2
  match vs,ds,h with
  | v :: vs,d :: ds,⟨p,q,k1,k2,e⟩ =>
   subst e
   simp only [List.all_cons,Bool.and_eq_true,decide_eq_true_eq] at hr
   refine ⟨p,q,WideElems.Trod_stays hl hr.1.1 hr.1.2 k1 (fun x hx => hb.same (h1 x (by simp [hx]))) (fun x hx => h2 x (by simp [hx])),ih (by simpa using hr.2) k2 (fun x hx => h1 x (by simp [hx])) (fun x hx => h2 x (by simp [hx])),rfl⟩
theorem post_of_below {f:Func} {s:ChangeSpec} {W W':World} {args:Array Value} {v:Value} {ds gs:List (DataW H)} {before pa pv:List MemPlace}
  (hW:DataW.Whole enc P f.params.toList s.vars false W args.toList ds gs before)
  (hres:∀ (b:Nat) (sp:Nat → Bool) (hd:Bool),DataW.TrodAll enc P W' b sp hd f.resultTypes.toList (v.resultList f.resultTypes.size) (s.fn H (ds ++ gs)).results [])
  (hargs:∀ sp:Nat → Bool,(∀ p ∈ before,sp p.block = true) → DataW.TrodAll enc P W' 0 sp true f.params.toList args.toList (s.fn H (ds ++ gs)).args pa)
  (hvars:∀ sp:Nat → Bool,(∀ p ∈ before,sp p.block = true) → DataW.TrodVars enc P W' sp s.vars (s.fn H (ds ++ gs)).vars pv)
  (hps:before = pa ++ pv) (hb:Below W.heap.size W W')
  (hok:∀ (j:Nat) (t:TypeId) (r:Value),f.resultTypes[j]? = some t → (v.resultList f.resultTypes.size)[j]? = some r → Value.okWide P W' .any 0 t r) :
  s.post enc P f false true false false W args v W':=by
 have hold:∀ p ∈ before,(fun b => decide (b < W.heap.size)) p.block = true:=fun p hp => by simpa using hW.lt p hp
 have hlt:∀ p ∈ before,p.block < W.heap.size:=fun p hp => hW.lt p hp
 refine ⟨ds,gs,before,[],pa,pv,hW,hres _ _ _,hargs _ hold,hvars _ hold,World.keptBut_mono (fun p hp => ⟨hp,?_⟩) (hb.frame (· ∈ before)),fun _ => ?_⟩
 ·rw [hps,List.mem_append] at hp
  exact Or.inr hp
 ·obtain ⟨_,_,_,_,_,hz,hn⟩:=hW
  refine ⟨hok,_,_,([] ++ pa) ++ pv,⟨[] ++ pa,pv,trodAll_append (hargs _ (fun _ _ => rfl)) (hres _ _ _),hvars _ (fun _ _ => rfl),rfl,?_,?_⟩,?_⟩
  ·intro b off hp
   have hp':MemPlace.cell b off ∈ before:=by rw [hps]; simpa using hp
   rw [hb.frozen (p:=⟨b,off,none⟩) (hlt _ hp')]
   exact hz b off hp'
  ·intro ha
   cases ha
  ·intro p hp _
   rw [hps]
   simpa using hp
theorem entry {f:FuncId} {ts:List TypeId} {S:List TypeId} (hS:flat P S = true) (hm:∀ t ∈ ts,t ∈ S) {r:Reach} {b0:Nat} {args:Array Value} {ds:List (DataW H)} {ps:List MemPlace}
  (hval:∀ (j:Nat) t v,ts[j]? = some t → args.toList[j]? = some v → Value.okWide P W r b0 t v) (h:DataW.TrodAll enc P W 0 (fun _ => true) true ts args.toList ds ps) (hk:bulkDAll ds ≤ 1048576)
  (hG:Glob (frzOf W)) (law:∀ gs,OkA P ts gs → G.bulkAll gs ≤ 1048576 → CallsT P f (gs.map argC) [] (Ret [] (.bool true))) :
  Calls P f args W fun e W' => e = .returned (.bool true) ∧ Below W.heap.size W W':=by
 obtain ⟨gs,k1,k2,k3⟩:=args_rels hS hm hval h (Nat.le_trans hk (by decide))
 have hc:=(law gs k1 (by omega)).out (frzOf W) [] args.toList rfl (fun k => by rw [show (inp []).get k = none from rfl,show (tinp []).get k = none from rfl]; trivial) k2
 have he:∀ k,(inp []).get k = none:=fun _ => rfl
 have hs0:St (frzOf W) (inp []) W:=⟨fun b o h => h,fun k o h => (by rw [he] at h; cases h),fun k o g h => (by rw [he] at h; cases h),fun k k' o o' g h => (by rw [he] at h; cases h),hG⟩
 refine Calls.mono (hc.run W hs0) ?_
 rintro e W' ⟨v,F',Lo,rfl,hs,hst,Mo,c,q1,q2,q3,q4,rfl,rfl⟩
 simp only [Rel] at q3
 subst q3
 exact ⟨rfl,hst.os,hst.tape,hst.output,hst.size,fun k hk => hst.same k hk (by rintro ⟨_,_,h,_⟩; cases h)⟩
theorem contract_bool {f:FuncId} {fn:Func} {s:ChangeSpec} {S:List TypeId} {tb:TypeId} (hl:laidOutB P = true) (hS:flat P S = true) (hm:fn.params.toList.all (fun t => S.contains t && (P.readableRec t && decide (t < P.types.size))) = true)
  (hres:fn.resultTypes = #[tb]) (htb:P.underlying tb = some .bool) (hvars:s.vars = [])
  (law:∀ gs,OkA P fn.params.toList gs → G.bulkAll gs ≤ 1048576 → CallsT P f (gs.map argC) [] (Ret [] (.bool true)))
  {r:Reach} {b0:Nat} {args:Array Value} {ds gs:List (DataW H)} {before:List MemPlace} (hfn:s.fn H ds = { results:=[.lit (.bool true)],args:=ds })
  (hval:∀ (j:Nat) t v,fn.params[j]? = some t → args[j]? = some v → Value.okWide P W r b0 t v)
  (hW:DataW.Whole enc P fn.params.toList s.vars false W args.toList ds gs before) (hk:bulkDAll ds ≤ 1048576) (hG:Glob (frzOf W):=by exact trivial) :
  Calls P f args W fun e W' => ∃ v,e = .returned v ∧ s.post enc P fn false true false false W args v W':=by
 have hW':=hW
 rw [hvars] at hW
 obtain ⟨p,q,hA,hV,rfl,hfz,hnd⟩:=hW
 obtain ⟨rfl,rfl⟩:=trodVars_none hV
 have hm':=List.all_eq_true.1 hm
 refine (entry hS (fun t ht => by have:=hm' t ht; simp only [Bool.and_eq_true,List.contains_iff_mem] at this; exact this.1) (fun j t v h1 h2 => hval j t v (by simpa using h1) (by simpa using h2)) hA hk hG law).mono ?_
 rintro e W' ⟨rfl,hb⟩
 refine ⟨_,rfl,post_of_below (pa:=p) (pv:=[]) hW' ?_ ?_ ?_ rfl hb (ok_one hres rfl (okWide_bool_mk htb _))⟩
 ·intro b sp hd
  simp only [List.append_nil,hfn,hres]
  exact trodAll_cons_mk (shut_bool htb _) trodAll_mk0
 ·intro sp hsp
  simp only [List.append_nil,hfn]
  exact trodAll_below hl (List.all_eq_true.2 fun t ht => by have:=hm' t ht; simp only [Bool.and_eq_true] at this ⊢; exact this.2) hb hA (fun x hx => hW'.lt x (by simp [hx])) (fun x hx => hsp x (by simp [hx]))
 ·intro sp hsp
  rw [hvars]
  simp only [List.append_nil,hfn]
  exact rfl
end
end Go.Fr.T
namespace Go.Fr.T
open Go Go.RowKit Go.Fr Go.Fr.Api
def bG (b:UInt8):G:=.int .u8 b.toNat
def isK (P:Program) (t:TypeId) (k:IntKind):Bool:=match P.underlying t with | some (.int k') => decide (k' = k) | _ => false
theorem isK_ok {P:Program} {t:TypeId} {k:IntKind} (h:isK P t k = true) {n:Nat} {g:G} (hg:Ok P n t g):∃ x,g = .int k x ∧ (Lit.int k x).wf = true:=by
 simp only [isK] at h
 split at h
 ·rename_i k' hu
  have e:=of_decide_eq_true h
  subst e
  cases n with
  | zero => exact hg.elim
  | succ n => simp only [Ok,hu] at hg; exact hg
 ·cases h
theorem u8_ok {P:Program} {t:TypeId} (h:isK P t .u8 = true) {n:Nat} {g:G} (hg:Ok P n t g):∃ b:UInt8,g = bG b:=by
 obtain ⟨x,rfl,hx⟩:=isK_ok h hg
 simp only [Lit.wf,Bool.and_eq_true,decide_eq_true_eq] at hx
 have h1:0 ≤ x:=hx.1
 have h2:x ≤ 255:=hx.2
 refine ⟨UInt8.ofNat x.toNat,?_⟩
 simp only [bG,UInt8.toNat_ofNat']
 congr 1
 omega
theorem argC_u8 (b:UInt8):argC (bG b) = bcell b:=rfl
theorem okA_cons {P:Program} {t:TypeId} {ts:List TypeId} {gs:List G} (h:OkA P (t :: ts) gs):∃ g r n,gs = g :: r ∧ Ok P n t g ∧ OkA P ts r:=by
 cases gs with
 | nil => exact h.elim
 | cons g r => obtain ⟨⟨n,h1⟩,h2⟩:=h; exact ⟨g,r,n,rfl,h1,h2⟩
theorem okA_nil {P:Program} {gs:List G} (h:OkA P [] gs):gs = []:=by
 cases gs with
 | nil => rfl
 | cons g r => exact h.elim
theorem argC_st {l:List G}:argC (.st l) = .agg (gcs (.st l)):=by simp only [argC,gcs]
theorem argC_ty (x:Ty):argC x.g = .agg (tyC x):=by
 rw [← gcs_ty]; cases x; exact argC_st
theorem exE {α:Sort _} {p:α → Prop} {K:Prop} (h:∃ x,p x) (H:∀ x,p x → K):K:=h.elim H
theorem withGet {α:Type} {l:List α} {k:Nat} {K:Prop} (h:k < l.length) (H:∀ x,l[k]? = some x → x ∈ l → K):K:=H l[k] (List.getElem?_eq_getElem h) (List.getElem_mem h)
theorem withDrop {α:Type} {l:List α} {k:Nat} {K:Prop} (h:k < l.length) (H:∀ x,l[k]? = some x → x ∈ l → l.drop k = x :: l.drop (k + 1) → K):K:=H l[k] (List.getElem?_eq_getElem h) (List.getElem_mem h) (List.drop_eq_getElem_cons h)
section
variable {P:Program} {L:TL} {ρ:TEnv}
def Such (p:Prop):List TO → C → Prop:=fun Mo v => Mo = [] ∧ ∃ b,v = .bool b ∧ (b = true → p)
theorem retB {Lin:List TO} {v:C} {p:Prop} (b:Bool) (hb:boxesAt Lin (List.range' 1000 Lin.length) [] = true) (e:v.canR.ren (toIn [] 1000) = .bool b) (hp:b = true → p):RetT Lin L v (Such p) :=
 ⟨[],[],L,v,v,[],rfl,.inl ⟨rfl,rfl⟩,rfl,rfl,hb,fun _ => ⟨rfl,b,e,hp⟩⟩
end
end Go.Fr.T
namespace Go.Fr.T
open Go Go.RowKit Go.Fr
def ptrO:Own → Value
 | .box g _ _ => .pointer (some ⟨g,0,none⟩)
 | .row _ _ _ _ _ => undef
def outO:Own → List Value → Own
 | .box g t _,cs => .box g t cs
 | .row v t sz n xs,_ => .row v t sz n xs
def isBx:Own → Nat → Prop
 | .box _ 0 _,_ => False
 | .box _ (_ + 1) cs,n => cs.length = n
 | .row _ _ _ _ _,_ => False
theorem isBx_of {g:Nat} {t:TypeId} {cs:List Value} {n:Nat} (h:t ≠ 0) (hl:cs.length = n):isBx (.box g t cs) n:=by
 cases t with
 | zero => exact absurd rfl h
 | succ t => exact hl
theorem isBx_ne {g:Nat} {t:TypeId} {cs:List Value} {n:Nat} (h:isBx (.box g t cs) n):t ≠ 0:=by
 cases t with
 | zero => exact h.elim
 | succ t => exact Nat.succ_ne_zero t
def Bxs:List Own → List Nat → Prop
 | [],[] => True
 | o :: bs,n :: ns => isBx o n ∧ Bxs bs ns
 | _,_ => False
structure Catch (P:Program) (H:Nat) (PS:Value → Prop) (ns:List Nat) (out:Value → List (List Value)):Prop where
 inv:∀ cap w,(invoke (.fn (.func H) cap) #[]).run P w = .ok (.enter H cap) w
 idle:∀ (bs:List Own) (w:World),Bxs bs ns → CallsD P H (bs.map ptrO).toArray .returning w fun e u' w' => e = .returned (.tuple #[]) ∧ u' = .returning ∧ w' = w
 caught:∀ (F:Frz) (bs:List Own) (v:Value) (older:List PanicEntry) (w:World),PS v → Bxs bs ns → St F (inp bs) w →
  CallsD P H (bs.map ptrO).toArray (.panicking ({ v,recovered:=false } :: older)) w fun e u' w' => e = .returned (.tuple #[]) ∧ u' = .panicking ({ v,recovered:=true } :: older) ∧
   ∃ F',St F' (inp (List.zipWith outO bs (out v))) w' ∧ Step F (inp bs) w F' (inp (List.zipWith outO bs (out v))) w'
theorem results_run {P:Program} {F:Frz} {L:Loc} {ρ:Env} {a:Act} {w:World} {fn:Func} {rs:List RV} {K:List Value → Prop} (hs:St F L w) (he:EnvOk L ρ a) (hres:resOk P fn.results.toList = some rs) (h:retV L ρ rs K) :
  ∃ vs,(results fn a.tmps).run P w = .ok (resVal vs) w ∧ K vs:=by
 obtain ⟨vs,hm,hk⟩:=retV_run hs he hres h
 refine ⟨vs,?_,hk⟩
 rw [results_eq,Array.mapM_eq_mapM_toList]
 simp only [Sem.run_bind,Sem.run_map]
 rw [hm]
 simp only [Result.andThen_ok,Sem.run_pure]
 congr 1
 match vs with
 | [] => rfl
 | [t] => rfl
 | t :: u :: r =>
  simp only [resVal]
  rw [dif_neg (by simp)]
def lostL:List TO → List TO → Prop
 | [],Mo => Mo = []
 | .box t _ :: l,Mo => ∃ (n:Nat) (Mo':List TO),Mo = .box t (List.replicate n .any) :: Mo' ∧ lostL l Mo'
 | .row t sz _ :: l,Mo => ∃ Mo',Mo = .row t sz [] :: Mo' ∧ lostL l Mo'
 | .map _ :: _,_ => False
def noMap:List TO → Bool
 | [] => true
 | .map _ :: _ => false
 | .box _ _ :: l => noMap l
 | .row _ _ _ :: l => noMap l
theorem rels_any {F:Frz} {L:Loc}:∀ vs:List Value,Rels F L (List.replicate vs.length .any) vs
 | [] => by simp only [List.length_nil,List.replicate_zero,Rels]
 | v :: vs => by
  simp only [List.length_cons,List.replicate_succ,Rels]
  exact ⟨v,vs,rfl,trivial,rels_any vs⟩
theorem lost_ex {F:Frz}:∀ (Lin:List TO) (Li Lo:List Own),noMap Lin = true → Li.length = Lin.length → Lo.length = Lin.length → (∀ (i:Nat) o p,Lin[i]? = some o → Li[i]? = some p → ∃ L,RelO F L o p) →
  (∀ (i:Nat) g t cs,Li[i]? = some (.box g t cs) → ∃ cs',Lo[i]? = some (.box g t cs')) →
  ∃ (Mo:List TO) (Lo':List Own),lostL Lin Mo ∧ Mo.length = Lin.length ∧ Lo'.length = Lin.length ∧ (∀ (i:Nat) o,Lo'[i]? = some o → Lo[i]? = some o ∨ ∃ t sz,o = .row (.slice none 0 0) t sz 0 []) ∧
   (∀ (i:Nat) g t cs,Li[i]? = some (.box g t cs) → ∃ cs',Lo'[i]? = some (.box g t cs')) ∧ ∀ (i:Nat) o p L G,Mo[i]? = some o → Lo'[i]? = some p → RelO G L o p
 | [],Li,Lo,hm,h1,h2,h3,h4 => by
  have:Li = []:=List.length_eq_zero_iff.1 h1
  subst this
  exact ⟨[],[],rfl,rfl,rfl,fun i o e => by simp at e,fun i g t cs e => by simp at e,fun i o p L G e => by simp at e⟩
 | o :: Lin,[],Lo,hm,h1,h2,h3,h4 => by simp at h1
 | o :: Lin,p :: Li,[],hm,h1,h2,h3,h4 => by simp at h2
 | o :: Lin,p :: Li,q :: Lo,hm,h1,h2,h3,h4 => by
  obtain ⟨Mo,Lo',a1,a2,a3,a4,a5,a6⟩:=lost_ex Lin Li Lo (by cases o <;> first | exact hm | cases hm) (by simpa using h1) (by simpa using h2) (fun i o p e1 e2 => h3 (i + 1) o p (by simpa using e1) (by simpa using e2)) (fun i g t cs e => by simpa using h4 (i + 1) g t cs (by simpa using e))
  obtain ⟨L,hr⟩:=h3 0 o p rfl rfl
  cases o with
  | map es => cases hm
  | box t cs =>
   cases p with
   | row => exact hr.elim
   | box g t' us =>
    obtain ⟨cs',e⟩:=h4 0 g t' us rfl
    simp only [List.getElem?_cons_zero,Option.some.injEq] at e
    subst e
    refine ⟨.box t (List.replicate cs'.length .any) :: Mo,.box g t' cs' :: Lo',⟨_,_,rfl,a1⟩,by simp [a2],by simp [a3],fun i o e => ?_,fun i g t cs e => ?_,fun i o p L G e1 e2 => ?_⟩
    ·cases i with
     | zero => exact .inl e
     | succ i => simpa using a4 i o (by simpa using e)
    ·cases i with
     | zero => simp only [List.getElem?_cons_zero,Option.some.injEq] at e; injection e with q1 q2 q3; subst q1 q2; exact ⟨_,rfl⟩
     | succ i => simpa using a5 i g t cs (by simpa using e)
    ·cases i with
     | zero =>
      simp only [List.getElem?_cons_zero,Option.some.injEq] at e1 e2
      subst e1 e2
      exact ⟨hr.1,rels_any _⟩
     | succ i => exact a6 i o p L G (by simpa using e1) (by simpa using e2)
  | row t sz els =>
   cases p with
   | box => exact hr.elim
   | row v t' sz' n xs =>
    refine ⟨.row t sz [] :: Mo,.row (.slice none 0 0) t sz 0 [] :: Lo',⟨_,rfl,a1⟩,by simp [a2],by simp [a3],fun i o e => ?_,fun i g t cs e => ?_,fun i o p L G e1 e2 => ?_⟩
    ·cases i with
     | zero => simp only [List.getElem?_cons_zero,Option.some.injEq] at e; subst e; exact .inr ⟨_,_,rfl⟩
     | succ i => simpa using a4 i o (by simpa using e)
    ·cases i with
     | zero => simp only [List.getElem?_cons_zero,Option.some.injEq] at e; cases e
     | succ i => simpa using a5 i g t cs (by simpa using e)
    ·cases i with
     | zero =>
      simp only [List.getElem?_cons_zero,Option.some.injEq] at e1 e2
      subst e1 e2
      exact ⟨rfl,rfl,rfl,⟨Nat.zero_le _,none,0,rfl,fun _ => rfl⟩,by simp only [RelRow]⟩
     | succ i => exact a6 i o p L G (by simpa using e1) (by simpa using e2)
theorem lost_T {F F':Frz} {Lin:List TO} {Li Lo:List Own} {w w':World} (hnm:noMap Lin = true) (hl:Li.length = Lin.length) (htl:RelTL F (inp Li) (tinp Lin)) (hs:St F' (inp Lo) w') (hst:Step F (inp Li) w F' (inp Lo) w') (hlo:Lo.length = Li.length)
  (hbx:∀ (i:Nat) g t cs,Li[i]? = some (.box g t cs) → ∃ cs',Lo[i]? = some (.box g t cs')) :
  ∃ Mo Lo',St F' (inp Lo') w' ∧ Step F (inp Li) w F' (inp Lo') w' ∧ lostL Lin Mo ∧ Mo.length = Lo'.length ∧ RelTL F' (inp Lo') (tinp Mo) ∧ ∀ (i:Nat) g t cs,Li[i]? = some (.box g t cs) → ∃ cs',Lo'[i]? = some (.box g t cs'):=by
 have hrel:∀ (i:Nat) o p,Lin[i]? = some o → Li[i]? = some p → ∃ L,RelO F L o p:=by
  intro i o p e1 e2
  have hk:=htl (1000 + i)
  rw [tinp_get,inp_get,if_pos (by omega),if_pos (by omega),show 1000 + i - 1000 = i by omega,e1,e2] at hk
  exact ⟨_,hk⟩
 obtain ⟨Mo,Lo',a1,a2,a3,a4,a5,a6⟩:=lost_ex Lin Li Lo hnm hl (by rw [hlo,hl]) hrel hbx
 have hget:∀ j o,(inp Lo').get j = some o → (inp Lo).get j = some o ∨ ∃ t sz,o = .row (.slice none 0 0) t sz 0 []:=by
  intro j o e
  rw [inp_get] at e ⊢
  split at e
  case isFalse => cases e
  rename_i hj
  rw [if_pos hj]
  exact a4 _ o e
 refine ⟨Mo,Lo',⟨hs.frz,fun j o e => ?_,fun j o g e hb => ?_,fun j j' o o' g e e' hb hb' => ?_,hs.glob⟩,?_,a1,by rw [a2,a3],fun k => ?_,a5⟩
 ·rcases hget j o e with e1 | ⟨t,sz,rfl⟩
  ·exact hs.own j o e1
  ·exact World.ownsRow_nil w' 0 t sz
 ·rcases hget j o e with e1 | ⟨t,sz,rfl⟩
  ·exact hs.off j o g e1 hb
  ·cases hb
 ·rcases hget j o e with e1 | ⟨t,sz,rfl⟩
  ·rcases hget j' o' e' with e2 | ⟨t,sz,rfl⟩
   ·exact hs.sep j j' o o' g e1 e2 hb hb'
   ·cases hb'
  ·cases hb
 ·refine ⟨hst.le,hst.os,hst.tape,hst.output,hst.size,hst.same,hst.frz,fun b hb => ?_⟩
  obtain ⟨j,o,e,hb⟩:=hb
  rcases hget j o e with e1 | ⟨t,sz,rfl⟩
  ·exact hst.own b ⟨j,o,e1,hb⟩
  ·cases hb
 ·rw [tinp_get,inp_get]
  split
  ·cases e1:Mo[k - 1000]? with
   | none =>
    have:Lo'[k - 1000]? = none:=List.getElem?_eq_none (by rw [a3,← a2]; exact List.getElem?_eq_none_iff.1 e1)
    rw [this]; trivial
   | some o =>
    have hlt:k - 1000 < Lo'.length:=by rw [a3,← a2]; exact (List.getElem?_eq_some_iff.1 e1).1
    rw [List.getElem?_eq_getElem hlt]
    exact a6 _ o _ _ _ e1 (List.getElem?_eq_getElem hlt)
  ·trivial
def capsOk (M:TL) (τ:TEnv):List Nat → List Nat → Bool
 | [],[] => true
 | k :: ks,n :: ns => match τ k,M.get k with
  | .own j 0,some (.box _ cs) => match Nat.beq j k,lenC? cs n with | true,true => capsOk M τ ks ns | _,_ => false
  | _,_ => false
 | _,_ => false
section
variable {G:Nat → Option (Nat × TypeId)} {F:Frz} {L:Loc} {ρ:Env} {M:TL} {τ:TEnv}
theorem caps_get:∀ {ks ns:List Nat},capsOk M τ ks ns = true → TS G F L ρ M τ → ∃ bs:List Own,L.sub ks = some bs ∧ Bxs bs ns ∧ ks.map (fun k => conc L (ρ k)) = bs.map ptrO ∧ (∀ k ∈ ks,ρ k = .own k 0)
 | [],[],_,_ => ⟨[],rfl,trivial,rfl,fun k h => by cases h⟩
 | [],n :: ns,h,_ => by cases h
 | k :: ks,[],h,_ => by cases h
 | k :: ks,n :: ns,h,ht => by
  simp only [capsOk] at h
  split at h
  case h_2 => cases h
  rename_i j t cs h1 h2
  split at h
  case h_2 => cases h
  rename_i h3 h4
  have h3:=Nat.eq_of_beq_eq_true h3
  subst h3
  obtain ⟨bs,q1,q2,q3,q4⟩:=caps_get h ht
  obtain ⟨g,ty,vs,e2,hr,hty⟩:=tl_box ht.tl h2
  have e1:ρ j = .own j 0:=(inv_own (x:=.t j) ht.env h1).1
  refine ⟨.box g ty vs :: bs,by simp only [Loc.sub,e2,q1],⟨isBx_of hty.2.2 (by rw [hr.len]; exact lenC_eq h4),q2⟩,?_,?_⟩
  ·rw [List.map_cons,List.map_cons,q3]; simp only [e1,conc,e2,ptrO]
  ·intro k hk
   rcases List.mem_cons.1 hk with rfl | hk
   ·exact e1
   ·exact q4 k hk
end
theorem bxs_len:∀ {bs:List Own} {ns:List Nat},Bxs bs ns → bs.length = ns.length
 | [],[],_ => rfl
 | [],_ :: _,h => h.elim
 | _ :: _,[],h => h.elim
 | o :: bs,n :: ns,h => by simp [bxs_len h.2]
theorem bxs_back {hb:List (Nat × Nat)} {L L':Loc}:∀ {ks ns:List Nat} {bs:List Own},L.sub ks = some bs → Bxs bs ns → (∀ k g t cs,k ∈ ks → L.get k = some (.box g t cs) → ∃ cs',L'.get k = some (.box g t cs')) → HbL hb L' → (∀ x ∈ ks.zip ns,x ∈ hb) →
  ∃ bs',L'.sub ks = some bs' ∧ Bxs bs' ns ∧ bs'.map ptrO = bs.map ptrO
 | [],ns,bs,h1,h2,h3,h4,h5 => by
  simp only [Loc.sub,Option.some.injEq] at h1
  subst h1
  exact ⟨[],rfl,h2,rfl⟩
 | k :: ks,ns,bs,h1,h2,h3,h4,h5 => by
  simp only [Loc.sub] at h1
  split at h1
  case h_2 => cases h1
  rename_i o l e1 e2
  injection h1 with h1
  subst h1
  cases ns with
  | nil => exact h2.elim
  | cons n ns =>
   obtain ⟨h2,h2'⟩:=h2
   cases o with
   | row => exact h2.elim
   | box g t cs =>
    obtain ⟨bs',q1,q2,q3⟩:=bxs_back e2 h2' (fun j g t cs hj e => h3 j g t cs (by simp [hj]) e) h4 (fun x hx => h5 x (by simp [hx]))
    obtain ⟨cs',e3⟩:=h3 k g t cs (by simp) e1
    obtain ⟨g',t',cs2,e4,e5⟩:=h4 k n (h5 _ (by simp))
    rw [e3] at e4
    injection e4 with e4
    injection e4 with x1 x2 x3
    subst x1 x2 x3
    exact ⟨.box g t cs' :: bs',by simp only [Loc.sub,e3,q1],⟨isBx_of (isBx_ne h2) e5,q2⟩,by simp [q3,ptrO]⟩
theorem bxs_out:∀ {bs:List Own} {ns:List Nat} {l:List (List Value)},Bxs bs ns → l.length = ns.length → (List.zipWith outO bs l).length = bs.length ∧ (∀ (i:Nat) g t cs,bs[i]? = some (.box g t cs) → ∃ cs',(List.zipWith outO bs l)[i]? = some (.box g t cs')) ∧
  ∀ (i:Nat) cs,l[i]? = some cs → ∃ g t,(List.zipWith outO bs l)[i]? = some (.box g (t + 1) cs)
 | [],[],l,_,h => by
  have:l = []:=List.length_eq_zero_iff.1 h
  subst this
  exact ⟨rfl,fun i g t cs e => by simp at e,fun i cs e => by simp at e⟩
 | [],n :: ns,l,h,_ => h.elim
 | o :: bs,[],l,h,_ => h.elim
 | o :: bs,n :: ns,[],_,h => by simp at h
 | o :: bs,n :: ns,c :: l,⟨h1,h2⟩,h => by
  obtain ⟨q1,q2,q3⟩:=bxs_out (l:=l) h2 (by simpa using h)
  cases o with
  | row => exact h1.elim
  | box g t cs =>
   refine ⟨by simp [q1],fun i g' t' cs' e => ?_,fun i cs' e => ?_⟩
   ·cases i with
    | zero =>
     simp only [List.getElem?_cons_zero,Option.some.injEq] at e
     injection e with x1 x2 x3
     subst x1 x2
     exact ⟨c,rfl⟩
    | succ i => simpa using q2 i g' t' cs' (by simpa using e)
   ·cases i with
    | zero =>
     simp only [List.getElem?_cons_zero,Option.some.injEq] at e
     subst e
     cases t with
     | zero => exact h1.elim
     | succ t => exact ⟨g,t,rfl⟩
    | succ i => simpa using q3 i cs' (by simpa using e)
theorem tmps_eval {a:Act} {ρ:Env} {L:Loc} (he:EnvOk L ρ a):∀ ks:List Nat,(ks.map Operand.tmp).map a.eval = ks.map fun k => conc L (ρ k)
 | [] => rfl
 | k :: ks => by
  simp only [List.map_cons,tmps_eval he ks]
  exact congrArg (· :: _) (he.eq k)
theorem dropW:∀ (l:List PanicEntry),(∀ e ∈ l,e.goexit = false) → l.dropWhile (!·.goexit) = []
 | [],_ => rfl
 | e :: l,h => by
  rw [List.dropWhile_cons,if_pos (by simp [h e (by simp)])]
  exact dropW l fun x hx => h x (by simp [hx])
theorem callsT_catch {P:Program} {f H d r1:Nat} {fn:Func} {c0 rest:Code} {o1 o2:Oper} {A:Ann} {sc0 sc:SCode} {rs:List RV} {ks ns:List Nat} {args:List C} {Lin:List TO} {R:List TO → C → Prop} {PS:Value → Prop} {out:Value → List (List Value)}
  (hf:P.funcs[f]? = some fn) (hb:fn.body = some (.seq c0 (.seq (.region r1 #[o1,o2] false) rest))) (hname:(fn.name == "runtime.NumGoroutine") = false) (hnt:fn.ntmps = A.n)
  (ho1:o1.op = .makeFunc (.func H) #[] (ks.map Operand.tmp).toArray) (hd1:o1.dst = some d) (hg1:o1.guard = none) (ho2:o2.op = .defer { callee:=.value (.tmp d),args:=#[],argTypes:=#[] }) (hd2:o2.dst = none) (hg2:o2.guard = none)
  (hl0:low P A c0 = some sc0) (hl:low P A rest = some sc) (hres:resOk P fn.results.toList = some rs) (hH:Catch P H PS ns out) (hd:d < A.n) (hks:nodup? ks = true) (hkd:(ks.all fun k => !(mem? (asgOf rest) k) && !(Nat.beq k d) && Nat.blt k 1000) = true)
  (hout:∀ v,PS v → (out v).length = ns.length) (hlen:Nat.ble args.length A.n = true) (hnm:noMap Lin = true)
  (hcat:∀ v,PS v → ∃ c x,(∀ (L:Loc) (ρ:Env),(∀ (i:Nat) k cs,ks[i]? = some k → (out v)[i]? = some cs → ρ k = .own k 0 ∧ ∃ g t,L.get k = some (.box g (t + 1) cs)) → retV L ρ rs (fun vs => resVal vs = x)) ∧ (∀ F L,Rel F L c x) ∧ ∀ Mo,lostL Lin Mo → R Mo c)
  (h:WfS args → (∀ o ∈ Lin,o.Wf) → evalTC P ⟨fun _ => False,[]⟩ sc0 (fun _ _ _ => False) (fun _ _ => False) (fun M τ => capsOk M τ ks ns = true ∧
   evalTC P ⟨PS,ks.zip ns⟩ sc (fun _ _ _ => False) (fun L ρ => retT L ρ rs fun vs => RetT Lin L (resT vs) R) (fun L ρ => retT L ρ rs fun vs => RetT Lin L (resT vs) R) M (tput (some d) .any τ)) (tinp Lin) (argT 0 args)) :
  CallsT P f args Lin R:=by
 refine ⟨fun F Li vs hlL htl ha => ⟨⟨fn,hf,by rw [hb]; rfl,hname⟩,ResA.mono',fun w hs => ?_⟩⟩
 suffices hall:∀ RR:Ending → World → Prop,(∀ v F' Lo w',St F' (inp Lo) w' → Step F (inp Li) w F' (inp Lo) w' → ResA Li R F' Lo v → RR (.returned v) w') → Calls P f vs.toArray w RR from
  hall _ fun v F' Lo w' h1 h2 h3 => ⟨v,F',Lo,rfl,h1,h2,h3⟩
 intro RR hRR
 refine calls_of_wp_defers hf hb ?_
 have hwo:∀ o ∈ Lin,o.Wf:=by
  intro o ho
  obtain ⟨i,hi⟩:=List.mem_iff_getElem?.1 ho
  have:=htl (1000 + i)
  rw [tinp_get,inp_get,if_pos (by omega),if_pos (by omega),show 1000 + i - 1000 = i by omega,hi] at this
  cases e:Li[i]? with
  | none => rw [e] at this; exact this.elim
  | some p => rw [e] at this; exact RelO.wf this
 have h:=h ha.wf hwo
 have hla:=ha.len
 have hlen:=Nat.le_of_ble_eq_true hlen
 have key:∀ j,∃ sv,RelV F (inp Li) (argT 0 args j) sv ∧ conc (inp Li) sv = (vs.toArray ++ Array.replicate (fn.ntmps - vs.toArray.size) undef).getD j undef ∧ (∀ k off,sv = .own k off → ∃ g t cs,(inp Li).get k = some (.box g t cs)) ∧ (∀ ad i,sv = .el ad i → ad ≠ none):=by
  intro j
  rw [argT_get]
  simp only [Nat.zero_le,if_true,Nat.sub_zero,Array.getD_eq_getD_getElem?]
  cases e:args[j]? with
  | some c =>
   have hlt:j < vs.length:=by rw [hla]; exact (List.getElem?_eq_some_iff.1 e).1
   obtain ⟨s1,s2,s3,s4⟩:=svOf_ok (ha.at e (List.getElem?_eq_getElem hlt))
   refine ⟨_,s1,?_,s3,fun ad i e => absurd e (s4 ad i)⟩
   rw [s2,Array.getElem?_append_left (by simpa using hlt)]
   simp [hlt]
  | none =>
   have hge:vs.length ≤ j:=by rw [hla]; exact List.getElem?_eq_none_iff.1 e
   refine ⟨.v undef,relV_und,?_,fun _ _ e => (by cases e),fun _ _ e => (by cases e)⟩
   rw [Array.getElem?_append_right (by simpa using hge)]
   simp only [Array.getElem?_replicate,conc]
   split <;> rfl
 let ρ0:Env:=fun j => (key j).choose
 have he:EnvOk (inp Li) ρ0 { tmps:=vs.toArray ++ Array.replicate (fn.ntmps - vs.toArray.size) undef,defers:=[] } :=
  ⟨fun t => (key t).choose_spec.2.1.symm,fun t k off e => (key t).choose_spec.2.2.1 k off e,fun t ad j e => (key t).choose_spec.2.2.2 ad j e⟩
 let G:Nat → Option (Nat × TypeId):=fun k => match (inp Li).get k with | some (.box g t _) => some (g,t) | _ => none
 have hG1:∀ k g t cs,(inp Li).get k = some (.box g t cs) → G k = some (g,t):=fun k g t cs e => by simp only [G,e]
 have hkp:Kp G (inp Li):=by
  intro k g t e
  simp only [G] at e
  split at e
  ·rename_i g' t' cs h
   injection e with e
   injection e with e1 e2
   subst e1 e2
   exact ⟨cs,h⟩
  ·cases e
 have ht:TS G F (inp Li) ρ0 (tinp Lin) (argT 0 args):=⟨htl,fun j => (key j).choose_spec.1,hkp,hs.glob⟩
 have hGd:∀ k,G k ≠ none → 1000 ≤ k:=by
  intro k hne
  simp only [G] at hne
  split at hne
  ·rename_i g t cs h
   rw [inp_get] at h
   split at h
   ·assumption
   ·cases h
  ·exact absurd rfl hne
 refine wp_seq (wp_mono (evalTC_sound c0 hl0 (fun k _ hne => .inl (hGd k hne)) hs he ht (by simp [hnt]; omega) h) ?_)
 intro e a1 w1 hq
 cases e with
 | exit j => obtain ⟨F',L',ρ',_,_,_,_,_,_,M',τ',_,h⟩:=hq; exact h.elim
 | goto l => exact hq.elim
 | outgrown => exact hq.elim
 | ret => obtain ⟨F',L',ρ',_,_,_,_,_,_,M',τ',_,h⟩:=hq; exact h.elim
 | panic c => obtain ⟨v,hch,F',L',_,_,_,_,_,_,hp,_⟩:=hq; exact hp.elim
 | normal =>
 obtain ⟨F1,L1,ρ1,hs1,he1,hn1,hd1',hst1,_,M1,τ1,ht1,hcaps,hrest⟩:=hq
 obtain ⟨bs,hsub,hbx,hptr,hown⟩:=caps_get hcaps ht1
 simp only [Exit.then]
 -- the deferred function is named
 generalize hfv:Value.func (.func H) #[] (bs.map ptrO).toArray = fv
 have hev:(ks.map Operand.tmp).toArray.map a1.eval = (bs.map ptrO).toArray:=by
  rw [List.map_toArray,tmps_eval he1,hptr]
 have he2:=he1.put (L':=L1) (d:=some d) (v:=fv) (x:=.v fv) (fun k e => by injection e with e; subst e; omega) rfl noOwn noEl (fun k g ty cs e => ⟨cs,e⟩)
 have ht2:TS G F1 L1 (put (some d) (.v fv) ρ1) M1 (tput (some d) .any τ1):=ht1.put (c:=.any) (sv:=.v fv) trivial (some d)
 obtain ⟨tm,df⟩:=a1
 simp only at hd1'
 subst hd1'
 have hdt:(tm.setIfInBounds d fv).getD d undef = fv:=by
  have:d < tm.size:=by simpa [hn1] using hd
  simp [Array.getD_eq_getD_getElem?,this]
 refine wp_seq (wp_region ?_)
 generalize hd0:({ target:=.fn (.func H) (bs.map ptrO).toArray,args:=#[] }:Deferred) = d0
 have hsz:d < tm.size:=by simpa [hn1] using hd
 simp [wpOps,go_sem,ho1,hd1,hg1,ho2,hd2,hg2,Exit.then,Region.wanted,hsz,Instr.makeFunc]
 have hml:List.map (Act.eval { tmps:=tm,defers:=[] } ∘ Operand.tmp) ks = bs.map ptrO:=by
  rw [← hptr,← tmps_eval he1,List.map_map]
 rw [hml,hfv,hd0]
 refine .inl (.inl ?_)
 let G1:Nat → Option (Nat × TypeId):=fun k => match Nat.ble 1000 k || mem? ks k with | true => (match L1.get k with | some (.box g t _) => some (g,t) | _ => none) | false => none
 have hGL:∀ k g t cs,(1000 ≤ k ∨ k ∈ ks) → L1.get k = some (.box g t cs) → G1 k = some (g,t):=fun k g t cs hk e => by
  have:(Nat.ble 1000 k || mem? ks k) = true:=by
   rw [Bool.or_eq_true]
   exact hk.imp (fun h => by rw [Nat.ble_eq]; exact h) mem?_eq.2
  simp only [G1,this,e]
 have hfz1:FzOk G1 ⟨PS,ks.zip ns⟩ (frzKeys sc):=by
  intro k _ hne
  simp only [G1] at hne
  split at hne
  ·rename_i hb
   rw [Bool.or_eq_true] at hb
   rcases hb with hb | hb
   ·rw [Nat.ble_eq] at hb; exact .inl hb
   ·refine .inr ?_
    have hl2:ks.length = ns.length:=by rw [(sub_get hsub).1.symm]; exact bxs_len hbx
    show mem? ((ks.zip ns).map (·.1)) k = true
    rw [List.map_fst_zip (by omega)]
    exact hb
  ·exact absurd rfl hne
 have hkp1:Kp G1 L1:=by
  intro k g t e
  simp only [G1] at e
  split at e
  case h_2 => cases e
  split at e
  ·rename_i g' t' cs h
   injection e with e
   injection e with e1 e2
   subst e1 e2
   exact ⟨cs,h⟩
  ·cases e
 have hGG:∀ k g t,G k = some (g,t) → G1 k = some (g,t):=fun k g t e => let ⟨cs,h⟩:=ht1.kp k g t e; hGL k g t cs (.inl (hGd k (by rw [e]; simp))) h
 have ht3:TS G1 F1 L1 (put (some d) (.v fv) ρ1) M1 (tput (some d) .any τ1):=⟨ht2.tl,ht2.env,hkp1,ht2.glob⟩
 have he3:EnvOk L1 (put (some d) (.v fv) ρ1) { tmps:=tm.setIfInBounds d fv,defers:=[d0] }:=⟨he2.eq,he2.own,he2.el⟩
 refine wp_mono (evalTC_sound rest hl hfz1 hs1 he3 ht3 (by simpa using hn1) hrest) ?_
 intro e a' w' hq
 have hnd:=nodup?_eq hks
 have hGI:∀ k g t cs,(inp Li).get k = some (.box g t cs) → G1 k = some (g,t):=fun k g t cs e => hGG k g t (hG1 k g t cs e)
 have back:∀ (u:FrameMode) (w:World),u = .returning → Leaves P fn a'.tmps RR [] .returning w → Leaves P fn a'.tmps RR [d0] u w:=by
  rintro u w rfl hlv
  rw [← hd0]
  refine leaves_cons (f:=H) (args:=(bs.map ptrO).toArray) (by simp) (hH.inv _ w) ?_
  refine (hH.idle bs w hbx).mono ?_
  rintro e u' w6 ⟨rfl,rfl,rfl⟩
  exact hlv
 have fin:Next2 A.n F1 L1 w1 { tmps:=tm.setIfInBounds d fv,defers:=[d0] } (asgOf rest) (Both G1 (fun L ρ => retT L ρ rs fun vs => RetT Lin L (resT vs) R)) a' w' → Leaves P fn a'.tmps RR a'.defers .returning w':=by
  intro hq
  have hq':Next2 A.n F (inp Li) w { tmps:=tm.setIfInBounds d fv,defers:=[d0] } (asgOf rest) (Both G1 (fun L ρ => retT L ρ rs fun vs => RetT Lin L (resT vs) R)) a' w':=by
   obtain ⟨F',L',ρ',g1,g2,g3,g4,g5,g6,g7⟩:=hq
   exact ⟨F',L',ρ',g1,g2,g3,g4,hst1.trans g5,g6,g7⟩
  obtain ⟨k1,v,k2,F',Lo,k3,k4,k5⟩:=fin_T hres hlL htl hGI hq'
  rw [k1]
  exact back _ _ rfl ⟨v,k2,hRR v F' Lo w' k3 k4 k5⟩
 cases e with
 | normal => exact fin hq
 | ret => exact fin hq
 | exit j => obtain ⟨F',L',ρ',_,_,_,_,_,_,M',τ',_,h⟩:=hq; exact h.elim
 | goto l => exact hq.elim
 | outgrown => exact hq.elim
 | panic ch =>
  obtain ⟨v,⟨older,rfl,hold⟩,F',L',g1,g2,g3,g4,g5,kp,hp,hbL⟩:=hq
  show Leaves P fn a'.tmps RR a'.defers _ w'
  rw [g4,← hd0]
  obtain ⟨bs',q1,q2,q3⟩:=bxs_back hsub hbx (fun k g t cs hk e => kp k g t (hGL k g t cs (.inr hk) e)) hbL (fun x hx => hx)
  refine leaves_cons (f:=H) (args:=(bs.map ptrO).toArray) (by simp) (hH.inv _ w') ?_
  rw [← q3]
  refine (hH.caught F' bs' v older w' hp q2 (g1.handed q1 hnd)).mono ?_
  rintro e u' w6 ⟨rfl,rfl,F6,hs6,hst6⟩
  show Leaves P fn a'.tmps RR [] (settle _) w6
  have hset:settle (.panicking ({ v,recovered:=true } :: older)) = .returning:=by
   have:older.dropWhile (!·.goexit) = []:=by
    exact dropW older hold
   simp only [settle,this]
  rw [hset]
  obtain ⟨z1,z2,z3⟩:=bxs_out (l:=out v) q2 (hout v hp)
  obtain ⟨sl,sg⟩:=sub_get q1
  have hkl:ks.length = (List.zipWith outO bs' (out v)).length:=by rw [z1,sl]
  obtain ⟨c1,c2⟩:=call_back g1 q1 hnd hnd (fun k hk => .inl hk) hs6 hst6 hkl
  generalize hL6:(L'.dels ks).puts ks (List.zipWith outO bs' (out v)) = L6 at c1 c2
  have hget:∀ (i:Nat) k cs,ks[i]? = some k → (out v)[i]? = some cs → ∃ g t,L6.get k = some (.box g (t + 1) cs) ∧ (∃ cs',L'.get k = some (.box g (t + 1) cs')):=by
   intro i k cs e1 e2
   obtain ⟨g,t,e3⟩:=z3 i cs e2
   refine ⟨g,t,by rw [← hL6]; exact puts_get' hnd hkl e1 e3,?_⟩
   have e4:=sg i k e1
   have hlt:i < bs'.length:=by rw [← z1]; exact (List.getElem?_eq_some_iff.1 e3).1
   rw [List.getElem?_eq_getElem hlt] at e4
   have e5:(List.zipWith outO bs' (out v))[i]? = some (outO bs'[i] cs):=by
    rw [List.getElem?_zipWith,List.getElem?_eq_getElem hlt,e2]
   rw [e3] at e5
   injection e5 with e5
   cases hb:bs'[i] with
   | row => rw [hb] at e5; cases e5
   | box g' t' cs' =>
    rw [hb] at e5 e4
    injection e5 with x1 x2
    subst x1 x2
    exact ⟨cs',e4⟩
  -- the slots that name the boxes
  let ρ6:Env:=fun j => match mem? ks j with | true => .own j 0 | false => .v (a'.tmps.getD j undef)
  have hkd':∀ k ∈ ks,k ∉ asgOf rest ∧ k ≠ d:=by
   intro k hk
   have:=List.all_eq_true.1 hkd k hk
   simp only [Bool.and_eq_true,Bool.not_eq_true'] at this
   refine ⟨fun hm => ?_,fun e => ?_⟩
   ·rw [mem?_eq.2 hm] at this; exact absurd this.1.1 (by simp)
   ·subst e; simp at this
  have hslot:∀ k ∈ ks,∃ g t cs,L6.get k = some (.box g t cs) ∧ a'.tmps.getD k undef = .pointer (some ⟨g,0,none⟩):=by
   intro k hk
   obtain ⟨i,hi⟩:=List.mem_iff_getElem?.1 hk
   have hlt:i < (out v).length:=by
    have:=(List.getElem?_eq_some_iff.1 hi).1
    have hl2:ks.length = ns.length:=by rw [← sl]; exact bxs_len q2
    rw [hout v hp]; omega
   obtain ⟨g,t,e1,cs',e2⟩:=hget i k _ hi (List.getElem?_eq_getElem hlt)
   refine ⟨g,t + 1,_,e1,?_⟩
   obtain ⟨y1,y2⟩:=hkd' k hk
   rw [g5 k y1]
   have:=he3.eq k
   rw [this,put_eq]
   simp only []
   rw [if_neg y2,hown k hk]
   simp only [conc]
   obtain ⟨g0,t0,cs0,e0⟩:=he1.own k k 0 (hown k hk)
   obtain ⟨cs1,e3⟩:=kp k g0 t0 (hGL k g0 t0 cs0 (.inr hk) e0)
   rw [e2] at e3
   injection e3 with e3
   injection e3 with x1 x2 _
   subst x1
   rw [e0]
  have he6:EnvOk L6 ρ6 a':=by
   refine ⟨fun j => ?_,fun j k off e => ?_,fun j ad i e => ?_⟩
   ·simp only [ρ6]
    cases hm:mem? ks j with
    | false => rfl
    | true =>
     obtain ⟨g,t,cs,e1,e2⟩:=hslot j (mem?_eq.1 hm)
     rw [e2]
     simp only [conc,e1]
   ·simp only [ρ6] at e
    cases hm:mem? ks j with
    | false => rw [hm] at e; cases e
    | true =>
     rw [hm] at e
     injection e with x1 x2
     subst x1
     obtain ⟨g,t,cs,e1,_⟩:=hslot j (mem?_eq.1 hm)
     exact ⟨g,t,cs,e1⟩
   ·simp only [ρ6] at e
    cases hm:mem? ks j <;> rw [hm] at e <;> cases e
  obtain ⟨c,x,hrv,hrel,hlost⟩:=hcat v hp
  obtain ⟨us,h5,h6⟩:=results_run (K:=fun vs => resVal vs = x) c1 he6 hres (hrv L6 ρ6 fun i k cs e1 e2 => by
   obtain ⟨g,t,e3,_⟩:=hget i k cs e1 e2
   refine ⟨?_,g,t,e3⟩
   simp only [ρ6,mem?_eq.2 (List.mem_of_getElem? e1)])
  have hst:Step F (inp Li) w F6 L6 w6:=(hst1.trans g2).trans c2
  obtain ⟨Lo,p1,p2,p3,p4⟩:=panic_back c1 hst (fun i g t cs e => by
   have e0:(inp Li).get (1000 + i) = some (.box g t cs):=by rw [inp_get,if_pos (by omega),show 1000 + i - 1000 = i by omega]; exact e
   obtain ⟨cs1,e1⟩:=kp (1000 + i) g t (hGI _ g t cs e0)
   refine ⟨cs1,?_⟩
   rw [← hL6]
   have hni:1000 + i ∉ ks:=by
    intro hm
    have:=List.all_eq_true.1 hkd _ hm
    simp only [Bool.and_eq_true] at this
    have:=this.2
    rw [Nat.blt_eq] at this
    omega
   rcases puts_get ks (List.zipWith outO bs' (out v)) (L'.dels ks) (1000 + i) hnd hkl with ⟨q1,q2⟩ | ⟨i',q1,q2,q3⟩
   ·rw [q1,dels_get,if_neg hni]; exact e1
   ·exact absurd (List.mem_of_getElem? q1) hni)
  obtain ⟨Mo,Lo',l1,l2,l3,l4,l5,l6⟩:=lost_T hnm hlL htl p1 p2 p3 p4
  refine ⟨_,h5,hRR _ F6 Lo' w6 l1 l2 ⟨Mo,c,l4,l5,?_,l6,hlost Mo l3⟩⟩
  rw [h6]
  exact hrel _ _
def tmpsOf:List Operand → Option (List Nat)
 | [] => some []
 | .tmp k :: l => match tmpsOf l with | some ks => some (k :: ks) | none => none
 | _ :: _ => none
theorem tmpsOf_eq:∀ {l:List Operand} {ks:List Nat},tmpsOf l = some ks → l = ks.map Operand.tmp
 | [],ks,h => by simp only [tmpsOf,Option.some.injEq] at h; subst h; rfl
 | o :: l,ks,h => by
  cases o <;> simp only [tmpsOf,reduceCtorEq] at h
  split at h
  case h_2 => cases h
  rename_i ks' e
  injection h with h
  subst h
  rw [tmpsOf_eq e]; rfl
def isDefer (op:Op) (d:Nat):Bool :=
 match op with
 | .defer c => match c.callee,c.args.toList,c.argTypes.toList with
  | .value (.tmp d'),[],[] => Nat.beq d d'
  | _,_,_ => false
 | _ => false
theorem isDefer_eq {op:Op} {d:Nat} (h:isDefer op d = true):op = .defer { callee:=.value (.tmp d),args:=#[],argTypes:=#[] }:=by
 unfold isDefer at h
 split at h
 case h_2 => cases h
 rename_i c
 split at h
 case h_2 => cases h
 rename_i d' h1 h2 h3
 have:=Nat.eq_of_beq_eq_true h
 subst this
 obtain ⟨ca,ar,at'⟩:=c
 simp only at h1 h2 h3
 subst h1
 have e2:ar = #[]:=by apply Array.ext'; exact h2
 have e3:at' = #[]:=by apply Array.ext'; exact h3
 rw [e2,e3]
def factsK (P:Program) (A:Ann) (fn:Func):Option (SCode × SCode × Nat × List Nat × Nat × List RV) :=
 match fn.body with
 | some (.seq c0 (.seq (.region _ ⟨[o1,o2]⟩ false) rest)) => match o1.op,o1.dst,o1.guard with
  | .makeFunc (.func H) ⟨[]⟩ ca,some d,none => match isDefer o2.op d,o2.dst,o2.guard,tmpsOf ca.toList with
   | true,none,none,some ks => match low P A c0,low P A rest,resOk P fn.results.toList with
    | some sc0,some sc,some rs => match fn.name == "runtime.NumGoroutine",Nat.beq fn.ntmps A.n && Nat.blt d A.n && nodup? ks,ks.all fun k => !(mem? (asgOf rest) k) && !(Nat.beq k d) && Nat.blt k 1000 with
     | false,true,true => some (sc0,sc,H,ks,d,rs)
     | _,_,_ => none
    | _,_,_ => none
   | _,_,_,_ => none
  | _,_,_ => none
 | _ => none
theorem callsT_facts_catch {P:Program} {f H d:Nat} {fn:Func} {A:Ann} {sc0 sc:SCode} {rs:List RV} {ks ns:List Nat} {args:List C} {Lin:List TO} {R:List TO → C → Prop} {PS:Value → Prop} {out:Value → List (List Value)}
  (hf:P.funcs[f]? = some fn) (hfacts:factsK P A fn = some (sc0,sc,H,ks,d,rs)) (hH:Catch P H PS ns out)
  (hout:∀ v,PS v → (out v).length = ns.length) (hlen:Nat.ble args.length A.n = true) (hnm:noMap Lin = true)
  (hcat:∀ v,PS v → ∃ c x,(∀ (L:Loc) (ρ:Env),(∀ (i:Nat) k cs,ks[i]? = some k → (out v)[i]? = some cs → ρ k = .own k 0 ∧ ∃ g t,L.get k = some (.box g (t + 1) cs)) → retV L ρ rs (fun vs => resVal vs = x)) ∧ (∀ F L,Rel F L c x) ∧ ∀ Mo,lostL Lin Mo → R Mo c)
  (h:WfS args → (∀ o ∈ Lin,o.Wf) → evalTC P ⟨fun _ => False,[]⟩ sc0 (fun _ _ _ => False) (fun _ _ => False) (fun M τ => capsOk M τ ks ns = true ∧
   evalTC P ⟨PS,ks.zip ns⟩ sc (fun _ _ _ => False) (fun L ρ => retT L ρ rs fun vs => RetT Lin L (resT vs) R) (fun L ρ => retT L ρ rs fun vs => RetT Lin L (resT vs) R) M (tput (some d) .any τ)) (tinp Lin) (argT 0 args)) :
  CallsT P f args Lin R:=by
 unfold factsK at hfacts
 split at hfacts
 case h_2 => cases hfacts
 rename_i c0 r o1 o2 rest hb
 split at hfacts
 case h_2 => cases hfacts
 rename_i H' ca d' e1 e2 e3
 split at hfacts
 case h_2 => cases hfacts
 rename_i ks' e4 e5 e6 e7
 split at hfacts
 case h_2 => cases hfacts
 rename_i sc0' sc' rs' e8 e9 e10
 split at hfacts
 case h_2 => cases hfacts
 rename_i e11 e12 e13
 simp only [Option.some.injEq,Prod.mk.injEq] at hfacts
 obtain ⟨rfl,rfl,rfl,rfl,rfl,rfl⟩:=hfacts
 simp only [Bool.and_eq_true] at e12
 obtain ⟨⟨e12,e14⟩,e15⟩:=e12
 have hca:ca = (ks'.map Operand.tmp).toArray:=by
  have:=tmpsOf_eq e7
  rw [← this]
 rw [hca] at e1
 rw [Nat.blt_eq] at e14
 exact callsT_catch hf hb e11 (Nat.eq_of_beq_eq_true e12) e1 e2 e3 (isDefer_eq e4) e5 e6 e8 e9 e10 hH e14 e15 e13 hout hlen hnm hcat h
end Go.Fr.T
namespace Go.Fr
open Go Go.RowKit
section
variable {P:Program} {Q:Exit → Act → World → Prop} {K:Kont}
theorem noPan {n:Nat} {F:Frz} {L:Loc} {w:World} {a:Act} {asg:List Nat} {E:Nat → Kont} {R N:Kont} {c} {a':Act} {w':World} (h:QQ n F L w a asg (fun _ _ => False) E R N (.panic c) a' w'):False:=by
 obtain ⟨v,_,F',L',_,_,_,_,_,h⟩:=h
 exact h
theorem evalOps_sound {A:Ann} {r:Nat} {ops:Array Oper}:∀ (is:List Nat) {ss:List SStep} {F:Frz} {L:Loc} {ρ:Env} {a:Act} {w:World},lowReg P A r ops is = some ss → St F L w → EnvOk L ρ a → a.tmps.size = A.n →
  evalOps P ss F L ρ K → (∀ a' w',Next2 A.n F L w a (dstsOf ops is) K a' w' → Q .normal a' w') → wpOps P ops Q is a w:=by
 intro is
 induction is with
 | nil =>
  intro ss F L ρ a w hl hs he hn hK hQ
  simp only [lowReg,Option.some.injEq] at hl
  subst hl
  exact hQ a w ⟨F,L,ρ,hs,he,hn,rfl,Step.refl _ _ _,fun _ _ => rfl,hK⟩
 | cons i is ih =>
  intro ss F L ρ a w hl hs he hn hK hQ
  simp only [lowReg] at hl
  split at hl
  case h_1 => cases hl
  rename_i o hi
  split at hl
  case h_2 => cases hl
  rename_i g s rest hg hop hdst hrest
  injection hl with hl
  subst hl
  -- the ghosts
  have ghosts:∀ (ks:List Nat) {F:Frz} {L:Loc} {ρ:Env},St F L w → EnvOk L ρ a → evalOps P (ks.map SStep.frz ++ mkStep (panAt A.pan r i) o.dst s g :: rest) F L ρ K →
    ∃ F' L' ρ',St F' L' w ∧ EnvOk L' ρ' a ∧ Step F L w F' L' w ∧ evalOps P (mkStep (panAt A.pan r i) o.dst s g :: rest) F' L' ρ' K:=by
   intro ks
   induction ks with
   | nil => intro F L ρ hs he h; exact ⟨F,L,ρ,hs,he,Step.refl _ _ _,h⟩
   | cons k ks ihk =>
    intro F L ρ hs he h
    simp only [List.map_cons,List.cons_append,evalOps] at h
    split at h
    ·rename_i g' t' cs' hk
     obtain ⟨F1,hle,hg1,hs1,he1,hst1⟩:=frzB_sound hs he hk
     obtain ⟨F2,L2,ρ2,hs2,he2,hst2,h2⟩:=ihk hs1 he1 (h F1 hle hg1)
     exact ⟨F2,L2,ρ2,hs2,he2,hst1.trans hst2,h2⟩
    ·obtain ⟨F1,L1,hs1,he1,hst1,h1⟩:=frz_sound hs he h
     obtain ⟨F2,L2,ρ2,hs2,he2,hst2,h2⟩:=ihk hs1 he1 h1
     exact ⟨F2,L2,ρ2,hs2,he2,hst1.trans hst2,h2⟩
  obtain ⟨F1,L1,ρ1,hs1,he1,hst1,hK⟩:=ghosts _ hs he hK
  clear ghosts
  have hpc:panAt A.pan r i = false:=by
   cases hb:panAt A.pan r i with
   | false => rfl
   | true => rw [hb] at hK; simp only [mkStep,evalOps] at hK
  rw [hpc] at hK
  simp only [mkStep] at hK
  clear he
  have he:=he1
  have hd:∀ k,o.dst = some k → k < a.tmps.size:=by
   intro k hk
   rw [hk] at hdst
   rw [hn]
   have h2:Nat.blt k A.n = true:=hdst
   simpa using h2
  have hdsts:dstsOf ops (i :: is) = match o.dst with | some d => d :: dstsOf ops is | none => dstsOf ops is:=by
   simp only [dstsOf,hi,Option.bind_some]
   cases o.dst <;> rfl
  have notin:∀ j,j ∉ dstsOf ops (i :: is) → o.dst ≠ some j ∧ j ∉ dstsOf ops is:=by
   intro j hj
   rw [hdsts] at hj
   cases ho:o.dst with
   | none => rw [ho] at hj; exact ⟨by simp,hj⟩
   | some d =>
    rw [ho] at hj
    simp only [List.mem_cons,not_or] at hj
    exact ⟨by simp; exact fun e => hj.1 e.symm,hj.2⟩
  have goOn:evalOp P s o.dst F1 L1 ρ1 (fun F' L' ρ' => evalOps P rest F' L' ρ' K) → o.wp P a w (wpOps P ops Q is) Q:=by
   intro hK
   have:=evalOp_sound (Q:=Q) hs1 he1 hd hop hK
   refine Oper.wp_mono ?_ (wp_frame (asg:=[]) this)
   rintro a' w' ⟨⟨F',L',ρ',g1,g2,g3,g4,g5,g6⟩,hfr⟩
   refine ih hrest g1 g2 (by rw [g3,hn]) g6 ?_
   rintro a'' w'' ⟨F'',L'',ρ'',k1,k2,k3,k4,k5,k6,k7⟩
   refine hQ a'' w'' ⟨F'',L'',ρ'',k1,k2,k3,k4.trans g4,(hst1.trans g5).trans k5,fun j hj => ?_,k7⟩
   obtain ⟨n1,n2⟩:=notin j hj
   rw [k6 j n2,hfr j n1]
  have skip:evalOps P rest F1 L1 (put o.dst (.v undef) ρ1) K → wpOps P ops Q is (a.put o.dst undef) w:=by
   intro hK
   refine ih hrest hs1 (he1.put hd (v:=undef) (x:=.v undef) rfl noOwn noEl (boxKeep L1)) (by rw [size_put,hn]) hK ?_
   rintro a'' w'' ⟨F'',L'',ρ'',k1,k2,k3,k4,k5,k6,k7⟩
   refine hQ a'' w'' ⟨F'',L'',ρ'',k1,k2,k3,k4.trans (defers_put _ _ _),hst1.trans k5,fun j hj => ?_,k7⟩
   obtain ⟨n1,n2⟩:=notin j hj
   rw [k6 j n2,put_frame n1]
  simp only [wpOps,hi]
  cases hgd:o.guard with
  | none =>
   rw [hgd] at hg
   simp only [lowGuard,Option.some.injEq] at hg
   subst hg
   simp only [evalOps] at hK
   rw [if_pos (by simp [Region.wanted,hgd])]
   exact .inl (goOn hK)
  | some p =>
   obtain ⟨j,want⟩:=p
   rw [hgd] at hg
   simp only [lowGuard] at hg
   split at hg
   case h_2 => cases hg
   rename_i d hjd
   injection hg with hg
   subst hg
   simp only [evalOps] at hK
   split at hK
   ·rename_i b hb
    have htmp:=he1.eq d
    rw [hb] at htmp
    have hy:yielded ops a.tmps j = some b:=by
     simp only [yielded,hjd,Option.bind_some,getD_bool htmp]
    have hw:Region.wanted o (yielded ops a.tmps) = (b == want):=by
     simp only [Region.wanted,hgd,hy]
     cases b <;> cases want <;> rfl
    rw [hw]
    cases b <;> simp only [brn] at hK
    ·rw [put_same hb] at hK
     cases want
     ·exact .inl (goOn hK)
     ·exact skip hK
    ·rw [put_same hb] at hK
     cases want
     ·exact skip hK
     ·exact .inl (goOn hK)
   ·rename_i vs hb
    have htmp:=he1.eq d
    rw [hb] at htmp
    have hy:yielded ops a.tmps j = none:=by
     simp only [yielded,hjd,Option.bind_some]
     rw [Array.getD_eq_getD_getElem?] at htmp
     cases e:a.tmps[d]? with
     | none => rfl
     | some v => rw [e] at htmp; simp only [Option.getD_some,conc] at htmp; rw [htmp]
    have hw:Region.wanted o (yielded ops a.tmps) = false:=by
     simp only [Region.wanted,hgd,hy]; rfl
    rw [hw]
    exact skip hK
   ·exact hK.elim
theorem ghosts_sound {a:Act} {w:World} {rest:List SStep} {K:Kont}:∀ (ks:List Nat) {F:Frz} {L:Loc} {ρ:Env},St F L w → EnvOk L ρ a → evalOps P (ks.map SStep.frz ++ rest) F L ρ K →
  ∃ F' L' ρ',St F' L' w ∧ EnvOk L' ρ' a ∧ Step F L w F' L' w ∧ evalOps P rest F' L' ρ' K:=by
 intro ks
 induction ks with
 | nil => intro F L ρ hs he h; exact ⟨F,L,ρ,hs,he,Step.refl _ _ _,h⟩
 | cons k ks ihk =>
  intro F L ρ hs he h
  simp only [List.map_cons,List.cons_append,evalOps] at h
  split at h
  ·rename_i g' t' cs' hk
   obtain ⟨F1,hle,hg1,hs1,he1,hst1⟩:=frzB_sound hs he hk
   obtain ⟨F2,L2,ρ2,hs2,he2,hst2,h2⟩:=ihk hs1 he1 (h F1 hle hg1)
   exact ⟨F2,L2,ρ2,hs2,he2,hst1.trans hst2,h2⟩
  ·obtain ⟨F1,L1,hs1,he1,hst1,h1⟩:=frz_sound hs he h
   obtain ⟨F2,L2,ρ2,hs2,he2,hst2,h2⟩:=ihk hs1 he1 h1
   exact ⟨F2,L2,ρ2,hs2,he2,hst1.trans hst2,h2⟩
theorem frzD_sound {ss:List SStep} {E:Nat → Kont} {R N:Kont} {F:Frz} {L:Loc} {ρ:Env} {a:Act} {w:World}:∀ (ks:List Nat),St F L w → EnvOk L ρ a → evalC P (frzD ks (.regD ss)) E R N F L ρ →
  ∃ F' L' ρ',St F' L' w ∧ EnvOk L' ρ' a ∧ Step F L w F' L' w ∧ evalOps P ss F' L' ρ' N
 | [],hs,he,h => ⟨F,L,ρ,hs,he,Step.refl _ _ _,by simpa only [frzD,evalC] using h⟩
 | k :: l,hs,he,h => by
  simp only [frzD,evalC] at h
  have h':evalOps P ((k :: l).map SStep.frz ++ []) F L ρ (fun F L ρ => evalOps P ss F L ρ N):=by simpa only [List.map_cons,List.append_nil] using h
  obtain ⟨F1,L1,ρ1,h1,h2,h3,h4⟩:=ghosts_sound (k :: l) hs he h'
  simp only [evalOps] at h4
  exact ⟨F1,L1,ρ1,h1,h2,h3,h4⟩
theorem evalC_sound {A:Ann}:∀ (c:Code) {sc:SCode},low P A c = some sc → ∀ {E:Nat → Kont} {R N:Kont} {F:Frz} {L:Loc} {ρ:Env} {a:Act} {w:World},St F L w → EnvOk L ρ a → a.tmps.size = A.n →
  evalC P sc E R N F L ρ → c.wp P (QQ A.n F L w a (asgOf c) (fun _ _ => False) E R N) a w:=by
 intro c
 induction c with
 | skip =>
  intro sc hl E R N F L ρ a w hs he hn hK
  simp only [low,Option.some.injEq] at hl; subst hl
  exact wp_skip ⟨F,L,ρ,hs,he,hn,rfl,Step.refl _ _ _,fun _ _ => rfl,hK⟩
 | label l =>
  intro sc hl E R N F L ρ a w hs he hn hK
  simp only [low,Option.some.injEq] at hl; subst hl
  exact wp_label ⟨F,L,ρ,hs,he,hn,rfl,Step.refl _ _ _,fun _ _ => rfl,hK⟩
 | exit id =>
  intro sc hl E R N F L ρ a w hs he hn hK
  simp only [low,Option.some.injEq] at hl; subst hl
  exact wp_exit ⟨F,L,ρ,hs,he,hn,rfl,Step.refl _ _ _,fun _ _ => rfl,hK⟩
 | ret =>
  intro sc hl E R N F L ρ a w hs he hn hK
  simp only [low,Option.some.injEq] at hl; subst hl
  exact wp_ret ⟨F,L,ρ,hs,he,hn,rfl,Step.refl _ _ _,fun _ _ => rfl,hK⟩
 | region r ops draw =>
  intro sc hl E R N F L ρ a w hs he hn hK
  cases draw with
  | false =>
   simp only [low] at hl
   split at hl
   case h_2 => cases hl
   rename_i ss hss
   injection hl with hl; subst hl
   simp only [evalC] at hK
   exact wp_region (evalOps_sound _ hss hs he hn hK fun a' w' h => h)
  | true =>
   simp only [low] at hl
   split at hl
   case h_2 => cases hl
   rename_i is cl ss h1 h2
   split at hl
   case h_2 =>
    split at hl
    case h_2 => cases hl
    injection hl with hl; subst hl
    simp only [evalC] at hK
   rename_i h0
   split at hl
   case h_2 => cases hl
   rename_i h3
   injection hl with hl; subst hl
   obtain ⟨F1,L1,ρ1,hs1,he1,hst1,hK⟩:=frzD_sound _ hs he hK
   have h4:ordIs A.ord r = is:=by simp only [ordIs,h1]
   rw [h4] at h2
   exact draw_sound h2 h3 hs1 he1 hn hK fun a' w' h => Next2.after (asg1:=[]) hst1 rfl (fun _ _ => rfl) h (fun _ h => absurd h List.not_mem_nil) (fun _ h => h)
 | seq x y ihx ihy =>
  intro sc hl E R N F L ρ a w hs he hn hK
  simp only [low] at hl
  split at hl
  case h_2 => cases hl
  rename_i h1 h2
  injection hl with hl; subst hl
  simp only [evalC] at hK
  refine wp_seq (wp_mono (ihx h1 hs he hn hK) ?_)
  intro e a1 w1 hq
  cases e with
  | normal =>
   obtain ⟨F1,L1,ρ1,g1,g2,g3,g4,g5,g6,g7⟩:=hq
   refine wp_mono (ihy h2 g1 g2 g3 g7) ?_
   intro e2 a2 w2 hq2
   cases e2 <;> first
    | exact Next2.after g5 g4 g6 hq2 (fun j h => List.mem_append.2 (.inl h)) (fun j h => List.mem_append.2 (.inr h))
    | exact hq2
    | exact (noPan hq2).elim
  | exit id => exact hq.mono fun j h => List.mem_append.2 (.inl h)
  | ret => exact hq.mono fun j h => List.mem_append.2 (.inl h)
  | goto l => exact hq
  | panic c => exact (noPan hq).elim
  | outgrown => exact hq
 | cond c x y ihx ihy =>
  intro sc hl E R N F L ρ a w hs he hn hK
  simp only [low] at hl
  split at hl
  case h_2 => cases hl
  rename_i h0 h1 h2
  injection hl with hl; subst hl
  simp only [evalC] at hK
  split at hK
  case h_2 => exact hK.elim
  rename_i t ht
  have hc:a.eval c = .bool t:=by rw [lowX_eval h0 he,val_v ht]
  refine wp_cond hc ?_
  cases t
  ·simp only [brn] at hK
   refine wp_mono (ihy h2 hs he hn hK) ?_
   intro e a1 w1 hq
   cases e <;> first
    | exact hq.mono fun j h => List.mem_append.2 (.inr h)
    | exact (noPan hq).elim
    | exact hq
  ·simp only [brn] at hK
   refine wp_mono (ihx h1 hs he hn hK) ?_
   intro e a1 w1 hq
   cases e <;> first
    | exact hq.mono fun j h => List.mem_append.2 (.inl h)
    | exact (noPan hq).elim
    | exact hq
 | block id x ih =>
  intro sc hl E R N F L ρ a w hs he hn hK
  simp only [low] at hl
  split at hl
  case h_2 => cases hl
  rename_i h1
  injection hl with hl; subst hl
  simp only [evalC] at hK
  refine wp_block (wp_mono (ih h1 hs he hn hK) ?_)
  intro e a1 w1 hq
  cases e with
  | exit j =>
   simp only [Exit.inBlock]
   simp only [QQ] at hq
   by_cases hj:j = id
   ·subst hj
    have hb:Nat.beq j j = true:=by simp
    rw [hb] at hq
    rw [if_pos rfl]
    exact hq
   ·have hb:Nat.beq j id = false:=by
     cases h:Nat.beq j id with
     | true => exact absurd (Nat.eq_of_beq_eq_true h) hj
     | false => rfl
    rw [hb] at hq
    rw [if_neg hj]
    exact hq
  | normal => exact hq
  | ret => exact hq
  | goto l => exact hq
  | panic c => exact (noPan hq).elim
  | outgrown => exact hq
 | loop x ih =>
  intro sc hl E R N F L ρ a w hs he hn hK
  simp only [low] at hl
  split at hl
  case h_2 => cases hl
  rename_i sx h1
  injection hl with hl; subst hl
  simp only [evalC] at hK
  obtain ⟨σ,x0,Inv,ls,lv,Lf,μ,i0,i1,i2,i3,i4⟩:=hK
  -- the frame at a loop's head
  have head:∀ (y:σ) (F1:Frz) (L1:Loc) (ρ1:Env) (a1:Act) (w1:World),(∀ t,a1.tmps.getD t undef = conc L1 (ρ1 t)) → (∀ j,j ∉ asgOf x → a1.tmps.getD j undef = a.tmps.getD j undef) → holds ls ((lv y).map .v) ρ1 →
    EnvOk (Lf y) (puts ls ((lv y).map .v) (overJ (asgOf x) (fun j => a1.tmps.getD j undef) ρ)) a1:=by
   intro y F1 L1 ρ1 a1 w1 heq hfr hh
   have base:∀ j k off,overJ (asgOf x) (fun j => a1.tmps.getD j undef) ρ j = .own k off → j ∉ asgOf x ∧ ρ j = .own k off:=by
    intro j k off e
    simp only [overJ] at e
    split at e
    ·cases e
    ·rename_i hm
     exact ⟨fun h => (by rw [mem?_eq.2 h] at hm; cases hm),e⟩
   have bel:∀ j ad i,overJ (asgOf x) (fun j => a1.tmps.getD j undef) ρ j = .el ad i → ρ j = .el ad i:=by
    intro j ad i e
    simp only [overJ] at e
    split at e
    ·cases e
    ·exact e
   refine ⟨fun j => ?_,fun j k off e => ?_,fun j ad i e => ?_⟩
   ·rcases holds_puts ls (lv y) ρ1 (overJ (asgOf x) (fun j => a1.tmps.getD j undef) ρ) heq hh j with ⟨v,h2,h3⟩ | h2
    ·rw [h2,h3]; rfl
    ·rw [h2]
     simp only [overJ]
     split
     ·rfl
     ·rename_i hm
      have hj:j ∉ asgOf x:=fun h => by rw [mem?_eq.2 h] at hm; cases hm
      rw [hfr j hj,he.eq j]
      cases e:ρ j with
      | v u => rfl
      | el u i => rfl
      | own k off =>
       obtain ⟨g,ty,cs,hg⟩:=he.own j k off e
       obtain ⟨cs',hg'⟩:=keeps_get (i3 y) hg
       simp only [conc,hg,hg']
   ·rcases puts_get_env ls (lv y) (overJ (asgOf x) (fun j => a1.tmps.getD j undef) ρ) j with h2 | ⟨v,h2⟩
    ·rw [h2] at e
     obtain ⟨_,e'⟩:=base j k off e
     obtain ⟨g,ty,cs,hg⟩:=he.own j k off e'
     obtain ⟨cs',hg'⟩:=keeps_get (i3 y) hg
     exact ⟨g,ty,cs',hg'⟩
    ·rw [h2] at e; cases e
   ·rcases puts_get_env ls (lv y) (overJ (asgOf x) (fun j => a1.tmps.getD j undef) ρ) j with h2 | ⟨v,h2⟩
    ·rw [h2] at e
     exact he.el j ad i (bel j ad i e)
    ·rw [h2] at e; cases e
  refine wp_loop_n (fun n a1 w1 => ∃ (y:σ) (F1:Frz),n = μ y ∧ F.le F1 ∧ Inv y F1 ∧ St F1 (Lf y) w1 ∧ a1.tmps.size = A.n ∧ a1.defers = a.defers ∧ Step F L w F1 (Lf y) w1 ∧ (∀ j,j ∉ asgOf x → a1.tmps.getD j undef = a.tmps.getD j undef) ∧
   EnvOk (Lf y) (puts ls ((lv y).map .v) (overJ (asgOf x) (fun j => a1.tmps.getD j undef) ρ)) a1) ?_ ?_
  ·exact ⟨_,x0,F,rfl,Frz.le_refl F,i0,hs.gives i2,hn,rfl,gives_step i2,fun _ _ => rfl,head x0 F L ρ a w he.eq (fun _ _ => rfl) i1⟩
  ·rintro n a1 w1 ⟨y,F1,rfl,hle,hinv,hs1,hn1,hd1,hst1,hfr1,he1⟩
   refine wp_mono (ih h1 hs1 he1 hn1 (i4 y F1 _ hle hinv)) ?_
   intro e a2 w2 hq
   cases e with
   | normal =>
    obtain ⟨F2,L2,ρ2,g1,g2,g3,g4,g5,g6,⟨y',k1,k2,k3,k4⟩⟩:=hq
    have hfr2:∀ j,j ∉ asgOf x → a2.tmps.getD j undef = a.tmps.getD j undef:=fun j hj => by rw [g6 j hj,hfr1 j hj]
    exact ⟨μ y',k4,y',F2,rfl,Frz.le_trans hle g5.le,k1,g1.gives k3,g3,g4.trans hd1,(hst1.trans g5).trans (gives_step k3),hfr2,head y' F2 L2 ρ2 a2 w2 g2.eq hfr2 k2⟩
   | exit j => exact Next2.after hst1 hd1 hfr1 hq (fun j h => h) (fun j h => h)
   | ret => exact Next2.after hst1 hd1 hfr1 hq (fun j h => h) (fun j h => h)
   | goto l => exact hq
   | panic c => exact (noPan hq).elim
   | outgrown => exact hq
 | rangeFunc f ps x y ihx ihy => intro sc hl; simp only [low] at hl; cases hl
 | scope x ih =>
  intro sc hl E R N F L ρ a w hs he hn hK
  simp only [low] at hl
  refine wp_scope_straight (wp_mono (ih hl hs he hn hK) ?_)
  intro e a1 w1 hq
  cases e <;> exact hq
 | goto l => intro sc hl; simp only [low] at hl; cases hl
 | refuse why => intro sc hl; simp only [low] at hl; cases hl
end
end Go.Fr
namespace Go.Fr.T
open Go Go.RowKit Go.Fr
theorem bxs_at:∀ {bs:List Own} {ns:List Nat} {i:Nat} {o:Own},Bxs bs ns → bs[i]? = some o → ∃ g t cs,o = .box g t cs
 | [],ns,i,o,h,e => by simp at e
 | b :: bs,[],i,o,h,e => h.elim
 | b :: bs,n :: ns,i,o,h,e => by
  cases i with
  | zero =>
   simp only [List.getElem?_cons_zero,Option.some.injEq] at e
   subst e
   cases b with
   | row => exact h.1.elim
   | box g t cs => exact ⟨g,t,cs,rfl⟩
  | succ i => exact bxs_at h.2 (by simpa using e)
def capE (n:Nat):Env:=fun j => match Nat.blt j n with | true => .own (1000 + j) 0 | false => .v undef
theorem capE_ok {bs:List Own} {ns:List Nat} {m:Nat} (h:Bxs bs ns):EnvOk (inp bs) (capE bs.length) { tmps:=(bs.map ptrO).toArray ++ Array.replicate m undef,defers:=[] }:=by
 have hg:∀ j,j < bs.length → ∃ g t cs,bs[j]? = some (.box g t cs):=fun j hj => by
  obtain ⟨g,t,cs,e⟩:=bxs_at h (List.getElem?_eq_getElem hj)
  exact ⟨g,t,cs,by rw [List.getElem?_eq_getElem hj,e]⟩
 have hi:∀ j,(inp bs).get (1000 + j) = bs[j]?:=fun j => by rw [inp_get,if_pos (by omega),show 1000 + j - 1000 = j by omega]
 refine ⟨fun j => ?_,fun j k off e => ?_,fun j ad i e => ?_⟩
 ·simp only [capE,Array.getD_eq_getD_getElem?]
  cases hb:Nat.blt j bs.length with
  | true =>
   have hlt:j < bs.length:=by simpa using hb
   obtain ⟨g,t,cs,e⟩:=hg j hlt
   rw [Array.getElem?_append_left (by simpa using hlt)]
   simp only [conc,hi,e,List.getElem?_toArray,List.getElem?_map,Option.map_some,Option.getD_some,ptrO]
  | false =>
   have hge:¬ j < bs.length:=fun h => by rw [(Nat.blt_eq ..).mpr h] at hb; cases hb
   rw [Array.getElem?_append_right (by simpa using hge)]
   simp only [Array.getElem?_replicate,conc]
   split <;> rfl
 ·simp only [capE] at e
  split at e
  ·rename_i hb
   have hlt:j < bs.length:=by simpa using hb
   injection e with e1 e2
   subst e1
   obtain ⟨g,t,cs,e⟩:=hg j hlt
   exact ⟨g,t,cs,by rw [hi,e]⟩
  ·cases e
 ·simp only [capE] at e
  split at e <;> cases e
theorem catch_of {P:Program} {H d r0:Nat} {fn:Func} {o:Oper} {rest:Code} {A:Ann} {sc:SCode} {PS:Value → Prop} {ns:List Nat} {out:Value → List (List Value)}
  (hf:P.funcs[H]? = some fn) (hb:fn.body = some (.seq (.region r0 #[o] false) rest)) (hname:(fn.name == "runtime.NumGoroutine") = false) (ho:o.op = .call { callee:=.builtin .recover,args:=#[],argTypes:=#[] }) (hd:o.dst = some d) (hg:o.guard = none)
  (hnt:fn.ntmps = A.n) (hres:fn.results = #[]) (hl:low P A rest = some sc) (hdn:d < A.n) (hns:ns.length ≤ A.n)
  (hidle:∀ (bs:List Own) (w:World),Bxs bs ns → CallsD P H (bs.map ptrO).toArray .returning w fun e u' w' => e = .returned (.tuple #[]) ∧ u' = .returning ∧ w' = w)
  (hcat:∀ (F:Frz) (bs:List Own) (v:Value),PS v → Bxs bs ns → evalC P sc (fun _ _ _ _ => False) (fun _ L' _ => L'.sub (List.range' 1000 bs.length) = some (List.zipWith outO bs (out v))) (fun _ L' _ => L'.sub (List.range' 1000 bs.length) = some (List.zipWith outO bs (out v))) F (inp bs) (put (some d) (.v v) (capE bs.length))) :
  Catch P H PS ns out:=by
 refine ⟨fun cap w => ?_,hidle,fun F bs v older w hv hbx hs => ?_⟩
 ·simp [invoke]
  rw [run_callFunc ⟨fn,hf,by rw [hb]; rfl,hname⟩]
 refine callsD_of_wpS hf hb fun c₀ cs hu => ?_
 have hlen:=bxs_len hbx
 have he0:=capE_ok (m:=fn.ntmps - (bs.map ptrO).toArray.size) hbx
 generalize htm:(bs.map ptrO).toArray ++ Array.replicate (fn.ntmps - (bs.map ptrO).toArray.size) undef = tm at he0 ⊢
 have hsz:tm.size = A.n:=by
  rw [← htm,← hnt]
  simp
  omega
 refine wpS_seq (wpS_region ?_)
 simp [wpOpsS,go_sem,recoverD,hu,ho,hd,hg,Region.wanted,Exit.thenS,hsz,hdn]
 have he1:=he0.put (L':=inp bs) (d:=some d) (v:=v) (x:=.v v) (fun k e => by injection e with e; subst e; simpa [hsz] using hdn) rfl noOwn noEl (fun k g ty cs e => ⟨cs,e⟩)
 refine wpS_of_wp (wp_mono (evalC_sound rest hl hs ⟨he1.eq,he1.own,he1.el⟩ (by simpa using hsz) (hcat F bs v hv hbx)) ?_)
 have fin:∀ (a':Act) (w':World),Next2 A.n F (inp bs) w { tmps:=tm.setIfInBounds d v,defers:=[] } (asgOf rest) (fun _ L' _ => L'.sub (List.range' 1000 bs.length) = some (List.zipWith outO bs (out v))) a' w' →
   a'.defers = [] ∧ ∃ u',({ c₀ with mode:=FrameMode.panicking ({ v,recovered:=true } :: older) } :: cs:List Frame) = { c₀ with mode:=u' } :: cs ∧ ∃ x,(results fn a'.tmps).run P w' = .ok x w' ∧
    ((Ending.returned x = .returned (.tuple #[]) ∧ u' = .panicking ({ v,recovered:=true } :: older)) ∧ ∃ F',St F' (inp (List.zipWith outO bs (out v))) w' ∧ Step F (inp bs) w F' (inp (List.zipWith outO bs (out v))) w'):=by
  rintro a' w' ⟨F',L',ρ',g1,g2,g3,g4,g5,g6,k1⟩
  obtain ⟨e1,e2⟩:=sub_get k1
  refine ⟨g4,_,rfl,.tuple #[],by simp [results,hres],⟨rfl,rfl⟩,F',g1.handed k1 List.nodup_range',?_⟩
  refine ⟨g5.le,g5.os,g5.tape,g5.output,g5.size,g5.same,g5.frz,fun b hb => g5.own b ?_⟩
  obtain ⟨j,p,e,hb⟩:=hb
  rw [inp_get] at e
  split at e
  case isFalse => cases e
  have hlt:j - 1000 < (List.zipWith outO bs (out v)).length:=(List.getElem?_eq_some_iff.1 e).1
  have hk:(List.range' 1000 bs.length)[j - 1000]? = some ((List.range' 1000 bs.length)[j - 1000]'(by omega)):=List.getElem?_eq_getElem (by omega)
  exact ⟨_,p,by rw [e2 _ _ hk]; exact e,hb⟩
 intro e a' w' hq
 cases e with
 | normal =>
  obtain ⟨k1,u',k2,x,k3,⟨k4,k5⟩,k6⟩:=fin a' w' hq
  exact ⟨k1,u',k2,x,k3,k4,k5,k6⟩
 | ret =>
  obtain ⟨k1,u',k2,x,k3,⟨k4,k5⟩,k6⟩:=fin a' w' hq
  exact ⟨k1,u',k2,x,k3,k4,k5,k6⟩
 | exit j => obtain ⟨F',L',ρ',_,_,_,_,_,_,h⟩:=hq; exact h.elim
 | goto l => exact hq.elim
 | outgrown => exact hq.elim
 | panic ch => obtain ⟨v,hch,hp⟩:=hq; obtain ⟨F',L',_,_,_,_,_,hp⟩:=hp; exact hp.elim
def isRec:Op → Bool
 | .call { callee:=.builtin .recover,args:=⟨[]⟩,argTypes:=⟨[]⟩ } => true
 | _ => false
def factsR (P:Program) (A:Ann) (fn:Func):Option (SCode × Nat) :=
 match fn.body with
 | some (.seq (.region _ ⟨[o]⟩ false) rest) => match isRec o.op,o.dst,o.guard,low P A rest,fn.results with
  | true,some d,none,some sc,⟨[]⟩ => match fn.name == "runtime.NumGoroutine",Nat.beq fn.ntmps A.n && Nat.blt d A.n with
   | false,true => some (sc,d)
   | _,_ => none
  | _,_,_,_,_ => none
 | _ => none
theorem catch_facts {P:Program} {H d:Nat} {fn:Func} {A:Ann} {sc:SCode} {PS:Value → Prop} {ns:List Nat} {out:Value → List (List Value)} (hf:P.funcs[H]? = some fn) (hfacts:factsR P A fn = some (sc,d)) (hns:Nat.ble ns.length A.n = true)
  (hidle:∀ (bs:List Own) (w:World),Bxs bs ns → CallsD P H (bs.map ptrO).toArray .returning w fun e u' w' => e = .returned (.tuple #[]) ∧ u' = .returning ∧ w' = w)
  (hcat:∀ (F:Frz) (bs:List Own) (v:Value),PS v → Bxs bs ns → evalC P sc (fun _ _ _ _ => False) (fun _ L' _ => L'.sub (List.range' 1000 bs.length) = some (List.zipWith outO bs (out v))) (fun _ L' _ => L'.sub (List.range' 1000 bs.length) = some (List.zipWith outO bs (out v))) F (inp bs) (put (some d) (.v v) (capE bs.length))) :
  Catch P H PS ns out:=by
 unfold factsR at hfacts
 split at hfacts
 case h_2 => cases hfacts
 rename_i r o rest hb
 split at hfacts
 case h_2 => cases hfacts
 rename_i d' sc' h1 h2 h3 h4 h5
 split at hfacts
 case h_2 => cases hfacts
 rename_i h6 h7
 simp only [Option.some.injEq,Prod.mk.injEq] at hfacts
 obtain ⟨rfl,rfl⟩:=hfacts
 simp only [Bool.and_eq_true] at h7
 obtain ⟨h7,h8⟩:=h7
 have ho:o.op = .call { callee:=.builtin .recover,args:=#[],argTypes:=#[] }:=by
  unfold isRec at h1
  split at h1
  ·assumption
  ·cases h1
 exact catch_of hf hb h6 ho h2 h3 (Nat.eq_of_beq_eq_true h7) h5 h4 (by simpa using h8) (Nat.le_of_ble_eq_true hns) hidle hcat
end Go.Fr.T
