/- Regions that draw their order: which operations may stand before which. -/
import Derived.Test.YtgapnemcomkomaaFrCode
set_option linter.unusedVariables false
set_option linter.unusedSimpArgs false
namespace Go.Fr
open Go Go.RowKit

/-- the operands that an operation looks at -/
def xsOf : SOp → List X
  | .mov x | .nilck x | .conv _ x | .un _ x | .fieldA _ x | .fieldV _ _ _ x | .extr x _ | .len x | .lenS x | .capa x | .loadD _ _ x | .boxD _ x => [x]
  | .pick c a b => [c, a, b]
  | .bin _ x y | .eqB _ x y | .eqP _ x y | .eqS _ x y | .eqF _ x y | .idxA _ x y | .idxS x y => [x, y]
  | .build _ ps => ps.map (·.2.2)
  | .mkfn _ a b => a ++ b
  | .slc _ x lo hi | .slcS x lo hi => x :: (lo.toList ++ hi.toList)
  | .mm _ l | .mkFD _ _ _ l => l
  | .callD _ l => l
  | .callVD f l => f :: l
  | .allocD _ _ => []
  | .appD _ _ _ _ s x => [s, x]
  | .storeD _ a x => [a, x]
  | _ => []
/-- the operations of a drawn region that compute or read -/
def simpleD : SOp → Bool
  | .mov _ | .nilck _ | .conv _ _ | .un _ _ | .fieldA _ _ | .fieldV _ _ _ _ | .extr _ _ | .len _ | .lenS _ | .capa _ | .loadD _ _ _ | .pick _ _ _
  | .bin _ _ _ | .eqB _ _ _ | .eqP _ _ _ | .eqS _ _ _ | .eqF _ _ _ | .idxA _ _ _ | .idxS _ _ | .build _ _ | .mkfn _ _ _ | .slc _ _ _ _ | .slcS _ _ _ | .mm _ _ => true
  | _ => false
def callD? : SOp → Bool
  | .callD _ _ | .callVD _ _ => true
  | _ => false
def allocD? : SOp → Bool
  | .mkFD _ _ _ _ | .boxD _ _ | .allocD _ _ => true
  | _ => false
def appD? : SOp → Bool
  | .appD _ _ _ _ _ _ => true
  | _ => false
def storeD? : SOp → Bool
  | .storeD _ _ _ => true
  | _ => false
/-- the operations that look at slots alone -/
def pureD : SOp → Bool
  | .mov _ | .nilck _ | .conv _ _ | .un _ _ | .fieldA _ _ | .fieldV _ _ _ _ | .extr _ _ | .len _ | .lenS _ | .capa _ | .pick _ _ _
  | .bin _ _ _ | .eqB _ _ _ | .eqP _ _ _ | .eqS _ _ _ | .eqF _ _ _ | .idxA _ _ _ | .idxS _ _ | .slc _ _ _ _ | .slcS _ _ _ | .mm _ _ => true
  | _ => false
theorem pure_simple {o : SOp} (h : pureD o = true) : simpleD o = true := by cases o <;> first | rfl | cases h
theorem outV_pure {o : SOp} (h : pureD o = true) {F F' : Frz} {L L' : Loc} {ρ : Env} {V : SV → Prop} (hK : outV o F L ρ V) : outV o F' L' ρ V := by
  cases o <;> first | (cases h; done) | exact hK
def drawn : SOp → Option SOp
  | .load a n x => some (.loadD a n x)
  | .call f l => some (.callD f l)
  | .callV f l => some (.callVD f l)
  | .box t x => some (.boxD t x)
  | .alloc t z => some (.allocD t z)
  | .mkF e n sz l => some (.mkFD e n sz l)
  | .app e sz b z s x => some (.appD e sz b z s x)
  | .store n a x => some (.storeD n a x)
  | .boxD _ _ | .allocD _ _ | .mkFD _ _ _ _ | .callD _ _ | .callVD _ _ | .loadD _ _ _ | .appD _ _ _ _ _ _ | .storeD _ _ _ | .boxF _ _ | .callO _ _ | .callVO _ _ | .appX _ _ _ _ _ _ => none
  | o => some o
/-- a call that is handed own blocks: nothing may stand before it that does not have to -/
def drawnO : SOp → Option SOp
  | .call f l => some (.callO f l)
  | .callV f l => some (.callVO f l)
  | .app e sz b z s x => some (.appX e sz b z s x)
  | _ => none

section
variable {P : Program} {F : Frz} {L : Loc} {ρ : Env} {K : Kont}

theorem evalOp_simple {o : SOp} (h : simpleD o = true) (d : Option Nat) : evalOp P o d F L ρ K = outV o F L ρ fun v => K F L (put d v ρ) := by
  cases o <;> first | rfl | cases h

/-- a way to hand on one value -/
structure One (T : (SV → Prop) → Prop) : Prop where
  ex : ∀ V, T V → ∃ v, T (fun u => u = v) ∧ V v
  mono : ∀ V V' : SV → Prop, (∀ v, V v → V' v) → T V → T V'
theorem One.ret (v : SV) : One fun V => V v := ⟨fun V h => ⟨v, rfl, h⟩, fun V V' h k => h v k⟩
theorem One.no : One fun _ => False := ⟨fun V h => h.elim, fun V V' h k => k⟩
theorem One.and {p : Prop} {T : (SV → Prop) → Prop} (h : One T) : One fun V => p ∧ T V :=
  ⟨fun V ⟨hp, ht⟩ => let ⟨v, h1, h2⟩ := h.ex V ht; ⟨v, ⟨hp, h1⟩, h2⟩, fun V V' hv ⟨hp, ht⟩ => ⟨hp, h.mono V V' hv ht⟩⟩
theorem One.fit {k : IntKind} {n : Int} {T : Int → (SV → Prop) → Prop} (h : ∀ m, One (T m)) : One fun V => Fit k n fun m => T m V :=
  ⟨fun V ⟨ht⟩ => let ⟨v, h1, h2⟩ := (h _).ex V ht; ⟨v, ⟨h1⟩, h2⟩, fun V V' hv ⟨ht⟩ => ⟨(h _).mono V V' hv ht⟩⟩
theorem One.nz {n : Int} {T : (SV → Prop) → Prop} (h : One T) : One fun V => NonZ n (T V) :=
  ⟨fun V ⟨hp, ht⟩ => let ⟨v, h1, h2⟩ := h.ex V ht; ⟨v, ⟨hp, h1⟩, h2⟩, fun V V' hv ⟨hp, ht⟩ => ⟨hp, h.mono V V' hv ht⟩⟩
theorem One.inb {i n : Int} {T : (SV → Prop) → Prop} (h : One T) : One fun V => InB i n (T V) :=
  ⟨fun V ⟨hp, hq, ht⟩ => let ⟨v, h1, h2⟩ := h.ex V ht; ⟨v, ⟨hp, hq, h1⟩, h2⟩, fun V V' hv ⟨hp, hq, ht⟩ => ⟨hp, hq, h.mono V V' hv ht⟩⟩
theorem One.idx {a : Option Addr} {i n : Int} {T : (SV → Prop) → Prop} (h : One T) : One fun V => IdxPt a i n (T V) :=
  ⟨fun V ⟨hp, hq, hr, ht⟩ => let ⟨v, h1, h2⟩ := h.ex V ht; ⟨v, ⟨hp, hq, hr, h1⟩, h2⟩, fun V V' hv ⟨hp, hq, hr, ht⟩ => ⟨hp, hq, hr, h.mono V V' hv ht⟩⟩
theorem One.slc {l h : Int} {c : Nat} {T : Nat → Nat → (SV → Prop) → Prop} (hT : ∀ l h, One (T l h)) : One fun V => SlcPt l h c fun l h => T l h V :=
  ⟨fun V ⟨hp, hq, hr, ht⟩ => let ⟨v, h1, h2⟩ := (hT _ _).ex V ht; ⟨v, ⟨hp, hq, hr, h1⟩, h2⟩, fun V V' hv ⟨hp, hq, hr, ht⟩ => ⟨hp, hq, hr, (hT _ _).mono V V' hv ht⟩⟩
theorem One.loadD {a : Option Addr} {j n : Nat} {T : List Value → (SV → Prop) → Prop} (h : ∀ cs, One (T cs)) : One fun V => LoadDPt F a j n fun cs => T cs V :=
  ⟨fun V ⟨cs, hp, hq, ht⟩ => let ⟨v, h1, h2⟩ := (h _).ex V ht; ⟨v, ⟨cs, hp, hq, h1⟩, h2⟩, fun V V' hv ⟨cs, hp, hq, ht⟩ => ⟨cs, hp, hq, (h _).mono V V' hv ht⟩⟩
theorem One.binI {op : BinOp} {k : IntKind} {a b : Int} : One fun V => binI op k a b fun v => V (.v v) := by
  cases op <;> simp only [Fr.binI] <;> first
    | exact One.no
    | exact One.ret _
    | exact One.fit fun _ => One.ret _
    | exact One.nz (One.fit fun _ => One.ret _)
    | exact One.nz (One.ret _)
theorem One.shI {op : BinOp} {k : IntKind} {a b : Int} : One fun V => shI op k a b fun v => V (.v v) := by
  cases op <;> simp only [Fr.shI] <;> first
    | exact One.no
    | exact One.and (One.fit fun _ => One.ret _)
    | exact One.and (One.ret _)
theorem One.binS {op : BinOp} {a b : ByteArray} : One fun V => binS op a b fun v => V (.v v) := by
  cases op <;> simp only [Fr.binS] <;> first
    | exact One.no
    | exact One.ret _
    | exact One.and (One.ret _)

/-- an operation that computes or reads: its one value -/
theorem outV_one {o : SOp} (h : simpleD o = true) : One (outV o F L ρ) := by
  cases o <;> first | (cases h; done) | skip
  case mov x => exact One.ret _
  case pick c a b =>
    show One fun V => outV _ F L ρ V
    simp only [outV]
    cases e : ev ρ c with
    | v x => cases x <;> try exact One.no
             rename_i b; cases b <;> exact One.ret _
    | own k off => exact One.no
    | el a j => exact One.no
  case build zs ps =>
    show One fun V => outV _ F L ρ V
    simp only [outV]
    cases e : built L ρ zs ps with
    | none => exact One.no
    | some cs => exact One.ret _
  case loadD ag n x =>
    show One fun V => outV _ F L ρ V
    simp only [outV]
    cases e : ev ρ x with
    | own k off =>
      simp only []
      cases e2 : L.get k with
      | none => exact One.no
      | some p =>
        cases p with
        | row => exact One.no
        | box g t cs =>
          simp only []
          cases e3 : len? ((cs.drop off).take n) n
          · exact One.no
          · exact One.ret _
    | el a j => exact One.loadD fun _ => One.ret _
    | v x =>
      cases x <;> try exact One.no
      rename_i a; cases a
      · exact One.no
      · exact One.loadD fun _ => One.ret _
  case nilck x =>
    show One fun V => outV _ F L ρ V
    simp only [outV]
    cases e : ev ρ x with
    | own k off => exact One.ret _
    | el a j => exact One.and (One.ret _)
    | v x =>
      cases x <;> try exact One.no
      · rename_i a; cases a
        · exact One.no
        · exact One.ret _
      · rename_i f a b; cases f <;> first | exact One.no | exact One.ret _
  case bin op x y =>
    show One fun V => outV _ F L ρ V
    simp only [outV]
    cases e : ev ρ x with
    | own k off => exact One.no
    | el a j => exact One.no
    | v u =>
      cases e2 : ev ρ y with
      | own k off => cases u <;> exact One.no
      | el a j => cases u <;> exact One.no
      | v u' =>
        cases u <;> cases u' <;> try exact One.no
        · simp only []
          cases isSh op
          · simp only []
            rename_i k n k' n'
            cases kindEq k k'
            · exact One.no
            · exact One.binI
          · exact One.shI
        · exact One.binS
  case eqB ng x y =>
    show One fun V => outV _ F L ρ V
    simp only [outV]
    cases e : ev ρ x with
    | own k off => exact One.no
    | el a j => exact One.no
    | v u =>
      cases e2 : ev ρ y with
      | own k off => cases u <;> exact One.no
      | el a j => cases u <;> exact One.no
      | v u' => cases u <;> cases u' <;> first | exact One.no | exact One.ret _
  case eqP ng x y =>
    show One fun V => outV _ F L ρ V
    simp only [outV]
    cases e : ev ρ x with
    | own k off =>
      cases e2 : ev ρ y with
      | own k off => exact One.no
      | el a j => exact One.no
      | v u' =>
        cases u' <;> try exact One.no
        rename_i p; cases p <;> first | exact One.no | exact One.ret _
    | el a j =>
      cases e2 : ev ρ y with
      | own k off => cases a <;> exact One.no
      | el b i => cases a <;> exact One.no
      | v u' =>
        cases a <;> cases u' <;> try exact One.no
        rename_i p; cases p <;> first | exact One.no | exact One.ret _
    | v u =>
      cases e2 : ev ρ y with
      | own k off => cases u <;> exact One.no
      | el a j => cases u <;> exact One.no
      | v u' =>
        cases u <;> cases u' <;> try exact One.no
        rename_i p q; cases q <;> first | exact One.no | exact One.ret _
  case eqS ng x y =>
    show One fun V => outV _ F L ρ V
    simp only [outV]
    cases e : ev ρ x with
    | own k off => exact One.no
    | el a j => exact One.no
    | v u =>
      cases e2 : ev ρ y with
      | own k off => cases u <;> exact One.no
      | el a j => cases u <;> exact One.no
      | v u' =>
        cases u <;> cases u' <;> try exact One.no
        rename_i a1 l1 c1 a2 l2 c2; cases a2 <;> first | exact One.no | exact One.ret _
  case eqF ng x y =>
    show One fun V => outV _ F L ρ V
    simp only [outV]
    cases e : ev ρ x with
    | own k off => exact One.no
    | el a j => exact One.no
    | v u =>
      cases e2 : ev ρ y with
      | own k off => cases u <;> exact One.no
      | el a j => cases u <;> exact One.no
      | v u' => cases u <;> cases u' <;> first | exact One.no | exact One.ret _
  case un op x =>
    show One fun V => outV _ F L ρ V
    simp only [outV]
    cases op <;> cases e : ev ρ x <;> first
      | exact One.no
      | (rename_i u; cases u <;> first | exact One.no | exact One.ret _ | exact One.fit fun _ => One.ret _)
  case conv k x =>
    show One fun V => outV _ F L ρ V
    simp only [outV]
    cases e : ev ρ x <;> first
      | exact One.no
      | (rename_i u; cases u <;> first | exact One.no | exact One.fit fun _ => One.ret _)
  case mkfn f a b => exact One.ret _
  case slc sz x lo hi =>
    show One fun V => outV _ F L ρ V
    simp only [outV]
    cases e : ev ρ x <;> try exact One.no
    rename_i u; cases u <;> try exact One.no
    rename_i a n c
    simp only []
    cases optI ρ 0 lo <;> cases optI ρ n hi <;> first | exact One.no | exact One.slc fun _ _ => One.ret _
  case slcS x lo hi =>
    show One fun V => outV _ F L ρ V
    simp only [outV]
    cases e : ev ρ x <;> try exact One.no
    rename_i u; cases u <;> try exact One.no
    rename_i s
    simp only []
    cases optI ρ 0 lo <;> cases optI ρ s.size hi <;> first | exact One.no | exact One.slc fun _ _ => One.ret _
  case fieldA off x =>
    show One fun V => outV _ F L ρ V
    simp only [outV]
    cases e : ev ρ x with
    | own k off => exact One.ret _
    | el a j => exact One.ret _
    | v u =>
      cases u <;> try exact One.no
      rename_i p; cases p <;> first | exact One.no | exact One.ret _
  case fieldV ag off n x =>
    show One fun V => outV _ F L ρ V
    simp only [outV]
    cases e : ev ρ x <;> try exact One.no
    rename_i u; cases u <;> try exact One.no
    rename_i cs
    simp only []
    cases len? ((cs.toList.drop off).take n) n <;> first | exact One.no | exact One.ret _
  case idxA sz x i =>
    show One fun V => outV _ F L ρ V
    simp only [outV]
    cases e : ev ρ x with
    | own k off => exact One.no
    | el a j => exact One.no
    | v u =>
      cases e2 : ev ρ i with
      | own k off => cases u <;> exact One.no
      | el a j => cases u <;> exact One.no
      | v u' => cases u <;> cases u' <;> first | exact One.no | exact One.idx (One.ret _)
  case idxS x i =>
    show One fun V => outV _ F L ρ V
    simp only [outV]
    cases e : ev ρ x with
    | own k off => exact One.no
    | el a j => exact One.no
    | v u =>
      cases e2 : ev ρ i with
      | own k off => cases u <;> exact One.no
      | el a j => cases u <;> exact One.no
      | v u' => cases u <;> cases u' <;> first | exact One.no | exact One.inb (One.ret _)
  case extr x i =>
    show One fun V => outV _ F L ρ V
    simp only [outV]
    cases e : ev ρ x <;> try exact One.no
    rename_i u; cases u <;> try exact One.no
    rename_i vs
    simp only []
    cases vs.toList[i]? <;> first | exact One.no | exact One.ret _
  case len x =>
    show One fun V => outV _ F L ρ V
    simp only [outV]
    cases e : ev ρ x <;> try exact One.no
    rename_i u; cases u <;> first | exact One.no | exact One.ret _
  case lenS x =>
    show One fun V => outV _ F L ρ V
    simp only [outV]
    cases e : ev ρ x <;> try exact One.no
    rename_i u; cases u <;> first | exact One.no | exact One.ret _
  case capa x =>
    show One fun V => outV _ F L ρ V
    simp only [outV]
    cases e : ev ρ x <;> try exact One.no
    rename_i u; cases u <;> first | exact One.no | exact One.ret _
  case mm mx l =>
    show One fun V => outV _ F L ρ V
    simp only [outV]
    cases e : l.map (ev ρ) with
    | nil => exact One.no
    | cons u r =>
      cases u <;> try exact One.no
      rename_i u; cases u <;> try exact One.no
      rename_i k a0
      simp only []
      cases mmI mx a0 r <;> first | exact One.no | exact One.ret _

end
theorem undraw {P : Program} {s s' : SOp} {d : Option Nat} {F : Frz} {L : Loc} {ρ : Env} {K : Kont} (h : drawn s = some s') (hok : (simpleD s' || callD? s' || allocD? s' || appD? s' || storeD? s') = true) (hK : evalOp P s' d F L ρ K) : evalOp P s d F L ρ (fun F' L' ρ' => Real F' L' → K F' L' ρ') := by
  have load : ∀ {a : Option Addr} {j n : Nat} {KK KK' : List Value → Prop}, LoadDPt F a j n KK → (∀ cs, KK cs → KK' cs) → LoadPt F L a j n KK' := by
    rintro a j n KK KK' ⟨cs, h1, h2, h3⟩ h4
    exact ⟨cs, h1, by rcases h2 with h2 | h2; exact .inl h2; exact .inr (.inr h2), h4 _ h3⟩
  have call : ∀ {f : Nat} {args : List Value} {KK KK' : Frz → Loc → Value → Prop}, CallDPt P f args F L d KK → (∀ F' L' v, (Real F' L' → KK F' L' v) → KK' F' L' v) → CallPt P f args F L KK' := by
    intro f args KK KK' h h3
    cases h with
    | frz R h1 h2 =>
      refine ⟨[], [], [], R, rfl, List.nodup_nil, List.nodup_nil, fun _ h => (by cases h), h1, fun v F' Lo hle hR => ?_⟩
      obtain ⟨rfl, h4⟩ := h2 v F' Lo hle hR
      exact ⟨rfl, fun _ _ _ _ h => (by cases h), h3 _ _ _ h4⟩
    | own R k h1 hd hk h2 =>
      refine ⟨[], [k], [], R, rfl, List.nodup_nil, by simp, fun j hj => .inr (by simp at hj; rw [hj]; exact hk), h1, fun v F' Lo hle hR => ?_⟩
      obtain ⟨o, rfl, h4⟩ := h2 v F' Lo hle hR
      exact ⟨rfl, fun _ _ _ _ h => (by cases h), h3 _ _ _ h4⟩
  have app : ∀ {e sz b : Nat} {sv xv : Value} {KK KK' : Loc → Value → Prop}, AppDPt F L d e sz b sv xv KK → (∀ L' v, (Real F L' → KK L' v) → KK' L' v) → AppPt F L e sz b sv xv KK' := by
    rintro e sz b sv xv KK KK' ⟨kd, n, xs, m, news, h1, ⟨ad, c, h2, h3, h4⟩, h5, h6, h7, h8⟩ hk
    refine ⟨kd, n, xs, m, news, ?_, ⟨ad, c, h2, h3, ?_⟩, h5, h6, h7, fun v hv => hk _ _ (h8 v hv)⟩
    · rcases h1 with h1 | ⟨_, h1⟩
      · exact .inl h1
      · exact .inr (.inl h1)
    · rcases h4 with h4 | h4
      · exact .inl h4
      · exact .inr (.inl h4)
  by_cases hs : simpleD s' = true
  · have hsim := hs
    have h1 : ∀ V V' : SV → Prop, (∀ v, V v → V' v) → outV s' F L ρ V → outV s F L ρ V' := by
      intro V V' hV hT
      have hT := (outV_one hsim).mono V V' hV hT
      cases s <;> simp only [drawn, Option.some.injEq, reduceCtorEq] at h <;> subst h <;> first
        | exact hT
        | (simp only [outV] at hT ⊢
           split at hT
           · exact hT
           · exact load hT fun _ h => h
           · exact load hT fun _ h => h
           · exact hT)
        | (exfalso; revert hs; simp [simpleD]; done)
    rw [evalOp_simple hsim] at hK
    have h2 := h1 _ (fun v => Real F L → K F L (put d v ρ)) (fun v hv _ => hv) hK
    cases s <;> simp only [drawn, Option.some.injEq, reduceCtorEq] at h <;> subst h <;> first
      | exact h2
      | (exfalso; revert hs; simp [simpleD]; done)
  · by_cases hst : storeD? s' = true
    · cases s <;> simp only [drawn, Option.some.injEq, reduceCtorEq] at h <;> subst h <;> first | (cases hst; done) | skip
      rename_i n a x
      have hK' : (match len? (vcells (val L ρ x)) n, ones? (vcells (val L ρ x)), ev ρ a with
        | true, true, .own k off => match L.get k with
          | some (.box g t cs) => match len? ((cs.drop off).take n) n with
            | true => K F (L.set k (.box g t (splice cs off (vcells (val L ρ x))))) (put d (.v undef) ρ)
            | false => False
          | _ => False
        | _, _, _ => False) := hK
      clear hK
      split at hK'
      case h_2 => exact hK'.elim
      rename_i e1 e2 e3
      split at hK'
      case h_2 => exact hK'.elim
      rename_i e4
      split at hK'
      case h_2 => exact hK'.elim
      rename_i e5
      simp only [evalOp, e1, e2, e3, e4, e5]
      exact fun _ => hK'
    cases s <;> simp only [drawn, Option.some.injEq, reduceCtorEq] at h <;> subst h <;> first
      | (exfalso; revert hs hok hst; simp [simpleD, callD?, allocD?, appD?, storeD?]; done)
      | (simp only [evalOp] at hK ⊢; exact call hK fun _ _ _ h => h)
      | (simp only [evalOp] at hK ⊢
         split at hK
         · exact call hK fun _ _ _ h => h
         · exact hK)
      | (simp only [evalOp] at hK ⊢
         split at hK
         · exact app hK fun _ _ h => h
         · exact hK)
      | (simp only [evalOp] at hK ⊢
         split at hK
         · split at hK
           · exact hK
           · exact hK
         · exact hK)
      | (simp only [evalOp] at hK ⊢
         split at hK
         · exact fun g F' hle hg hr => hK g F' hle hg hr
         · exact hK)

section
variable {P : Program} {F : Frz} {L : Loc} {ρ : Env} {K : Kont}
/-- operands look the same in two states -/
def Alike (o : SOp) (L L' : Loc) (ρ ρ' : Env) : Prop := ∀ x ∈ xsOf o, ev ρ' x = ev ρ x ∧ ∀ k off, ev ρ x = .own k off → L'.get k = L.get k

theorem Alike.val {o : SOp} {L L' : Loc} {ρ ρ' : Env} (h : Alike o L L' ρ ρ') {x : X} (hx : x ∈ xsOf o) : Fr.val L' ρ' x = Fr.val L ρ x := by
  obtain ⟨h1, h2⟩ := h x hx
  simp only [Fr.val, h1]
  cases e : ev ρ x with
  | v u => rfl
  | el a j => rfl
  | own k off => simp only [conc, h2 k off e]
theorem evals_alike {L L' : Loc} {ρ ρ' : Env} : ∀ {xs : List X}, (∀ x ∈ xs, Fr.val L' ρ' x = Fr.val L ρ x) → evals L' ρ' xs = evals L ρ xs
  | [], _ => rfl
  | x :: xs, h => by simp only [evals, h x (by simp), evals_alike (xs := xs) (fun y hy => h y (List.mem_cons_of_mem _ hy))]
theorem cellsOf_alike {L L' : Loc} {ρ ρ' : Env} : ∀ {xs : List X}, (∀ x ∈ xs, Fr.val L' ρ' x = Fr.val L ρ x) → cellsOf L' ρ' xs = cellsOf L ρ xs
  | [], _ => rfl
  | x :: xs, h => by simp only [cellsOf, h x (by simp), cellsOf_alike (xs := xs) (fun y hy => h y (List.mem_cons_of_mem _ hy))]
theorem parts_alike {L L' : Loc} {ρ ρ' : Env} {sz : Nat} : ∀ {xs : List X}, (∀ x ∈ xs, Fr.val L' ρ' x = Fr.val L ρ x) → parts? L' ρ' sz xs = parts? L ρ sz xs
  | [], _ => rfl
  | x :: xs, h => by simp only [parts?, h x (by simp), parts_alike (xs := xs) (fun y hy => h y (List.mem_cons_of_mem _ hy))]
theorem built_alike {L L' : Loc} {ρ ρ' : Env} : ∀ {ps : List (Nat × Nat × X)} {zs : List Value}, (∀ p ∈ ps, Fr.val L' ρ' p.2.2 = Fr.val L ρ p.2.2) → built L' ρ' zs ps = built L ρ zs ps
  | [], zs, _ => rfl
  | (off, n, x) :: ps, zs, h => by
    have h1 := h (off, n, x) (by simp)
    simp only at h1
    simp only [built, h1]
    split
    · exact built_alike (fun p hp => h p (by simp [hp]))
    · rfl
theorem LoadDPt.up {F F' : Frz} (hF : F.le F') {a : Option Addr} {j n : Nat} {K : List Value → Prop} (h : LoadDPt F a j n K) : LoadDPt F' a j n K := by
  obtain ⟨cs, h1, h2, h3⟩ := h
  exact ⟨cs, h1, by rcases h2 with h2 | h2; exact .inl (h2.mono hF); exact .inr h2, h3⟩
theorem optI_alike {ρ ρ' : Env} {d : Int} {x : Option X} (h : ∀ y ∈ x.toList, ev ρ' y = ev ρ y) : optI ρ' d x = optI ρ d x := by
  cases x with
  | none => rfl
  | some y => simp only [optI, h y (by simp)]

theorem outV_up {o : SOp} (hsim : simpleD o = true) {F F' : Frz} {L L' : Loc} {ρ ρ' : Env} (hF : F.le F') (H : Alike o L L' ρ ρ') {V : SV → Prop} (h : outV o F L ρ V) : outV o F' L' ρ' V := by
  cases o <;> first | (cases hsim; done) | skip
  case build zs ps =>
    have e := built_alike (ps := ps) (zs := zs) (L := L) (L' := L') (ρ := ρ) (ρ' := ρ') (fun p hp => H.val (List.mem_map.2 ⟨p, hp, rfl⟩))
    simp only [outV, e] at h ⊢
    exact h
  case mkfn f a b =>
    have e1 := evals_alike (xs := a) (L := L) (L' := L') (ρ := ρ) (ρ' := ρ') (fun x hx => H.val (List.mem_append.2 (.inl hx)))
    have e2 := evals_alike (xs := b) (L := L) (L' := L') (ρ := ρ) (ρ' := ρ') (fun x hx => H.val (List.mem_append.2 (.inr hx)))
    simp only [outV, e1, e2] at h ⊢
    exact h
  case mm mx l =>
    have e : l.map (ev ρ') = l.map (ev ρ) := List.map_congr_left fun x hx => (H x hx).1
    simp only [outV, e] at h ⊢
    exact h
  case slc sz x lo hi =>
    have e := (H x (by simp [xsOf])).1
    have e1 : ∀ d, optI ρ' d lo = optI ρ d lo := fun d => optI_alike fun y hy => (H y (by simp only [xsOf]; exact List.mem_cons_of_mem _ (List.mem_append.2 (.inl hy)))).1
    have e2 : ∀ d, optI ρ' d hi = optI ρ d hi := fun d => optI_alike fun y hy => (H y (by simp only [xsOf]; exact List.mem_cons_of_mem _ (List.mem_append.2 (.inr hy)))).1
    simp only [outV, e, e1, e2] at h ⊢
    exact h
  case slcS x lo hi =>
    have e := (H x (by simp [xsOf])).1
    have e1 : ∀ d, optI ρ' d lo = optI ρ d lo := fun d => optI_alike fun y hy => (H y (by simp only [xsOf]; exact List.mem_cons_of_mem _ (List.mem_append.2 (.inl hy)))).1
    have e2 : ∀ d, optI ρ' d hi = optI ρ d hi := fun d => optI_alike fun y hy => (H y (by simp only [xsOf]; exact List.mem_cons_of_mem _ (List.mem_append.2 (.inr hy)))).1
    simp only [outV, e, e1, e2] at h ⊢
    exact h
  case loadD ag n x =>
    obtain ⟨e, e1⟩ := H x (by simp [xsOf])
    simp only [outV, e] at h ⊢
    split at h
    · rename_i k off hx
      simp only [e1 k off hx]
      exact h
    · exact h.up hF
    · exact h.up hF
    · exact h
  case pick c a b =>
    have e1 := (H c (by simp [xsOf])).1
    have e2 := (H a (by simp [xsOf])).1
    have e3 := (H b (by simp [xsOf])).1
    simp only [outV, e1, e2, e3] at h ⊢
    exact h
  all_goals first
    | (have e1 := (H _ (List.mem_cons_self ..)).1
       simp only [outV, e1] at h ⊢
       exact h)
    | (have e1 := (H _ (List.mem_cons_self ..)).1
       have e2 := (H _ (List.mem_cons_of_mem _ (List.mem_cons_self ..))).1
       simp only [outV, e1, e2] at h ⊢
       exact h)

/-- an own pointer that comes out is one that went in -/
theorem outV_own {o : SOp} (h : simpleD o = true) {k off : Nat} (hT : outV o F L ρ (fun u => u = .own k off)) : ∃ x ∈ xsOf o, ∃ off', ev ρ x = .own k off' := by
  cases o <;> first | (cases h; done) | skip
  case mov x => exact ⟨x, by simp [xsOf], off, hT⟩
  case pick c a b =>
    simp only [outV] at hT
    split at hT
    · exact ⟨a, by simp [xsOf], off, hT⟩
    · exact ⟨b, by simp [xsOf], off, hT⟩
    · exact hT.elim
  case nilck x =>
    simp only [outV] at hT
    split at hT
    · rename_i k' off' e
      injection hT with h1 h2
      subst h1
      exact ⟨x, by simp [xsOf], off', e⟩
    · cases hT.2
    · cases hT
    · cases hT
    · exact hT.elim
  case fieldA o' x =>
    simp only [outV] at hT
    split at hT
    · rename_i k' off' e
      injection hT with h1 h2
      subst h1
      exact ⟨x, by simp [xsOf], off', e⟩
    · cases hT
    · cases hT
    · exact hT.elim
  case bin op x y =>
    simp only [outV] at hT
    split at hT
    · split at hT
      · cases op <;> simp only [shI] at hT <;> first | exact hT.elim | (obtain ⟨_, ⟨hT⟩⟩ := hT; cases hT; done) | (obtain ⟨_, hT⟩ := hT; cases hT; done)
      · split at hT
        · cases op <;> simp only [binI] at hT <;> first | exact hT.elim | (cases hT; done) | (obtain ⟨hT⟩ := hT; cases hT; done) | (obtain ⟨_, ⟨hT⟩⟩ := hT; cases hT; done) | (obtain ⟨_, hT⟩ := hT; cases hT; done)
        · exact hT.elim
    · cases op <;> simp only [binS] at hT <;> first | exact hT.elim | (cases hT; done) | (obtain ⟨_, hT⟩ := hT; cases hT; done)
    · exact hT.elim
  case loadD ag n x =>
    simp only [outV] at hT
    split at hT
    · split at hT
      · split at hT
        · cases hT
        · exact hT.elim
      · exact hT.elim
    · obtain ⟨cs, _, _, hT⟩ := hT; cases hT
    · obtain ⟨cs, _, _, hT⟩ := hT; cases hT
    · exact hT.elim
  all_goals
    simp only [outV] at hT
    repeat' split at hT
  all_goals first
    | exact hT.elim
    | (cases hT; done)
    | (obtain ⟨hT⟩ := hT; cases hT; done)
    | (obtain ⟨_, _, hT⟩ := hT; cases hT; done)
    | (obtain ⟨_, _, _, hT⟩ := hT; cases hT; done)
end

theorem undrawO {P : Program} {s s' : SOp} {d : Option Nat} {F : Frz} {L : Loc} {ρ : Env} {K : Kont} (h : drawnO s = some s') (hK : evalOp P s' d F L ρ K) : evalOp P s d F L ρ (fun F' L' ρ' => Real F' L' → K F' L' ρ') := by
  cases s <;> simp only [drawnO, Option.some.injEq, reduceCtorEq] at h <;> subst h
  · simp only [evalOp] at hK ⊢; exact hK
  · simp only [evalOp] at hK ⊢
    split at hK
    · exact hK
    · exact hK.elim
  · simp only [evalOp] at hK ⊢
    split at hK
    · exact hK
    · exact hK.elim
end Go.Fr
