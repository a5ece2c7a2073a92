/- Each simplified operation says of the model's operation what it does: numbers, comparisons, conversions, addresses, cuts. -/
import Derived.Test.YtgapnemcomkomaaFrOps2
set_option linter.unusedVariables false
set_option linter.unusedSimpArgs false
namespace Go.Fr
open Go Go.RowKit

section
variable {P : Program} {F : Frz} {L : Loc} {ρ : Env} {a : Act} {w : World} {K : Kont} {o : Oper} {Q : Exit → Act → World → Prop}

theorem kindEq_eq {k k' : IntKind} (h : kindEq k k' = true) : k = k' := by cases k <;> cases k' <;> first | rfl | cases h

theorem eqGuard_ok {op : BinOp} {t : TypeId} {x y : Operand} {u v : Value} (h : ∀ c, u ≠ .agg c) (h2 : u ≠ .nilIface) : (eqGuard op t x y u v).run P w = .ok () w := by
  have key : (eqGuard op t x y u v).run P w = .ok () w ∨ True := .inr trivial
  unfold eqGuard
  cases op <;> simp only [Bool.not_true, Bool.not_false, if_true, Bool.false_eq_true, if_false] <;> first
    | rfl
    | (cases u <;> first | rfl | exact absurd rfl (h _) | exact absurd rfl h2)

theorem toList_data (s : ByteArray) : s.toList = s.data.toList := ByteArray.toList_eq s
theorem beq_dec (x y : List UInt8) : (x == y) = decide (x = y) := by rw [Bool.eq_iff_iff]; simp

/-- two integers -/
theorem op_bin {t t' : TypeId} {op : BinOp} {y z : Operand} {y' z' : X} (hs : St F L w) (he : EnvOk L ρ a) (hd : ∀ k, o.dst = some k → k < a.tmps.size)
    (ho : o.op = .binOp op t y z t') (hy : lowX y = some y') (hz : lowX z = some z') (hK : evalOp P (.bin op y' z') o.dst F L ρ K) : o.wp P a w (Next1 F L w a K) Q := by
  have ey := lowX_eval hy he
  have ez := lowX_eval hz he
  have fin : ∀ v, (binOp op t (val L ρ y') (val L ρ z')).run P w = .ok v w → (∀ c, val L ρ y' ≠ .agg c) → val L ρ y' ≠ .nilIface → K F L (put o.dst (.v v) ρ) → o.wp P a w (Next1 F L w a K) Q := by
    intro v hr h1 h2 hK
    refine wp_val hs he hd (v := v) (x := .v v) ?_ rfl noOwn noEl hK
    simp only [execOp, ho, ey, ez, Sem.run_bind, eqGuard_ok h1 h2, Result.andThen_ok, hr, Sem.run_pure]
  simp only [evalOp, outV] at hK
  split at hK
  · rename_i k n k' m hy1 hz1
    have vy := val_v (L := L) hy1
    have vz := val_v (L := L) hz1
    split at hK
    · rename_i hsh
      have hop : op = .shl ∨ op = .shr := by cases op <;> simp_all [isSh]
      have h1 : (binOp op t (.int k n) (.int k' m)).run P w = (Op.shift op k n k' m).run P w := by rcases hop with rfl | rfl <;> rfl
      rcases hop with rfl | rfl
      · obtain ⟨hm, ⟨hK⟩⟩ := hK
        refine fin _ ?_ (by rw [vy]; simp) (by rw [vy]; simp) hK
        rw [vy, vz, h1]
        simp [Op.shift, show ¬ m < 0 by omega]
      · obtain ⟨hm, hK⟩ := hK
        refine fin _ ?_ (by rw [vy]; simp) (by rw [vy]; simp) hK
        rw [vy, vz, h1]
        simp [Op.shift, show ¬ m < 0 by omega]
    · rename_i hsh
      split at hK
      case h_2 => exact hK.elim
      rename_i hk
      have hk := kindEq_eq hk
      subst hk
      cases op <;> simp only [binI] at hK <;> first | (cases hsh; done) | skip
      · obtain ⟨hK⟩ := hK
        exact fin _ (by rw [vy, vz]; simp [binOp, Op.intArith]) (by rw [vy]; simp) (by rw [vy]; simp) hK
      · obtain ⟨hK⟩ := hK
        exact fin _ (by rw [vy, vz]; simp [binOp, Op.intArith]) (by rw [vy]; simp) (by rw [vy]; simp) hK
      · obtain ⟨hK⟩ := hK
        exact fin _ (by rw [vy, vz]; simp [binOp, Op.intArith]) (by rw [vy]; simp) (by rw [vy]; simp) hK
      · obtain ⟨hne, ⟨hK⟩⟩ := hK
        exact fin _ (by rw [vy, vz]; simp [binOp, Op.intDiv, hne]) (by rw [vy]; simp) (by rw [vy]; simp) hK
      · obtain ⟨hne, hK⟩ := hK
        exact fin _ (by rw [vy, vz]; simp [binOp, Op.intDiv, hne]) (by rw [vy]; simp) (by rw [vy]; simp) hK
      · exact fin _ (by rw [vy, vz]; simp [binOp, Op.intBits]) (by rw [vy]; simp) (by rw [vy]; simp) hK
      · exact fin _ (by rw [vy, vz]; simp [binOp, Op.intBits]) (by rw [vy]; simp) (by rw [vy]; simp) hK
      · exact fin _ (by rw [vy, vz]; simp [binOp, Op.intBits]) (by rw [vy]; simp) (by rw [vy]; simp) hK
      · exact fin _ (by rw [vy, vz]; simp [binOp, Op.intBits]) (by rw [vy]; simp) (by rw [vy]; simp) hK
      · exact fin _ (by rw [vy, vz]; simp [binOp, Op.intCmp]; rfl) (by rw [vy]; simp) (by rw [vy]; simp) hK
      · exact fin _ (by rw [vy, vz]; simp [binOp, Op.intCmp, bne]; rfl) (by rw [vy]; simp) (by rw [vy]; simp) hK
      · exact fin _ (by rw [vy, vz]; simp [binOp, Op.intCmp]) (by rw [vy]; simp) (by rw [vy]; simp) hK
      · exact fin _ (by rw [vy, vz]; simp [binOp, Op.intCmp]) (by rw [vy]; simp) (by rw [vy]; simp) hK
      · exact fin _ (by rw [vy, vz]; simp [binOp, Op.intCmp]) (by rw [vy]; simp) (by rw [vy]; simp) hK
      · exact fin _ (by rw [vy, vz]; simp [binOp, Op.intCmp]) (by rw [vy]; simp) (by rw [vy]; simp) hK
  · rename_i s u hy1 hz1
    have vy := val_v (L := L) hy1
    have vz := val_v (L := L) hz1
    cases op <;> simp only [binS] at hK <;> first | exact hK.elim | skip
    · obtain ⟨hle, hK⟩ := hK
      refine fin _ ?_ (by rw [vy]; simp) (by rw [vy]; simp) hK
      rw [vy, vz]
      have : ¬ (((s.size + u.size : Nat) : Int) > IntKind.i64.max) := by omega
      simp only [binOp, Op.stringOp, if_neg this]
      rfl
    · exact fin _ (by rw [vy, vz]; simp only [binOp, Op.stringOp, toList_data, beq_dec]; rfl) (by rw [vy]; simp) (by rw [vy]; simp) hK
    · exact fin _ (by rw [vy, vz]; simp only [binOp, Op.stringOp, toList_data, beq_dec]; rfl) (by rw [vy]; simp) (by rw [vy]; simp) hK
    · exact fin _ (by rw [vy, vz]; simp only [binOp, Op.stringOp, toList_data, beq_dec]; rfl) (by rw [vy]; simp) (by rw [vy]; simp) hK
    · exact fin _ (by rw [vy, vz]; simp only [binOp, Op.stringOp, toList_data, beq_dec]; rfl) (by rw [vy]; simp) (by rw [vy]; simp) hK
  · exact hK.elim

theorem op_eqB {t t' : TypeId} {neg : Bool} {y z : Operand} {y' z' : X} (hs : St F L w) (he : EnvOk L ρ a) (hd : ∀ k, o.dst = some k → k < a.tmps.size)
    (ho : o.op = .binOp (if neg then .neq else .eql) t y z t') (ht : P.underlying t = some .bool) (hy : lowX y = some y') (hz : lowX z = some z') (hK : evalOp P (.eqB neg y' z') o.dst F L ρ K) : o.wp P a w (Next1 F L w a K) Q := by
  have ey := lowX_eval hy he
  have ez := lowX_eval hz he
  simp only [evalOp, outV] at hK
  split at hK
  case h_2 => exact hK.elim
  rename_i b c hy1 hz1
  have vy := val_v (L := L) hy1
  have vz := val_v (L := L) hz1
  refine wp_val hs he hd (v := .bool (ngb neg (decide (b = c)))) (x := .v (.bool (ngb neg (decide (b = c))))) ?_ rfl noOwn noEl hK
  have hg : ∀ op : BinOp, (eqGuard op t y z (.bool b) (.bool c)).run P w = .ok () w := fun op => eqGuard_ok (by simp) (by simp)
  have hb : (b == c) = decide (b = c) := by cases b <;> cases c <;> rfl
  cases neg
  · simp only [execOp, ho, ey, ez, vy, vz, Sem.run_bind, hg, Result.andThen_ok]
    have := run_eql_bool (P := P) w t b c ht
    rw [hb] at this
    simp [this, ngb]
  · simp only [execOp, ho, ey, ez, vy, vz, Sem.run_bind, hg, Result.andThen_ok]
    have := run_neq_bool (P := P) w t b c ht
    rw [hb] at this
    simp [this, ngb]

theorem eqv_pp {t e : TypeId} (h : P.underlying t = some (.pointer e)) (p : Option Addr) : (Op.equal t (.pointer p) (.pointer none)).run P w = .ok p.isNone w := by
  have key : ∀ d : Nat, (Op.equalIn (d + 1) t (.pointer p) (.pointer none)).run P w = .ok p.isNone w := fun d => by
    cases p <;> simp [Op.equalIn, run_underlying h]
  exact key 9999
theorem eqv_ss {t e : TypeId} (h : P.underlying t = some (.slice e)) (p : Option Addr) (n c n' c' : Nat) : (Op.equal t (.slice p n c) (.slice none n' c')).run P w = .ok p.isNone w := by
  have key : ∀ d : Nat, (Op.equalIn (d + 1) t (.slice p n c) (.slice none n' c')).run P w = .ok p.isNone w := fun d => by
    cases p <;> simp [Op.equalIn, run_underlying h]
  exact key 9999
theorem eqv_nn {t : TypeId} {ps qs : Array TypeId} {v : Bool} (h : P.underlying t = some (.func ps qs v)) : (Op.equal t .nilFunc .nilFunc).run P w = .ok true w := by
  have key : ∀ d : Nat, (Op.equalIn (d + 1) t .nilFunc .nilFunc).run P w = .ok true w := fun d => by
    simp [Op.equalIn, run_underlying h]
  exact key 9999
theorem eqv_fn {t : TypeId} {ps qs : Array TypeId} {v : Bool} {f : Fn} {x y : Array Value} (h : P.underlying t = some (.func ps qs v)) : (Op.equal t (.func f x y) .nilFunc).run P w = .ok false w := by
  have key : ∀ d : Nat, (Op.equalIn (d + 1) t (.func f x y) .nilFunc).run P w = .ok false w := fun d => by
    simp [Op.equalIn, run_underlying h]
  exact key 9999

theorem op_eqX {t t' : TypeId} {neg : Bool} {y z : Operand} {y' z' : X} (hs : St F L w) (he : EnvOk L ρ a) (hd : ∀ k, o.dst = some k → k < a.tmps.size)
    (ho : o.op = .binOp (if neg then .neq else .eql) t y z t') (hy : lowX y = some y') (hz : lowX z = some z') 
    (u v : Value) (b : Bool) (hu : val L ρ y' = u) (hv : val L ρ z' = v) (h1 : ∀ c, u ≠ .agg c) (h2 : u ≠ .nilIface) (h3 : ∀ k n, u ≠ .int k n) (h4 : ∀ s, u ≠ .string s) (h5 : ∀ k n, u ≠ .float k n) (h6 : ∀ k n m, u ≠ .complex k n m)
    (hr : (Op.equal t u v).run P w = .ok b w) (hK : K F L (put o.dst (.v (.bool (ngb neg b))) ρ)) : o.wp P a w (Next1 F L w a K) Q := by
  have ey := lowX_eval hy he
  have ez := lowX_eval hz he
  refine wp_val hs he hd (v := .bool (ngb neg b)) (x := .v (.bool (ngb neg b))) ?_ rfl noOwn noEl hK
  have hg : ∀ op : BinOp, (eqGuard op t y z u v).run P w = .ok () w := fun op => eqGuard_ok h1 h2
  cases neg
  · simp only [execOp, ho, ey, ez, hu, hv, Sem.run_bind, hg, Result.andThen_ok]
    have : binOp .eql t u v = (do pure (.bool (← Op.equal t u v)) : Sem Value) := by
      cases u <;> first | rfl | exact absurd rfl (h3 _ _) | exact absurd rfl (h4 _) | exact absurd rfl (h5 _ _) | exact absurd rfl (h6 _ _ _)
    simp [this, hr, ngb]
  · simp only [execOp, ho, ey, ez, hu, hv, Sem.run_bind, hg, Result.andThen_ok]
    have : binOp .neq t u v = (do pure (.bool (!(← Op.equal t u v))) : Sem Value) := by
      cases u <;> first | rfl | exact absurd rfl (h3 _ _) | exact absurd rfl (h4 _) | exact absurd rfl (h5 _ _) | exact absurd rfl (h6 _ _ _)
    simp [this, hr, ngb]

theorem op_eqP {t t' e : TypeId} {neg : Bool} {y z : Operand} {y' z' : X} (hs : St F L w) (he : EnvOk L ρ a) (hd : ∀ k, o.dst = some k → k < a.tmps.size)
    (ho : o.op = .binOp (if neg then .neq else .eql) t y z t') (ht : P.underlying t = some (.pointer e)) (hy : lowX y = some y') (hz : lowX z = some z') (hK : evalOp P (.eqP neg y' z') o.dst F L ρ K) : o.wp P a w (Next1 F L w a K) Q := by
  simp only [evalOp, outV] at hK
  split at hK
  · rename_i k off hy1 hz1
    obtain ⟨g, ty, cs, hg⟩ := lowX_own hy he hy1
    exact op_eqX hs he hd ho hy hz (.pointer (some ⟨g, off, none⟩)) (.pointer none) false (by simp only [val, hy1, conc, hg]) (val_v hz1) (by simp) (by simp) (by simp) (by simp) (by simp) (by simp) (eqv_pp ht _) hK
  · rename_i ad j hy1 hz1
    exact op_eqX hs he hd ho hy hz (.pointer (some (ad.add j))) (.pointer none) false (by simp only [val, hy1, conc]) (val_v hz1) (by simp) (by simp) (by simp) (by simp) (by simp) (by simp) (eqv_pp ht _) hK
  · rename_i p hy1 hz1
    exact op_eqX hs he hd ho hy hz (.pointer p) (.pointer none) p.isNone (val_v hy1) (val_v hz1) (by simp) (by simp) (by simp) (by simp) (by simp) (by simp) (eqv_pp ht _) hK
  · exact hK.elim
theorem op_eqS {t t' e : TypeId} {neg : Bool} {y z : Operand} {y' z' : X} (hs : St F L w) (he : EnvOk L ρ a) (hd : ∀ k, o.dst = some k → k < a.tmps.size)
    (ho : o.op = .binOp (if neg then .neq else .eql) t y z t') (ht : P.underlying t = some (.slice e)) (hy : lowX y = some y') (hz : lowX z = some z') (hK : evalOp P (.eqS neg y' z') o.dst F L ρ K) : o.wp P a w (Next1 F L w a K) Q := by
  simp only [evalOp, outV] at hK
  split at hK
  · rename_i p n c n' c' hy1 hz1
    exact op_eqX hs he hd ho hy hz (.slice p n c) (.slice none n' c') p.isNone (val_v hy1) (val_v hz1) (by simp) (by simp) (by simp) (by simp) (by simp) (by simp) (eqv_ss ht _ _ _ _ _) hK
  · exact hK.elim
theorem op_eqF {t t' : TypeId} {ps qs : Array TypeId} {vr neg : Bool} {y z : Operand} {y' z' : X} (hs : St F L w) (he : EnvOk L ρ a) (hd : ∀ k, o.dst = some k → k < a.tmps.size)
    (ho : o.op = .binOp (if neg then .neq else .eql) t y z t') (ht : P.underlying t = some (.func ps qs vr)) (hy : lowX y = some y') (hz : lowX z = some z') (hK : evalOp P (.eqF neg y' z') o.dst F L ρ K) : o.wp P a w (Next1 F L w a K) Q := by
  simp only [evalOp, outV] at hK
  split at hK
  · rename_i hy1 hz1
    exact op_eqX hs he hd ho hy hz .nilFunc .nilFunc true (val_v hy1) (val_v hz1) (by simp) (by simp) (by simp) (by simp) (by simp) (by simp) (eqv_nn ht) hK
  · rename_i f x y hy1 hz1
    exact op_eqX hs he hd ho hy hz (.func f x y) .nilFunc false (val_v hy1) (val_v hz1) (by simp) (by simp) (by simp) (by simp) (by simp) (by simp) (eqv_fn ht) hK
  · exact hK.elim
end
end Go.Fr
