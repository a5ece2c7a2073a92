/- What a walk over data uses. -/
import Derived.Test.YtgapnemcomkomaaTlFn
set_option linter.unusedVariables false
set_option linter.unusedSimpArgs false
namespace Go.Fr.T
open Go Go.RowKit Go.Fr

section
variable {P : Program} {L : TL} {ρ : TEnv}

/-- a contract that names its result -/
def Ret (Lo : List TO) (x : C) : List TO → C → Prop := fun Mo v => Mo = Lo ∧ v = x
/-- nothing handed over, nothing handed back but a value -/
theorem callP {f : Nat} {args args' : List C} {K : TL → TEnv → C → Prop} {x : C} (h : CallsT P f args' [] (Ret [] x)) (ha : (args.map fun c => c.canA.ren (toIn [] 1000)) = args') (k : Wf x → K L ρ (x.ren (fromIn [])).slt) : CallT P f args L ρ K := by
  subst ha
  exact ⟨[], [], [], L, [], _, .inl rfl, rfl, rfl, rfl, rfl, rfl, h, fun v Mo ⟨e1, e2⟩ hw _ => by subst e1 e2; exact ⟨rfl, k hw⟩⟩
theorem callPD {f : Nat} {args args' : List C} {K : TL → C → Prop} {d : Option Nat} {x : C} (h : CallsT P f args' [] (Ret [] x)) (ha : (args.map fun c => c.canA.ren (toIn [] 1000)) = args') (k : Wf x → K L x.slt) : CallDT P f args L d K := by
  subst ha
  exact .frz _ h fun v Mo ⟨e1, e2⟩ hw => by subst e1 e2; exact ⟨rfl, k hw⟩
/-- own blocks handed over and back -/
theorem callO (ks ko : List Nat) {f : Nat} {args args' : List C} {K : TL → TEnv → C → Prop} {x : C} {Lin Lin' Lo : List TO} (h : CallsT P f args' Lin' (Ret Lo x)) (hs : L.sub ks = some Lin)
    (hc : (nodup? ks && nodup? ko && koOk L ks ko && boxesAt Lin ks ko) = true) (ha : (args.map fun c => c.canA.ren (toIn ks 1000)) = args') (hl : Lin.map (TO.mapC (C.ren (toIn ks 1000))) = Lin') (hn : ko.length = Lo.length)
    (k : Wf x → (∀ o ∈ Lo, o.Wf) → K (((L.dels ks).kills ks).puts ko (Lo.map (TO.mapC (C.ren (fromIn ko))))) (killsE ks ρ) (x.ren (fromIn ko)).slt) : CallT P f args L ρ K := by
  subst ha hl
  simp only [Bool.and_eq_true] at hc
  obtain ⟨⟨⟨c1, c2⟩, c3⟩, c4⟩ := hc
  exact ⟨[], ks, ko, L, Lin, _, .inl rfl, hs, c1, c2, c3, c4, h, fun v Mo ⟨e1, e2⟩ hw hwo => by subst e1 e2; exact ⟨hn, k hw hwo⟩⟩
/-- the same, in a region that draws its order -/
theorem callOD (ks ko : List Nat) {f : Nat} {args args' : List C} {K : TL → TEnv → C → Prop} {x : C} {Lin Lin' Lo : List TO} (h : CallsT P f args' Lin' (Ret Lo x)) (hs : L.sub ks = some Lin)
    (hc : (nodup? ks && nodup? ko && koOk L ks ko && boxesAt Lin ks ko) = true) (ha : (args.map fun c => c.canA.ren (toIn ks 1000)) = args') (hl : Lin.map (TO.mapC (C.ren (toIn ks 1000))) = Lin') (hn : ko.length = Lo.length)
    (k : Wf x → (∀ o ∈ Lo, o.Wf) → K (((L.dels ks).kills ks).puts ko (Lo.map (TO.mapC (C.ren (fromIn ko))))) (killsE ks ρ) (x.ren (fromIn ko)).slt) : CallT0 P f args L ρ K := by
  subst ha hl
  simp only [Bool.and_eq_true] at hc
  obtain ⟨⟨⟨c1, c2⟩, c3⟩, c4⟩ := hc
  exact ⟨ks, ko, Lin, _, hs, c1, c2, c3, c4, h, fun v Mo ⟨e1, e2⟩ hw hwo => by subst e1 e2; exact ⟨hn, k hw hwo⟩⟩
/-- the same, where rows are had for nothing -/
theorem callG (L1 : TL) (ks ko : List Nat) {f : Nat} {args args' : List C} {K : TL → TEnv → C → Prop} {x : C} {Lin Lin' Lo : List TO} (h : CallsT P f args' Lin' (Ret Lo x)) (hg : gives L L1 L1) (hs : L1.sub ks = some Lin)
    (hc : (covers L L1 && nodup? ks && nodup? ko && koOk L1 ks ko && boxesAt Lin ks ko) = true) (ha : (args.map fun c => c.canA.ren (toIn ks 1000)) = args') (hl : Lin.map (TO.mapC (C.ren (toIn ks 1000))) = Lin') (hn : ko.length = Lo.length)
    (k : Wf x → (∀ o ∈ Lo, o.Wf) → K (((L1.dels ks).kills ks).puts ko (Lo.map (TO.mapC (C.ren (fromIn ko))))) (killsE ks ρ) (x.ren (fromIn ko)).slt) : CallT P f args L ρ K := by
  subst ha hl
  simp only [Bool.and_eq_true] at hc
  obtain ⟨⟨⟨⟨c0, c1⟩, c2⟩, c3⟩, c4⟩ := hc
  exact ⟨[], ks, ko, L1, Lin, _, .inr ⟨hg, c0⟩, hs, c1, c2, c3, c4, h, fun v Mo ⟨e1, e2⟩ hw hwo => by subst e1 e2; exact ⟨hn, k hw hwo⟩⟩
/-- the same, where rows are given up -/
theorem callF (fz ks ko : List Nat) {f : Nat} {args args' : List C} {K : TL → TEnv → C → Prop} {x : C} {Lo Lin' : List TO} (h : CallsT P f args' Lin' (Ret Lo x))
    (hf : frzK fz L ρ args fun L ρ args => ∃ Lin, L.sub ks = some Lin ∧ (nodup? ks && nodup? ko && koOk L ks ko && boxesAt Lin ks ko) = true ∧ (args.map fun c => c.canA.ren (toIn ks 1000)) = args' ∧ Lin.map (TO.mapC (C.ren (toIn ks 1000))) = Lin' ∧ ko.length = Lo.length ∧
      (Wf x → (∀ o ∈ Lo, o.Wf) → K (((L.dels ks).kills ks).puts ko (Lo.map (TO.mapC (C.ren (fromIn ko))))) (killsE ks ρ) (x.ren (fromIn ko)).slt)) : CallT P f args L ρ K := by
  refine ⟨fz, ks, ko, ?_⟩
  refine frzK_imp hf ?_
  rintro L ρ args ⟨Lin, hs, hc, rfl, rfl, hn, k⟩
  simp only [Bool.and_eq_true] at hc
  obtain ⟨⟨⟨c1, c2⟩, c3⟩, c4⟩ := hc
  exact ⟨L, Lin, _, .inl rfl, hs, c1, c2, c3, c4, h, fun v Mo ⟨e1, e2⟩ hw hwo => by subst e1 e2; exact ⟨hn, k hw hwo⟩⟩
where
  frzK_imp : ∀ {fz : List Nat} {L : TL} {ρ : TEnv} {args : List C} {K K' : TL → TEnv → List C → Prop}, frzK fz L ρ args K → (∀ L ρ args, K L ρ args → K' L ρ args) → frzK fz L ρ args K'
    | [], L, ρ, args, K, K', h, hk => hk _ _ _ h
    | k :: fz, L, ρ, args, K, K', h, hk => by
      simp only [frzK] at h ⊢
      generalize L.get k = z at h ⊢
      split at h
      · exact frzK_imp h hk
      · exact h.elim
/-- a value alone is handed back -/
theorem retP {Lin : List TO} {v x : C} (hb : boxesAt Lin (List.range' 1000 Lin.length) [] = true) (e : v.canR.ren (toIn [] 1000) = x) : RetT Lin L v (Ret [] x) :=
  ⟨[], [], L, v, v, [], rfl, .inl ⟨rfl, rfl⟩, rfl, rfl, hb, fun _ => ⟨rfl, e⟩⟩
theorem retO (ko : List Nat) {Lin Mo Lo : List TO} {v x : C} (hs : L.sub ko = some Mo) (hc : (nodup? ko && boxesAt Lin (List.range' 1000 Lin.length) ko) = true) (hl : Mo.map (TO.mapC (C.ren (toIn ko 1000))) = Lo) (e : v.canR.ren (toIn ko 1000) = x) : RetT Lin L v (Ret Lo x) := by
  simp only [Bool.and_eq_true] at hc
  exact ⟨[], ko, L, v, v, Mo, rfl, .inl ⟨rfl, rfl⟩, hs, hc.1, hc.2, fun _ => ⟨hl, e⟩⟩
/-- nil is handed back as an empty row -/
theorem retN (k t sz : Nat) {Lin : List TO} (hn : L = []) (hb : boxesAt Lin (List.range' 1000 Lin.length) [k] = true) : RetT Lin L .nils (Ret [.row t sz []] (.rw 1000)) := by
  subst hn
  have hk : Nat.beq k k = true := by simp
  refine ⟨[], [k], [(k, .row t sz [])], .nils, .rw k, [.row t sz []], rfl, .inr ⟨⟨.inr ⟨rfl, t, sz, rfl⟩, trivial⟩, .inr (.inr (.inr (.inl ⟨rfl, k, t, sz, rfl, rfl, ?_⟩)))⟩, ?_, rfl, hb, fun _ => ⟨rfl, ?_⟩⟩
  · simp only [TL.get, hk]
  · simp only [TL.sub, TL.get, hk]
  · simp only [C.canR, C.ren, C.mp, renLeaf, toIn, hk]
/-- rows are given up on the way back -/
theorem retF (fz ko : List Nat) {Lin Lo : List TO} {v x : C} (hf : frzK fz L (fun _ => .any) [v] fun L _ vs => ∃ c Mo, vs = [c] ∧ L.sub ko = some Mo ∧ (nodup? ko && boxesAt Lin (List.range' 1000 Lin.length) ko) = true ∧ Mo.map (TO.mapC (C.ren (toIn ko 1000))) = Lo ∧ c.canR.ren (toIn ko 1000) = x) : RetT Lin L v (Ret Lo x) := by
  refine ⟨fz, ko, ?_⟩
  refine callF.frzK_imp hf ?_
  rintro L ρ vs ⟨c, Mo, rfl, hs, hc, hl, e⟩
  simp only [Bool.and_eq_true] at hc
  exact ⟨L, c, c, Mo, rfl, .inl ⟨rfl, rfl⟩, hs, hc.1, hc.2, fun _ => ⟨hl, e⟩⟩

/-- a loop that counts up to a bound: slot ki the counter, the others as the state says -/
theorem loopN {β : Type} {body : TL → TEnv → TK → Prop} {asg : List Nat} (n : Nat) (ki : Nat) (ls : List Nat) (s0 : β) (lv : β → List C) (Lf : β → TL) (Inv : Nat → β → Prop) (h0 : Inv 0 s0) (hk : leC L (Lf s0) (ρ ki) (.int .i64 0)) (hh : holdsT L (Lf s0) ls (lv s0) ρ)
    (hg : gives L (Lf s0) (Lf s0)) (hb : ∀ s, keepsT L (Lf s) = true) (hl : ∀ s, (lv s).length = ls.length)
    (h : ∀ (k : Nat) s, k ≤ n → Inv k s → WfS (lv s) → (∀ j o, (Lf s).get j = some o → o.Wf) → (k : Int) ≤ 9223372036854775807 → body (Lf s) (putsT (ki :: ls) (.int .i64 k :: lv s) (headE asg ρ)) fun L' ρ' =>
      ∃ x' : Nat × β, (x'.1 ≤ n ∧ Inv x'.1 x'.2) ∧ holdsT L' (Lf x'.2) (ki :: ls) (.int .i64 x'.1 :: lv x'.2) ρ' ∧ gives L' (Lf x'.2) (Lf x'.2) ∧ n - x'.1 < n - k) : LoopT body asg L ρ := by
  refine ⟨Nat × β, (0, s0), fun x => x.1 ≤ n ∧ Inv x.1 x.2, ki :: ls, fun x => .int .i64 x.1 :: lv x.2, fun x => Lf x.2, fun x => n - x.1, ⟨Nat.zero_le _, h0⟩, ⟨hk, hh⟩, hg, fun x => hb x.2, fun x => by simp [hl], ?_⟩
  rintro ⟨k, s⟩ ⟨hkn, hi⟩ hw hwo
  simp only [WfS, Wf] at hw
  exact h k s hkn hi hw.2 hwo (wf_i64 hw.1).2
theorem nextI {L1 : TL} {k : Nat} : leC L L1 (.int .i64 ((k : Int) + 1)) (.int .i64 ((k + 1 : Nat) : Int)) := .inr (.inl ⟨rfl, rfl⟩)
theorem nextM {n k : Nat} (h : k < n) : n - (k + 1) < n - k := by omega
theorem wf_len {els : List (List C)} (h : Wf (.sl els)) : els.length ≤ 9223372036854775807 := by simp only [Wf, maxLen] at h; omega
theorem wf_lenM {α : Type} {f : α → List C} {l : List α} (h : Wf (.sl (l.map f))) : l.length ≤ 9223372036854775807 := by have := wf_len h; simpa using this
theorem wf_lenB {bs : List UInt8} (h : Wf (.sl (bcells bs))) : bs.length ≤ 9223372036854775807 := wf_lenM h
/-- an element of a slice is read -/
theorem idxT {α : Type} {f : α → List C} {l : List α} {k sz : Nat} {x : α} {es : List C} {K : List C → Prop} (hx : l[k]? = some x) (he : f x = es) (hl : lenC? es sz = true) (h : K es) : IdxT (l.map f) (k : Int) sz K :=
  ⟨es, by omega, by simp [hx, he], hl, h⟩
theorem idxB {bs : List UInt8} {k : Nat} {x : UInt8} {K : List C → Prop} (hx : bs[k]? = some x) (h : K [bcell x]) : IdxT (bcells bs) (k : Int) 1 K :=
  ⟨[bcell x], by omega, by simp [bcells, hx], rfl, h⟩
theorem WfSS_iff : ∀ {l : List (List C)}, WfSS l ↔ ∀ es ∈ l, WfS es
  | [] => by simp [WfSS]
  | es :: l => by simp [WfSS, WfSS_iff]
theorem WfS_iff : ∀ {l : List C}, WfS l ↔ ∀ c ∈ l, Wf c
  | [] => by simp [WfS]
  | c :: l => by simp [WfS, WfS_iff]
/-- a part of a list of numbers goes on -/
theorem same_keys {L1 : TL} {c : C} (h : hasKeysA L1 3 c = true) : leC L L1 c c := .inr (.inl ⟨rfl, h⟩)
theorem drop_cons {α : Type} {l : List α} {k : Nat} (h : k < l.length) : ∃ x, l[k]? = some x ∧ l.drop k = x :: l.drop (k + 1) := ⟨l[k], by simp [h], List.drop_eq_getElem_cons h⟩
theorem drop_end {α : Type} {l : List α} {k : Nat} (h : ¬ k < l.length) : l.drop k = [] := List.drop_eq_nil_iff.2 (by omega)
end
end Go.Fr.T
