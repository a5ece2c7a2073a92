/- Part of the proofs of the statements of this seat. -/
import Derived.Test.YthfdbepkalpplaaFW3
import Derived.Test.YthfdbepkalpplaaUnCode
set_option maxRecDepth 10000
set_option linter.unusedVariables false
set_option linter.unusedSimpArgs false
namespace Go.Fr.Try
open Go Go.RowKit Go.Proofs Go.Fr Go.Fr.T Go.Fr.Api
noncomputable abbrev P:Program:=Try.prog
abbrev tyA (x:Ty):C:=.agg [IC x.kind,IC x.id,.sl (x.args.map tyC)]
theorem tyA_eq (t:Ty):C.agg (tyC t) = tyA t:=congrArg C.agg (tyC_eq t)
noncomputable def tru (p:Prop):Bool:=@decide p (Classical.propDecidable p)
theorem tru_iff {p:Prop}:tru p = true ↔ p:=by unfold tru; exact @decide_eq_true_iff p (Classical.propDecidable p)
theorem tru_t {p:Prop} (h:tru p = true):p:=tru_iff.1 h
theorem tru_f {p:Prop} (h:tru p = false):¬ p:=fun q => by rw [tru_iff.2 q] at h; cases h
theorem tru_no {p:Prop} (h:¬ p):false = tru p:=by
 cases e:tru p with
 | true => exact absurd (tru_t e) h
 | false => rfl
theorem tru_yes {p:Prop} (h:p):true = tru p:=(tru_iff.2 h).symm
theorem tru_congr {p q:Prop} (h:p ↔ q):tru p = tru q:=by rw [show p = q from propext h]
theorem len_ne {α:Type} {a b:List α} (h:¬ a.length = b.length):a ≠ b:=fun e => h (by rw [e])
theorem lists_eq {α:Type} {a b:List α} {n:Nat} (ha:a.length = n) (hb:b.length = n) (h:∀ j < n,a[j]? = b[j]?):a = b:=by
 apply List.ext_getElem?
 intro i
 by_cases hi:i < n
 ·exact h i hi
 ·rw [List.getElem?_eq_none (by omega),List.getElem?_eq_none (by omega)]
theorem get_ne {α:Type} {a b:List α} {k:Nat} {x y:α} (h1:a[k]? = some x) (h2:b[k]? = some y) (h:x ≠ y):a ≠ b:=fun e => h (by rw [e,h2] at h1; injection h1 with h1; exact h1.symm)
theorem get_step {α:Type} {a b:List α} {k:Nat} {x y:α} (h:∀ j < k,a[j]? = b[j]?) (h1:a[k]? = some x) (h2:b[k]? = some y) (e:x = y):∀ j < k + 1,a[j]? = b[j]?:=by
 intro j hj
 by_cases hjk:j = k
 ·rw [hjk,h1,h2,e]
 ·exact h j (by omega)
theorem get_of {α:Type} {l:List α} {k:Nat} (h:k < l.length):∃ x,l[k]? = some x:=⟨l[k],List.getElem?_eq_getElem h⟩
theorem ty_eq {x y:Ty} (h0:x.kind = y.kind) (h1:x.id = y.id) (h2:x.args = y.args):x = y:=by
 cases x; cases y
 simp_all [Ty.kind,Ty.id,Ty.args]
theorem ty_lt {x t:Ty} (h:x ∈ t.args):SizeOf.sizeOf x < SizeOf.sizeOf t:=by
 cases t
 have:=List.sizeOf_lt_of_mem h
 simp only [Ty.args] at this
 simp only [Ty.mk.sizeOf_spec]
 omega
theorem tyInd {p:Ty → Prop} (h:∀ t:Ty,(∀ x ∈ t.args,p x) → p t):∀ t,p t:=by
 have:∀ (n:Nat) (t:Ty),SizeOf.sizeOf t < n → p t:=by
  intro n
  induction n with
  | zero => intro t ht; exact absurd ht (Nat.not_lt_zero _)
  | succ n ih => exact fun t ht => h t fun x hx => ih x (by have:=ty_lt hx; omega)
 exact fun t => this _ t (Nat.lt_succ_self _)
theorem wf_lenT {l:List Ty} (h:Wf (.sl (l.map tyC))):l.length ≤ 9223372036854775807:=wf_lenM h
theorem take_snoc {α:Type} {l:List α} {k:Nat} {x:α} (hx:l[k]? = some x):l.take (k + 1) = l.take k ++ [x]:=by
 rw [List.take_add_one,hx]; rfl
mutual
def few:Ty → Int → Int
 | .mk _ _ l,m => fewL l m 1
def fewL:List Ty → Int → Int → Int
 | [],_,n => n
 | x :: l,m,n => if n ≤ m then fewL l m (n + few x (m - n)) else n
end
mutual
theorem few_bd:∀ (t:Ty) (m:Int),0 ≤ m → 1 ≤ few t m ∧ few t m ≤ m + 1
 | .mk _ _ l,m,h => by
  rw [few]
  exact fewL_bd l m 1 h (by omega) (by omega)
theorem fewL_bd:∀ (l:List Ty) (m n:Int),0 ≤ m → 1 ≤ n → n ≤ m + 1 → 1 ≤ fewL l m n ∧ fewL l m n ≤ m + 1
 | [],m,n,_,h1,h2 => by rw [fewL]; exact ⟨h1,h2⟩
 | x :: l,m,n,h0,h1,h2 => by
  rw [fewL]
  split
  ·have:=few_bd x (m - n) (by omega)
   exact fewL_bd l m _ h0 (by omega) (by omega)
  ·exact ⟨h1,h2⟩
end
theorem fewL_stop {l:List Ty} {m n:Int} (h:¬ n ≤ m):fewL l m n = n:=by
 cases l with
 | nil => rw [fewL]
 | cons x l => rw [fewL,if_neg h]
def smallL (l:List Ty):Bool:=l.all (fun t => decide (few t 30 ≤ 30)) && decide ((l.length:Int) ≤ 8)
mutual
def dpt:Ty → Nat
 | .mk _ _ l => dpts l + 1
def dpts:List Ty → Nat
 | [] => 0
 | t :: l => max (dpt t) (dpts l)
end
theorem dpt_eq (t:Ty):dpt t = dpts t.args + 1:=by cases t; rfl
theorem dpts_snoc:∀ (l:List Ty) (x:Ty),dpts (l ++ [x]) = max (dpts l) (dpt x)
 | [],x => by simp [dpts]
 | t :: l,x => by rw [List.cons_append,dpts,dpts_snoc l x,dpts]; omega
theorem dpts_take (l:List Ty) (k:Nat):dpts (l.take k) ≤ dpts l:=by
 induction l generalizing k with
 | nil => simp [dpts]
 | cons t l ih =>
  cases k with
  | zero => simp [dpts]
  | succ k => rw [List.take_succ_cons,dpts,dpts]; have:=ih k; omega
theorem dpt_mem:∀ {l:List Ty} {x:Ty},x ∈ l → dpt x ≤ dpts l
 | t :: l,x,h => by
  rw [dpts]
  rcases List.mem_cons.1 h with rfl | h
  ·omega
  ·have:=dpt_mem h; omega
theorem dpts_le {l:List Ty} {n:Nat} (h:∀ x ∈ l,dpt x ≤ n):dpts l ≤ n:=by
 induction l with
 | nil => simp [dpts]
 | cons t l ih =>
  rw [dpts]
  have h1:=h t (by simp)
  have h2:=ih fun x hx => h x (by simp [hx])
  omega
mutual
def ins (n:Int):Ty → Bool
 | .mk k i l => if k < 1 ∨ 9 < k then false else if k = 9 then decide (0 ≤ i) && decide (i < n) && decide (l.length = 0) else insL n l
def insL (n:Int):List Ty → Bool
 | [] => true
 | t :: l => ins n t && insL n l
end
theorem insL_all (n:Int):∀ l:List Ty,insL n l = l.all (ins n)
 | [] => rfl
 | t :: l => by rw [insL,insL_all n l,List.all_cons]
theorem ins_eq (n:Int) (t:Ty):ins n t = if t.kind < 1 ∨ 9 < t.kind then false else if t.kind = 9 then decide (0 ≤ t.id) && decide (t.id < n) && decide (t.args.length = 0) else t.args.all (ins n):=by
 cases t
 rw [ins,insL_all]
 rfl
def stoB (t:Ty):Bool:=decide (1 ≤ t.kind) && decide (t.kind ≤ 5)
mutual
def subst (a:List Ty):Ty → Ty
 | .mk k i l => if k = 5 ∧ 0 ≤ i ∧ i < a.length then (a[i.toNat]?).getD (.mk 0 0 []) else .mk k i (substs a l)
def substs (a:List Ty):List Ty → List Ty
 | [] => []
 | t :: l => subst a t :: substs a l
end
theorem substs_map (a:List Ty):∀ l:List Ty,substs a l = l.map (subst a)
 | [] => rfl
 | t :: l => by rw [substs,substs_map a l]; rfl
theorem subst_eq (a:List Ty) (t:Ty):subst a t = if t.kind = 5 ∧ 0 ≤ t.id ∧ t.id < a.length then (a[t.id.toNat]?).getD (.mk 0 0 []) else .mk t.kind t.id (t.args.map (subst a)):=by
 cases t
 rw [subst,substs_map]
 rfl
mutual
def TyB:Ty → Prop
 | .mk _ _ l => l.length ≤ 2 ^ 30 ∧ TyBs l
def TyBs:List Ty → Prop
 | [] => True
 | t :: l => TyB t ∧ TyBs l
end
theorem tyBs_iff:∀ l:List Ty,TyBs l ↔ ∀ t ∈ l,TyB t
 | [] => by simp [TyBs]
 | t :: l => by simp [TyBs,tyBs_iff l]
theorem tyB_eq (t:Ty):TyB t ↔ t.args.length ≤ 2 ^ 30 ∧ ∀ x ∈ t.args,TyB x:=by
 cases t
 rw [TyB,tyBs_iff]
 rfl
theorem rowT {f:Ty} {s:List Ty}:s.map tyC ++ [[IC f.kind,IC f.id,.sl (f.args.map tyC)]] = (s ++ [f]).map tyC:=by rw [List.map_append,← tyC_eq]; rfl
theorem app1' {els:List (List C)} {c:List C} {sz by':Nat} {K:Prop} (n:Nat) (hc:c.length = sz) (hn:els.length = n) (hb:by' ≤ 1024) (h:n ≤ 2 ^ 30) (k:K):AppT els [c] sz by' K :=
 ⟨fun es he => (by rcases List.mem_cons.1 he with rfl | he; exact hc; cases he),by rw [hn]; simp only [List.length_cons,List.length_nil,maxLen]; omega,by
  rw [hn]
  simp only [List.length_cons,List.length_nil]
  exact Nat.le_trans (Nat.mul_le_mul (show n + (0 + 1) ≤ 2 ^ 31 by omega) hb) (by decide),k⟩
theorem nil_rw {L L1:TL} {k t sz:Nat} (h:L.get k = none) (h1:L1.get k = some (.row t sz [])):leC L L1 .nils (.rw k):=.inr (.inr (.inr (.inl ⟨rfl,k,t,sz,rfl,h,h1⟩)))
theorem rowG {t sz:Nat} {a b:List (List C)} (h:a = b):TO.row t sz a = TO.row t sz b:=by rw [h]
theorem rowF {a b:List (List C)} (h:a = b):C.sl a = C.sl b:=by rw [h]
theorem substHit {a:List Ty} {i:Int} (h1:0 ≤ i) (h2:i < (a.map tyC).length):∃ x,a[i.toNat]? = some x ∧ x ∈ a ∧ i = (i.toNat:Int):=by
 have hl:i.toNat < a.length:=by rw [List.length_map] at h2; omega
 exact ⟨a[i.toNat],List.getElem?_eq_getElem hl,List.getElem_mem hl,by omega⟩
theorem t46:∀ (t:Ty) (m:Int),0 ≤ m → m ≤ 1000 → CallsT P 46 [tyA t,IC m] [] (Ret [] (IC (few t m)))
 | .mk k i l,m,h0,h1 => by
  have ih:∀ x ∈ l,∀ m':Int,0 ≤ m' → m' ≤ 1000 → CallsT P 46 [tyA x,IC m'] [] (Ret [] (IC (few x m'))):=fun x hx m' a b => t46 x m' a b
  have hfb:=few_bd
  rw [few]
  show CallsT P 46 [.agg [IC k,IC i,.sl (l.map tyC)],IC m] [] _
  generalize hfew:few = few' at ih hfb
  have hfl:∀ x r n,fewL (x :: r) m n = if n ≤ m then fewL r m (n + few' x (m - n)) else n:=by
   intro x r n; rw [fewL,hfew]
  refine callsT_facts Try.func46 facts46 rfl fun hw _ => ?_
  refine loopN l.length 6 [5] (1:Int) (fun n => [IC n]) (fun _ => []) (fun k n => fewL (l.drop k) m n = fewL l m 1 ∧ 1 ≤ n ∧ n ≤ m + 1) ⟨rfl,by omega,by omega⟩ (same_keys rfl) ⟨same_keys rfl,trivial⟩ trivial (fun _ => rfl) (fun _ => rfl) ?_
  rintro j n hj ⟨hinv,hn0,hn1⟩ _ _ _
  have hlen:l.length ≤ 9223372036854775807:=wf_lenT hw.1.2.2.1
  refine brn_p (fun hlt => ?_) (fun hge => ?_)
  ·have hlt:j < l.length:=by simpa using hlt
   refine withDrop hlt fun x hx hxm hdr => ?_
   refine brn_p (fun hle => ?_) (fun hgt => ?_)
   ·refine idxTy hx ?_
    refine Fit.in64 (by omega) (by omega) ?_
    refine callP (ih x hxm (m - n) (by omega) (by omega)) rfl fun _ => ?_
    have hb:=hfb x (m - n) (by omega)
    refine Fit.in64 (by omega) (by omega) ?_
    refine Fit.in64 (by omega) (by omega) ?_
    refine ⟨(j + 1,n + few' x (m - n)),⟨hlt,?_,by omega,by omega⟩,⟨nextI,same_keys rfl,trivial⟩,trivial,nextM hlt⟩
    rw [hdr,hfl,if_pos hle] at hinv
    exact hinv
   ·have hinv2:=hinv
    rw [fewL_stop hgt] at hinv2
    exact retP rfl (congrArg IC hinv2)
  ·have hge:¬ j < l.length:=by simpa using hge
   have hinv2:=hinv
   rw [drop_end hge,fewL] at hinv2
   exact retP rfl (congrArg IC hinv2)
termination_by t => SizeOf.sizeOf t
decreasing_by
 have:=List.sizeOf_lt_of_mem hx
 simp only [Ty.mk.sizeOf_spec]
 omega
theorem t12 (l:List Ty):CallsT P 12 [.sl (l.map tyC)] [] (Ret [] (.bool (smallL l))):=by
 have h31:∀ x:Ty,CallsT P 46 [tyA x,IC 30] [] (Ret [] (IC (few x 30))):=fun x => t46 x 30 (by omega) (by omega)
 have hsm:smallL l = (l.all (fun t => decide (few t 30 ≤ 30)) && decide ((l.length:Int) ≤ 8)):=rfl
 generalize few = fw at h31 hsm
 refine callsT_facts Try.func12 facts12 rfl fun hw _ => ?_
 have hlen:l.length ≤ 9223372036854775807:=wf_lenT hw.1
 have hlm:(l.map tyC).length = l.length:=List.length_map _
 refine loopN l.length 3 [] () (fun _ => []) (fun _ => []) (fun k _ => (l.drop k).all (fun t => decide (fw t 30 ≤ 30)) = l.all (fun t => decide (fw t 30 ≤ 30))) rfl (same_keys rfl) trivial trivial (fun _ => rfl) (fun _ => rfl) ?_
 rintro k _ hk hinv _ _ _
 refine brn_p (fun hlt => ?_) (fun hge => ?_)
 ·have hlt:k < l.length:=by simpa using hlt
  refine withDrop hlt fun x hx hxm hdr => ?_
  refine idxTy hx ?_
  refine callP (h31 x) rfl fun _ => ?_
  have hinv2:=hinv
  rw [hdr,List.all_cons] at hinv2
  refine brn_p (fun hgt => ?_) (fun hle => ?_)
  ·have e:false = smallL l:=by
    have hdc:decide (fw x 30 ≤ 30) = false:=decide_eq_false (by omega)
    rw [hdc,Bool.false_and] at hinv2
    rw [hsm,← hinv2,Bool.false_and]
   exact retP rfl (congrArg C.bool e)
  ·refine Fit.in64 (by omega) (by omega) ?_
   have hdc:decide (fw x 30 ≤ 30) = true:=decide_eq_true (by omega)
   have hinv3:=hinv2
   rw [hdc,Bool.true_and] at hinv3
   exact ⟨(k + 1,()),⟨hlt,hinv3⟩,⟨nextI,trivial⟩,trivial,nextM hlt⟩
 ·have hge:¬ k < l.length:=by simpa using hge
  have e:decide (((l.map tyC).length:Int) ≤ 8) = smallL l:=by
   rw [drop_end hge,List.all_nil] at hinv
   rw [hsm,← hinv,Bool.true_and,hlm]
  exact retP rfl (congrArg C.bool e)
theorem t51 (t:Ty):CallsT P 51 [tyA t] [] (Ret [] (.bool (stoB t))):=by
 have e:stoB t = (decide (1 ≤ t.kind) && decide (t.kind ≤ 5)):=rfl
 refine callsT_facts Try.func51 facts51 rfl fun hw _ => ?_
 refine brn_p (fun h => ?_) (fun h => ?_)
 ·exact retP rfl (congrArg C.bool (by rw [e,decide_eq_true (show (1:Int) ≤ t.kind from h),Bool.true_and]))
 ·exact retP rfl (congrArg C.bool (by rw [e,decide_eq_false (show ¬ (1:Int) ≤ t.kind from h),Bool.false_and]))
theorem t17 (t:Ty):CallsT P 17 [tyA t] [] (Ret [] (.bool (stoB t))):=by
 have e:stoB t = (decide (1 ≤ t.kind) && decide (t.kind ≤ 5)):=rfl
 refine callsT_facts Try.func17 facts17 rfl fun hw _ => ?_
 refine brn_p (fun h => ?_) (fun h => ?_)
 ·exact retP rfl (congrArg C.bool (by rw [e,decide_eq_true (show (1:Int) ≤ t.kind from h),Bool.true_and]))
 ·exact retP rfl (congrArg C.bool (by rw [e,decide_eq_false (show ¬ (1:Int) ≤ t.kind from h),Bool.false_and]))
theorem t55 (t:Ty):CallsT P 55 [tyA t] [] (Ret [] (.bool (decide (t.kind = 9)))):=by
 refine callsT_facts Try.func55 facts55 rfl fun hw _ => ?_
 exact retP rfl rfl
theorem t42:CallsT P 42 [] [] (Ret [] (tyA (.mk 1 0 []))):=by
 refine callsT_facts Try.func42 facts42 rfl fun hw _ => ?_
 exact retP rfl rfl
theorem t27 (n:Int):CallsT P 27 [IC n] [] (Ret [] (tyA (.mk 9 n []))):=by
 refine callsT_facts Try.func27 facts27 rfl fun hw _ => ?_
 exact retP rfl rfl
theorem t13 (n:Int):CallsT P 13 [IC n] [] (Ret [] (tyA (.mk 5 n []))):=by
 refine callsT_facts Try.func13 facts13 rfl fun hw _ => ?_
 exact retP rfl rfl
theorem t44 (k:Int) (t:Ty):CallsT P 44 [IC k,tyA t] [] (Ret [] (tyA (.mk k 0 [t]))):=by
 refine callsT_facts Try.func44 facts44 rfl fun hw _ => ?_
 have e:C.agg [IC k,IC 0,.sl [[IC t.kind,IC t.id,.sl (t.args.map tyC)]]] = tyA (.mk k 0 [t]):=by
  rw [← tyC_eq]; rfl
 exact retP rfl e
theorem t43 (t:Ty):CallsT P 43 [tyA t] [] (Ret [] (tyA (.mk 3 0 [t]))):=by
 refine callsT_facts Try.func43 facts43 rfl fun hw _ => ?_
 refine callP (t44 3 t) rfl fun _ => ?_
 exact retP rfl rfl
abbrev EqOk (f:Nat) (args:List C) (p:Prop):Prop:=CallsT P f args [] (Ret [] (.bool (tru p)))
theorem t45n (a b:List (Ty)) (hc:∀ x ∈ a,∀ y,EqOk 15 [tyA x,tyA y] (x = y)):EqOk 45 [.sl (a.map tyC),.sl (b.map tyC)] (a = b):=by
 refine callsT_facts Try.func45 facts45 rfl fun hw _ => ?_
 have ha:(a.map tyC).length = a.length:=by simp
 have hb:(b.map tyC).length = b.length:=by simp
 have hm:a.length ≤ 9223372036854775807:=by have:=wf_len hw.1; rwa [ha] at this
 refine brn_split (fun hn => ?_) (fun hn => ?_)
 ·have hn:¬ a.length = b.length:=fun e => by
   rw [ha,hb,e] at hn
   simp at hn
  exact retP rfl (congrArg C.bool (tru_no (len_ne hn)))
 have hn:a.length = b.length:=by
  rw [ha,hb] at hn
  simp at hn
  omega
 refine loopN a.length 5 [] () (fun _ => []) (fun _ => []) (fun k _ => ∀ j < k,a[j]? = b[j]?) (fun j hj => absurd hj (by omega)) (same_keys rfl) trivial trivial (fun _ => rfl) (fun _ => rfl) ?_
 rintro k ⟨⟩ hk hinv _ _ _
 refine brn_p (fun hlt => ?_) (fun hge => ?_)
 ·have hlt:k < a.length:=by rw [ha] at hlt; omega
  refine withGet hlt fun x hx hxm => ?_
  refine withGet (l:=b) (k:=k) (by omega) fun y hy _ => ?_
  refine idxTy hx ?_
  refine idxTy hy ?_
  refine callPD (hc x hxm y) rfl fun _ => ?_
  refine brn_split (fun h => ?_) (fun h => ?_)
  ·have h:¬ x = y:=tru_f (by simpa using h)
   exact retP rfl (congrArg C.bool (tru_no (get_ne hx hy h)))
  ·have h:x = y:=tru_t (by simpa using h)
   refine Fit.in64 (by omega) (by omega) ?_
   exact ⟨(k + 1,()),⟨hlt,get_step hinv hx hy h⟩,⟨nextI,trivial⟩,trivial,nextM hlt⟩
 ·have hge:¬ k < a.length:=by rw [ha] at hge; omega
  have hk:k = a.length:=by omega
  exact retP rfl (congrArg C.bool (tru_yes (lists_eq rfl hn.symm (hk ▸ hinv))))
theorem t15:∀ x y:Ty,EqOk 15 [tyA x,tyA y] (x = y):=fun x => tyInd (p:=fun x => ∀ y,EqOk 15 [tyA x,tyA y] (x = y)) (fun x ih y => by
  refine callsT_facts Try.func15 facts15 rfl fun hw _ => ?_
  refine brn_p (fun h0 => ?_) (fun h0 => retP rfl (congrArg C.bool (tru_no fun e => h0 (by rw [e]))))
  refine brn_p (fun h1 => ?_) (fun h1 => retP rfl (congrArg C.bool (tru_no fun e => h1 (by rw [e]))))
  refine callP (t45n x.args y.args ih) rfl fun _ => ?_
  exact retP rfl (congrArg C.bool (tru_congr ⟨fun h => ty_eq h0 h1 h,fun e => by rw [e]⟩))) x
theorem t45 (a b:List Ty):EqOk 45 [.sl (a.map tyC),.sl (b.map tyC)] (a = b):=t45n a b fun x _ y => t15 x y
theorem t67n (a b:List (Ty)) (hc:∀ x ∈ a,∀ y,EqOk 68 [tyA x,tyA y] (x = y)):EqOk 67 [.sl (a.map tyC),.sl (b.map tyC),.fn 68 [] []] (a = b):=by
 refine callsT_facts Try.func67 facts67 rfl fun hw _ => ?_
 have ha:(a.map tyC).length = a.length:=by simp
 have hb:(b.map tyC).length = b.length:=by simp
 have hm:a.length ≤ 9223372036854775807:=by have:=wf_len hw.1; rwa [ha] at this
 refine brn_split (fun hn => ?_) (fun hn => ?_)
 ·have hn:¬ a.length = b.length:=fun e => by
   rw [ha,hb,e] at hn
   simp at hn
  exact retP rfl (congrArg C.bool (tru_no (len_ne hn)))
 have hn:a.length = b.length:=by
  rw [ha,hb] at hn
  simp at hn
  omega
 refine loopN a.length 17 [] () (fun _ => []) (fun _ => []) (fun k _ => ∀ j < k,a[j]? = b[j]?) (fun j hj => absurd hj (by omega)) (same_keys rfl) trivial trivial (fun _ => rfl) (fun _ => rfl) ?_
 rintro k ⟨⟩ hk hinv _ _ _
 refine brn_p (fun hlt => ?_) (fun hge => ?_)
 ·have hlt:k < a.length:=by rw [ha] at hlt; omega
  refine withGet hlt fun x hx hxm => ?_
  refine withGet (l:=b) (k:=k) (by omega) fun y hy _ => ?_
  refine idxTy hx ?_
  refine idxTy hy ?_
  refine callP (hc x hxm y) rfl fun _ => ?_
  refine brn_split (fun h => ?_) (fun h => ?_)
  ·have h:¬ x = y:=tru_f (by simpa using h)
   exact retP rfl (congrArg C.bool (tru_no (get_ne hx hy h)))
  ·have h:x = y:=tru_t (by simpa using h)
   refine Fit.in64 (by omega) (by omega) ?_
   exact ⟨(k + 1,()),⟨hlt,get_step hinv hx hy h⟩,⟨nextI,trivial⟩,trivial,nextM hlt⟩
 ·have hge:¬ k < a.length:=by rw [ha] at hge; omega
  have hk:k = a.length:=by omega
  exact retP rfl (congrArg C.bool (tru_yes (lists_eq rfl hn.symm (hk ▸ hinv))))
theorem t68:∀ x y:Ty,EqOk 68 [tyA x,tyA y] (x = y):=fun x => tyInd (p:=fun x => ∀ y,EqOk 68 [tyA x,tyA y] (x = y)) (fun x ih y => by
  refine callsT_facts Try.func68 facts68 rfl fun hw _ => ?_
  refine brn_p (fun h0 => ?_) (fun h0 => retP rfl (congrArg C.bool (tru_no fun e => h0 (by rw [e]))))
  refine brn_p (fun h1 => ?_) (fun h1 => retP rfl (congrArg C.bool (tru_no fun e => h1 (by rw [e]))))
  refine callP (t67n x.args y.args ih) rfl fun _ => ?_
  exact retP rfl (congrArg C.bool (tru_congr ⟨fun h => ty_eq h0 h1 h,fun e => by rw [e]⟩))) x
theorem cap (n:Nat):(n:Int) + 1 = ((n + 1:Nat):Int):=rfl
theorem wf_I' {n:Int} (h:-9223372036854775808 ≤ n) (k:n ≤ 9223372036854775807):Wf (IC n):=by
 simp only [Wf,Lit.wf,Bool.and_eq_true,decide_eq_true_eq,IntKind.min,IntKind.max,IntKind.signed,IntKind.bits]
 exact ⟨by simpa using h,by simpa using by omega⟩
theorem mmW {a b:Nat} (h:a ≤ 2 ^ 40) (k:b ≤ 2 ^ 40):Wf (IC (if (b:Int) > (a:Int) then (b:Int) else (a:Int))):=wf_I' (by split <;> omega) (by split <;> omega)
theorem maxI {a b c:Nat} (h:max a b = c):(if (b:Int) > (a:Int) then (b:Int) else (a:Int)) = (c:Int):=by
 split <;> omega
theorem t18:∀ t:Ty,dpt t ≤ 2 ^ 40 → CallsT P 18 [tyA t] [] (Ret [] (IC (dpt t))):=tyInd fun t ih hd => by
 have hd':dpts t.args < 2 ^ 40:=by rw [dpt_eq] at hd; omega
 have ih:∀ x ∈ t.args,CallsT P 18 [tyA x] [] (Ret [] (IC (dpt x))):=fun x hx => ih x hx (by have:=dpt_mem hx; omega)
 have hq:=dpt_eq t
 have hsn:∀ k x,t.args[k]? = some x → dpts (t.args.take (k + 1)) = max (dpts (t.args.take k)) (dpt x):=fun k x hx => by rw [take_snoc hx,dpts_snoc]
 have htk:=dpts_take t.args
 have hall:dpts (t.args.take t.args.length) = dpts t.args:=by rw [List.take_length]
 have h0:dpts (t.args.take 0) = 0:=rfl
 generalize dpts = D at hsn htk hall h0 hq hd'
 generalize dpt = E at ih hq hsn
 refine callsT_facts Try.func18 facts18 rfl fun hw _ => ?_
 have hlen:t.args.length ≤ 9223372036854775807:=wf_lenT hw.1.2.2.1
 have hlm:(t.args.map tyC).length = t.args.length:=List.length_map _
 refine loopN t.args.length 4 [3] (0:Nat) (fun n => [IC n]) (fun _ => []) (fun k n => n = D (t.args.take k)) h0.symm (same_keys rfl) ⟨same_keys rfl,trivial⟩ trivial (fun _ => rfl) (fun _ => rfl) ?_
 rintro k n hk hinv hw2 _ _
 refine brn_p (fun hlt => ?_) (fun hge => ?_)
 ·have hlt:k < t.args.length:=by rw [hlm] at hlt; omega
  refine withGet hlt fun x hx hxm => ?_
  refine idxTy hx ?_
  refine callP (ih x hxm) rfl fun _ => ?_
  have hm:=htk (k + 1)
  have hs:=hsn k x hx
  refine ⟨?_,?_⟩
  ·exact mmW (a:=n) (b:=E x) (by omega) (by omega)
  refine Fit.in64 (by omega) (by omega) ?_
  exact ⟨(k + 1,D (t.args.take (k + 1))),⟨hlt,rfl⟩,⟨nextI,.inr (.inl ⟨congrArg IC (maxI (a:=n) (b:=E x) (c:=D (t.args.take (k + 1))) (by omega)),rfl⟩),trivial⟩,trivial,nextM hlt⟩
 ·have hge:¬ k < t.args.length:=by rw [hlm] at hge; omega
  have hk:k = t.args.length:=by omega
  rw [hk,hall] at hinv
  refine Fit.in64 (by omega) (by omega) ?_
  exact retP rfl (congrArg IC (by omega))
theorem t47:∀ t:Ty,dpt t ≤ 2 ^ 40 → CallsT P 47 [tyA t] [] (Ret [] (IC (dpt t))):=tyInd fun t ih hd => by
 have hd':dpts t.args < 2 ^ 40:=by rw [dpt_eq] at hd; omega
 have ih:∀ x ∈ t.args,CallsT P 47 [tyA x] [] (Ret [] (IC (dpt x))):=fun x hx => ih x hx (by have:=dpt_mem hx; omega)
 have hq:=dpt_eq t
 have hsn:∀ k x,t.args[k]? = some x → dpts (t.args.take (k + 1)) = max (dpts (t.args.take k)) (dpt x):=fun k x hx => by rw [take_snoc hx,dpts_snoc]
 have htk:=dpts_take t.args
 have hall:dpts (t.args.take t.args.length) = dpts t.args:=by rw [List.take_length]
 have h0:dpts (t.args.take 0) = 0:=rfl
 generalize dpts = D at hsn htk hall h0 hq hd'
 generalize dpt = E at ih hq hsn
 refine callsT_facts Try.func47 facts47 rfl fun hw _ => ?_
 have hlen:t.args.length ≤ 9223372036854775807:=wf_lenT hw.1.2.2.1
 have hlm:(t.args.map tyC).length = t.args.length:=List.length_map _
 refine loopN t.args.length 9 [3] (0:Nat) (fun n => [IC n]) (fun _ => []) (fun k n => n = D (t.args.take k)) h0.symm (same_keys rfl) ⟨same_keys rfl,trivial⟩ trivial (fun _ => rfl) (fun _ => rfl) ?_
 rintro k n hk hinv hw2 _ _
 refine brn_p (fun hlt => ?_) (fun hge => ?_)
 ·have hlt:k < t.args.length:=by rw [hlm] at hlt; omega
  refine withGet hlt fun x hx hxm => ?_
  refine idxTy hx ?_
  refine callP (ih x hxm) rfl fun _ => ?_
  have hm:=htk (k + 1)
  have hs:=hsn k x hx
  refine ⟨?_,?_⟩
  ·exact mmW (a:=n) (b:=E x) (by omega) (by omega)
  refine Fit.in64 (by omega) (by omega) ?_
  exact ⟨(k + 1,D (t.args.take (k + 1))),⟨hlt,rfl⟩,⟨nextI,.inr (.inl ⟨congrArg IC (maxI (a:=n) (b:=E x) (c:=D (t.args.take (k + 1))) (by omega)),rfl⟩),trivial⟩,trivial,nextM hlt⟩
 ·have hge:¬ k < t.args.length:=by rw [hlm] at hge; omega
  have hk:k = t.args.length:=by omega
  rw [hk,hall] at hinv
  refine Fit.in64 (by omega) (by omega) ?_
  exact retP rfl (congrArg IC (by omega))
theorem all_drop {α:Type} {p:α → Bool} {l:List α} {k:Nat} {x:α} (hd:l.drop k = x :: l.drop (k + 1)) (hi:(l.drop k).all p = l.all p) (hx:p x = true):(l.drop (k + 1)).all p = l.all p:=by
 rw [hd,List.all_cons,hx,Bool.true_and] at hi; exact hi
theorem all_no {α:Type} {p:α → Bool} {l:List α} {k:Nat} {x:α} (hd:l.drop k = x :: l.drop (k + 1)) (hi:(l.drop k).all p = l.all p) (hx:p x = false):false = l.all p:=by
 rw [hd,List.all_cons,hx,Bool.false_and] at hi; exact hi
theorem all_end {α:Type} {p:α → Bool} {l:List α} {k:Nat} (h:¬ k < l.length) (hi:(l.drop k).all p = l.all p):true = l.all p:=by
 rw [drop_end h,List.all_nil] at hi; exact hi
theorem any_drop {α:Type} {p:α → Bool} {l:List α} {k:Nat} {x:α} (hd:l.drop k = x :: l.drop (k + 1)) (hi:(l.drop k).any p = l.any p) (hx:p x = false):(l.drop (k + 1)).any p = l.any p:=by
 rw [hd,List.any_cons,hx,Bool.false_or] at hi; exact hi
theorem any_yes {α:Type} {p:α → Bool} {l:List α} {k:Nat} {x:α} (hd:l.drop k = x :: l.drop (k + 1)) (hi:(l.drop k).any p = l.any p) (hx:p x = true):true = l.any p:=by
 rw [hd,List.any_cons,hx,Bool.true_or] at hi; exact hi
theorem any_end {α:Type} {p:α → Bool} {l:List α} {k:Nat} (h:¬ k < l.length) (hi:(l.drop k).any p = l.any p):false = l.any p:=by
 rw [drop_end h,List.any_nil] at hi; exact hi
theorem t21 (n:Int):∀ t:Ty,CallsT P 21 [tyA t,IC n] [] (Ret [] (.bool (ins n t))):=tyInd fun t ih => by
 have he:=ins_eq n t
 have h55:=t55 t
 have hlm:(t.args.map tyC).length = t.args.length:=List.length_map _
 generalize ins n = f at he ih ⊢
 refine callsT_facts Try.func21 facts21 rfl fun hw _ => ?_
 have hlen:t.args.length ≤ 9223372036854775807:=wf_lenT hw.1.2.2.1
 refine brn_p (fun h1 => ?_) (fun h1 => ?_)
 ·exact retP rfl (congrArg C.bool (by rw [he,if_pos (Or.inl h1)]))
 refine brn_p (fun h2 => ?_) (fun h2 => ?_)
 ·exact retP rfl (congrArg C.bool (by rw [he,if_pos (Or.inr h2)]))
 rw [if_neg (by omega)] at he
 refine callP h55 rfl fun _ => ?_
 refine brn_p (fun h3 => ?_) (fun h3 => ?_)
 ·rw [if_pos h3] at he
  refine brn_p (fun h4 => ?_) (fun h4 => ?_)
  ·refine brn_p (fun h5 => ?_) (fun h5 => ?_)
   ·exact retP rfl (congrArg C.bool (by rw [he,decide_eq_true (show (0:Int) ≤ t.id from h4),decide_eq_true h5,Bool.true_and,Bool.true_and]; exact decide_eq_decide.2 (by rw [hlm]; omega)))
   ·exact retP rfl (congrArg C.bool (by rw [he,decide_eq_false h5,Bool.and_false,Bool.false_and]))
  ·exact retP rfl (congrArg C.bool (by rw [he,decide_eq_false (show ¬ (0:Int) ≤ t.id from h4),Bool.false_and,Bool.false_and]))
 rw [if_neg h3] at he
 refine loopN t.args.length 5 [] () (fun _ => []) (fun _ => []) (fun k _ => (t.args.drop k).all f = t.args.all f) rfl (same_keys rfl) trivial trivial (fun _ => rfl) (fun _ => rfl) ?_
 rintro k _ hk hinv _ _ _
 refine brn_p (fun hlt => ?_) (fun hge => ?_)
 ·have hlt:k < t.args.length:=by rw [hlm] at hlt; omega
  refine withDrop hlt fun x hx hxm hdr => ?_
  refine idxTy hx ?_
  refine callP (ih x hxm) rfl fun _ => ?_
  refine brn_split (fun h => ?_) (fun h => ?_)
  ·exact retP rfl (congrArg C.bool (by rw [he]; exact all_no hdr hinv (by simpa using h)))
  ·refine Fit.in64 (by omega) (by omega) ?_
   exact ⟨(k + 1,()),⟨hlt,all_drop hdr hinv (by simpa using h)⟩,⟨nextI,trivial⟩,trivial,nextM hlt⟩
 ·have hge:¬ k < t.args.length:=by rw [hlm] at hge; omega
  exact retP rfl (congrArg C.bool (by rw [he]; exact all_end hge hinv))
theorem t53y (a:List Ty) (t x:Ty) (h1:t.kind = 5) (h2:0 ≤ t.id) (h3:t.id < a.length) (hx:a[t.id.toNat]? = some x):CallsT P 53 [tyA t,.pt [.sl (a.map tyC)] 0] [] (Ret [] (.tup [tyA x,.bool true])):=by
 have hlm:(a.map tyC).length = a.length:=List.length_map _
 refine callsT_facts Try.func53 facts53 rfl fun hw _ => ?_
 refine brn_p (fun _ => ?_) (fun q => absurd h1 q)
 refine brn_p (fun _ => ?_) (fun q => absurd h2 q)
 refine brn_p (fun _ => ?_) (fun q => absurd (by rw [hlm]; exact h3) q)
 refine (congrArg (fun z => IdxT (a.map tyC) z 3 _) (show t.id = (t.id.toNat:Int) by omega)).mpr ?_
 refine idxTy hx ?_
 exact retP rfl rfl
theorem t53n (a:List Ty) (t:Ty) (h:¬ (t.kind = 5 ∧ 0 ≤ t.id ∧ t.id < a.length)):CallsT P 53 [tyA t,.pt [.sl (a.map tyC)] 0] [] (Ret [] (.tup [tyA t,.bool false])):=by
 have hlm:(a.map tyC).length = a.length:=List.length_map _
 refine callsT_facts Try.func53 facts53 rfl fun hw _ => ?_
 refine brn_p (fun h1 => brn_p (fun h2 => brn_p (fun h3 => absurd ⟨h1,h2,by rw [hlm] at h3; exact h3⟩ h) (fun _ => ?_)) (fun _ => ?_)) (fun _ => ?_)
 all_goals exact retP rfl rfl
theorem t52y (els:List (List C)) (t x:Ty) (h:CallsT P 53 [tyA t,.pt [.sl els] 0] [] (Ret [] (.tup [tyA x,.bool true]))):CallsT P 52 [tyA t,.fn 53 [] [.pt [.sl els] 0]] [] (Ret [] (tyA x)):=by
 refine callsT_facts Try.func52 facts52 rfl fun hw _ => ?_
 refine callP h rfl fun _ => ?_
 exact retP rfl rfl
theorem t52n (els:List (List C)) (t:Ty) (f:Ty → Ty) (hb:t.args.length ≤ 2 ^ 30) (h:CallsT P 53 [tyA t,.pt [.sl els] 0] [] (Ret [] (.tup [tyA t,.bool false])))
  (ih:∀ x ∈ t.args,CallsT P 52 [tyA x,.fn 53 [] [.pt [.sl els] 0]] [] (Ret [] (tyA (f x)))):CallsT P 52 [tyA t,.fn 53 [] [.pt [.sl els] 0]] [] (Ret [] (tyA (.mk t.kind t.id (t.args.map f)))):=by
 have hlm:(t.args.map tyC).length = t.args.length:=List.length_map _
 refine callsT_facts Try.func52 facts52 rfl fun hw _ => ?_
 refine callP h rfl fun _ => ?_
 refine loopN t.args.length 26 [] ([]:List Ty) (fun _ => []) (fun s => [(4,.box 32 [IC 0,IC 0,.nils]),(5,.box 32 [IC t.kind,IC t.id,.sl (t.args.map tyC)]),(7,.box 32 [IC t.kind,IC t.id,.rw 36]),(36,.row 32 3 (s.map tyC))]) (fun j s => s = (t.args.take j).map f) (by simp) (same_keys rfl) trivial
  ⟨.inl ⟨_,rfl,.inl ⟨rfl,rfl⟩⟩,.inl ⟨_,rfl,.inl ⟨rfl,rfl⟩⟩,.inl ⟨_,rfl,.inr ⟨32,_,_,rfl,rfl,_,_,rfl,same_keys rfl,_,_,rfl,same_keys rfl,_,_,rfl,nil_rw rfl rfl,rfl⟩⟩,.inr ⟨rfl,32,3,rfl⟩,trivial⟩ (fun _ => rfl) (fun _ => rfl) ?_
 rintro j s hj hinv _ _ _
 refine brn_p (fun hlt => ?_) (fun hge => ?_)
 ·have hlt:j < t.args.length:=by rw [hlm] at hlt; omega
  refine withGet hlt fun x hx hxm => ?_
  have hs:(s.map tyC).length = j:=by rw [hinv,List.length_map,List.length_map,List.length_take]; omega
  refine idxTy hx ?_
  refine callPD (ih x hxm) rfl fun _ => ?_
  refine app1' j rfl hs (by decide) (by omega) ?_
  refine Fit.in64 (by omega) (by omega) ?_
  refine ⟨(j + 1,s ++ [f x]),⟨hlt,?_⟩,⟨nextI,trivial⟩,⟨.inl ⟨_,rfl,.inl ⟨rfl,rfl⟩⟩,.inl ⟨_,rfl,.inl ⟨rfl,rfl⟩⟩,.inl ⟨_,rfl,.inl ⟨rfl,rfl⟩⟩,.inl ⟨_,rfl,.inl ⟨rowG rowT,rfl⟩⟩,trivial⟩,nextM hlt⟩
  show s ++ [f x] = (t.args.take (j + 1)).map f
  rw [take_snoc hx,hinv,List.map_append]; rfl
 ·have hge:¬ j < t.args.length:=by rw [hlm] at hge; omega
  have e:C.agg [IC t.kind,IC t.id,.sl (s.map tyC)] = tyA (.mk t.kind t.id (t.args.map f)):=by
   rw [hinv,List.take_of_length_le (by omega)]; rfl
  exact retF [36] [] ⟨_,[],rfl,rfl,rfl,rfl,e⟩
theorem t52 (a:List Ty):∀ t:Ty,TyB t → CallsT P 52 [tyA t,.fn 53 [] [.pt [.sl (a.map tyC)] 0]] [] (Ret [] (tyA (subst a t))):=tyInd fun t ih hb => by
 have hb:=(tyB_eq t).1 hb
 rw [subst_eq]
 by_cases h:t.kind = 5 ∧ 0 ≤ t.id ∧ t.id < a.length
 ·rw [if_pos h]
  obtain ⟨h1,h2,h3⟩:=h
  obtain ⟨x,hx⟩:=get_of (l:=a) (k:=t.id.toNat) (by omega)
  rw [hx]
  exact t52y _ t x (t53y a t x h1 h2 h3 hx)
 ·rw [if_neg h]
  exact t52n _ t _ hb.1 (t53n a t h) fun x hx => ih x hx (hb.2 x hx)
theorem t16 (a:List Ty) (t:Ty) (hb:TyB t):CallsT P 16 [.sl (a.map tyC),tyA t] [] (Ret [] (tyA (subst a t))):=by
 have h:=t52 a t hb
 generalize subst a t = r at h ⊢
 refine callsT_facts Try.func16 facts16 rfl fun hw _ => ?_
 refine callP h rfl fun _ => ?_
 exact retP rfl rfl
def fidx (q:Ty → Bool):List Ty → Int → Int
 | [],_ => -1
 | x :: l,k => if q x then k else fidx q l (k + 1)
theorem fidx_yes {q:Ty → Bool} {l:List Ty} {k:Nat} {x:Ty} {r:Int} (hd:l.drop k = x :: l.drop (k + 1)) (hi:fidx q (l.drop k) k = r) (hx:q x = true):(k:Int) = r:=by
 rw [hd,fidx,if_pos hx] at hi; exact hi
theorem fidx_no {q:Ty → Bool} {l:List Ty} {k:Nat} {x:Ty} {r:Int} (hd:l.drop k = x :: l.drop (k + 1)) (hi:fidx q (l.drop k) k = r) (hx:q x = false):fidx q (l.drop (k + 1)) ((k + 1:Nat):Int) = r:=by
 rw [hd,fidx,if_neg (by rw [hx]; exact Bool.false_ne_true)] at hi; exact hi
theorem fidx_end {q:Ty → Bool} {l:List Ty} {k:Nat} {r:Int} (h:¬ k < l.length) (hi:fidx q (l.drop k) k = r):(-1:Int) = r:=by
 rw [drop_end h,fidx] at hi; exact hi
theorem fidx_any' (q:Ty → Bool):∀ (l:List Ty) (k:Int),0 ≤ k → decide (0 ≤ fidx q l k) = l.any q
 | [],k,_ => rfl
 | x :: l,k,h => by
  rw [fidx,List.any_cons]
  cases hq:q x
  ·rw [if_neg Bool.false_ne_true,Bool.false_or]
   exact fidx_any' q l (k + 1) (by omega)
  ·rw [if_pos rfl,Bool.true_or]
   exact decide_eq_true h
theorem fidx_any (q:Ty → Bool) (l:List Ty):decide (fidx q l 0 ≥ 0) = l.any q:=fidx_any' q l 0 (Int.le_refl _)
theorem t92_v (es:List C) (pa:Int) (pc:List C) (l:List Ty) (q:Ty → Bool) (h:∀ x ∈ l,CallsT P 50 [tyA x,.pt es 0,.own 1000 0] [.box 39 [.fn 48 [] [.pt [IC pa] 0,.pt pc 0,.own 1000 0]]] (Ret [.box 39 [.fn 48 [] [.pt [IC pa] 0,.pt pc 0,.own 1000 0]]] (.bool (q x)))) :
  CallsT P 92 [.sl (l.map tyC),.fn 50 [] [.pt es 0,.own 1000 0]] [.box 39 [.fn 48 [] [.pt [IC pa] 0,.pt pc 0,.own 1000 0]]] (Ret [.box 39 [.fn 48 [] [.pt [IC pa] 0,.pt pc 0,.own 1000 0]]] (IC (fidx q l 0))):=by
 have hlm:(l.map tyC).length = l.length:=List.length_map _
 refine callsT_facts Try.func92 facts92 rfl fun hw _ => ?_
 have hlen:l.length ≤ 9223372036854775807:=wf_lenT hw.1
 refine loopN l.length 8 [] () (fun _ => []) (fun _ => [(1000,.box 39 [.fn 48 [] [.pt [IC pa] 0,.pt pc 0,.own 1000 0]])]) (fun k _ => fidx q (l.drop k) k = fidx q l 0) rfl (same_keys rfl) trivial ⟨.inl ⟨_,rfl,.inl ⟨rfl,rfl⟩⟩,trivial⟩ (fun _ => rfl) (fun _ => rfl) ?_
 rintro k _ hk hinv _ _ _
 refine brn_p (fun hlt => ?_) (fun hge => ?_)
 ·have hlt:k < l.length:=by rw [hlm] at hlt; omega
  refine withDrop hlt fun x hx hxm hdr => ?_
  refine idxTy hx ?_
  refine callO [1000] [1000] (h x hxm) rfl rfl rfl rfl rfl fun _ _ => ?_
  refine brn_split (fun hq => ?_) (fun hq => ?_)
  ·exact retO [1000] rfl rfl rfl (congrArg IC (fidx_yes hdr hinv hq))
  ·refine Fit.in64 (by omega) (by omega) ?_
   exact ⟨(k + 1,()),⟨hlt,fidx_no hdr hinv hq⟩,⟨nextI,trivial⟩,⟨.inl ⟨_,rfl,.inl ⟨rfl,rfl⟩⟩,trivial⟩,nextM hlt⟩
 ·have hge:¬ k < l.length:=by rw [hlm] at hge; omega
  exact retO [1000] rfl rfl rfl (congrArg IC (fidx_end hge hinv))
theorem t49_v (es:List C) (pa:Int) (pc:List C) (l:List Ty) (q:Ty → Bool) (h:∀ x ∈ l,CallsT P 50 [tyA x,.pt es 0,.own 1000 0] [.box 39 [.fn 48 [] [.pt [IC pa] 0,.pt pc 0,.own 1000 0]]] (Ret [.box 39 [.fn 48 [] [.pt [IC pa] 0,.pt pc 0,.own 1000 0]]] (.bool (q x)))) :
  CallsT P 49 [.sl (l.map tyC),.fn 50 [] [.pt es 0,.own 1000 0]] [.box 39 [.fn 48 [] [.pt [IC pa] 0,.pt pc 0,.own 1000 0]]] (Ret [.box 39 [.fn 48 [] [.pt [IC pa] 0,.pt pc 0,.own 1000 0]]] (.bool (l.any q))):=by
 have h92:=t92_v es pa pc l q h
 have e:=fidx_any q l
 generalize fidx q l 0 = n at h92 e
 refine callsT_facts Try.func49 facts49 rfl fun hw _ => ?_
 refine callO [1000] [1000] h92 rfl rfl rfl rfl rfl fun _ _ => ?_
 exact retO [1000] rfl rfl rfl (congrArg C.bool e)
def arN (ds:List Api.Data) (k i:Int):Option Int :=
 if k = 1 ∨ k = 6 then some 0 else if k = 2 then (if i < 0 ∨ (ds.length:Int) ≤ i then none else some ((ds[i.toNat]?).map (·.params) |>.getD 0)) else if k = 3 ∨ k = 4 ∨ k = 8 ∨ k = 7 then some 1 else none
mutual
def fmB (ds:List Api.Data) (pa:Int):Ty → Bool
 | .mk k i l => if k = 5 then decide (0 ≤ i) && decide (i < pa) && decide (l.length = 0) else
  match arN ds k i with
  | none => false
  | some n => if (k ≠ 2 ∧ i ≠ 0) ∨ (l.length:Int) ≠ n then false else !fmL ds pa k l
def fmL (ds:List Api.Data) (pa:Int) (k:Int):List Ty → Bool
 | [] => false
 | x :: l => ((!stoB x && !(decide (k = 7) && decide (x.kind = 6))) || !fmB ds pa x) || fmL ds pa k l
end
def badB (ds:List Api.Data) (pa k:Int) (x:Ty):Bool:=(!stoB x && !(decide (k = 7) && decide (x.kind = 6))) || !fmB ds pa x
theorem fmL_any (ds:List Api.Data) (pa k:Int):∀ l:List Ty,fmL ds pa k l = l.any (badB ds pa k)
 | [] => rfl
 | t :: l => by rw [fmL,fmL_any ds pa k l,List.any_cons]; rfl
theorem fmB_eq (ds:List Api.Data) (pa:Int) (t:Ty):fmB ds pa t = if t.kind = 5 then decide (0 ≤ t.id) && decide (t.id < pa) && decide (t.args.length = 0) else
  match arN ds t.kind t.id with
  | none => false
  | some n => if (t.kind ≠ 2 ∧ t.id ≠ 0) ∨ (t.args.length:Int) ≠ n then false else !t.args.any (badB ds pa t.kind):=by
 cases t
 rw [fmB,fmL_any]
 rfl
abbrev F48 (pa:Int) (p:Prog):C:=.fn 48 [] [.pt [IC pa] 0,.pt (progC p) 0,.own 1000 0]
abbrev L48 (pa:Int) (p:Prog):List TO:=[.box 39 [F48 pa p]]
abbrev Ok48 (pa:Int) (p:Prog) (t:Ty) (b:Bool):Prop:=CallsT P 48 [tyA t,.pt [IC pa] 0,.pt (progC p) 0,.own 1000 0] (L48 pa p) (Ret (L48 pa p) (.bool b))
theorem t50 (pa:Int) (p:Prog) (t x:Ty) (b:Bool) (h:Ok48 pa p x b) :
  CallsT P 50 [tyA x,.pt [IC t.kind,IC t.id,.sl (t.args.map tyC)] 0,.own 1000 0] (L48 pa p) (Ret (L48 pa p) (.bool ((!stoB x && !(decide (t.kind = 7) && decide (x.kind = 6))) || !b))):=by
 have h51:=t51 x
 generalize stoB x = s at h51 ⊢
 refine callsT_facts Try.func50 facts50 rfl fun hw _ => ?_
 refine brn_p (fun h1 => ?_) (fun h1 => ?_)
 ·refine callP h51 rfl fun _ => ?_
  cases s
  ·refine brn_split (fun h2 => ?_) (fun h2 => ?_)
   ·refine retO [1000] rfl rfl rfl (congrArg C.bool ?_)
    have h2:decide (x.kind = 6) = false:=by simpa using h2
    rw [h2,decide_eq_true (show t.kind = 7 from h1)]; rfl
   ·refine callO [1000] [1000] h rfl rfl rfl rfl rfl fun _ _ => ?_
    refine retO [1000] rfl rfl rfl (congrArg C.bool ?_)
    have h2:decide (x.kind = 6) = true:=by simpa using h2
    rw [h2,decide_eq_true (show t.kind = 7 from h1)]; rfl
  ·refine callO [1000] [1000] h rfl rfl rfl rfl rfl fun _ _ => ?_
   exact retO [1000] rfl rfl rfl (congrArg C.bool rfl)
 ·refine callP h51 rfl fun _ => ?_
  cases s
  ·refine retO [1000] rfl rfl rfl (congrArg C.bool ?_)
   rw [decide_eq_false (show ¬ t.kind = 7 from h1)]; rfl
  ·refine callO [1000] [1000] h rfl rfl rfl rfl rfl fun _ _ => ?_
   exact retO [1000] rfl rfl rfl (congrArg C.bool rfl)
theorem idxD {ds:List Api.Data} {z:Int} {d:Api.Data} {K:List C → Prop} (h0:0 ≤ z) (hx:ds[z.toNat]? = some d) (h:K [.str d.name,IC d.module,IC d.params,.sl (d.variants.map variantC),IC d.drop]):IdxT (ds.map dataC) z 5 K :=
 ⟨_,h0,by simp only [List.getElem?_map,hx,Option.map_some]; rfl,rfl,h⟩
theorem lenI {l:List Ty}:((l.map tyC).length:Int) = (l.length:Int):=by rw [List.length_map]
theorem brn_n {p:Prop} [Decidable p] {A B:Prop} (h:¬ p → A) (k:p → B):brn (!decide p) A B:=by
 by_cases hp:p
 ·rw [decide_eq_true hp]; exact k hp
 ·rw [decide_eq_false hp]; exact h hp
structure D48 (pa:Int) (p:Prog) (t:Ty) (bad:Ty → Bool):Prop where
 h49:CallsT P 49 [.sl (t.args.map tyC),.fn 50 [] [.pt [IC t.kind,IC t.id,.sl (t.args.map tyC)] 0,.own 1000 0]] (L48 pa p) (Ret (L48 pa p) (.bool (t.args.any bad)))
theorem t48_1 (pa:Int) (p:Prog) (t:Ty) (bad:Ty → Bool) (X:D48 pa p t bad) (hk:t.kind = 1):Ok48 pa p t (if t.id ≠ 0 ∨ (t.args.length:Int) ≠ 0 then false else !t.args.any bad):=by
 refine callsT_facts Try.func48 facts48 rfl fun hw _ => ?_
 refine brn_p (fun _ => ?_) (fun q => absurd (by omega) q)
 refine brn_p (fun _ => ?_) (fun q => absurd (by omega) q)
 refine brn_n (fun _ => ?_) (fun q => absurd q (by omega))
 refine brn_n (fun h3 => ?_) (fun h3 => ?_)
 ·exact retO [1000] rfl rfl rfl (congrArg C.bool (if_pos (Or.inl h3)).symm)
 refine brn_n (fun h4 => ?_) (fun h4 => ?_)
 ·exact retO [1000] rfl rfl rfl (congrArg C.bool (if_pos (Or.inr (by rw [← lenI]; exact h4))).symm)
 refine callO [1000] [1000] X.h49 rfl rfl rfl rfl rfl fun _ _ => ?_
 exact retO [1000] rfl rfl rfl (congrArg C.bool (if_neg (by rw [← lenI]; exact fun q => q.elim (fun q => q h3) (fun q => q h4))).symm)
theorem t48_6 (pa:Int) (p:Prog) (t:Ty) (bad:Ty → Bool) (X:D48 pa p t bad) (hk:t.kind = 6):Ok48 pa p t (if t.id ≠ 0 ∨ (t.args.length:Int) ≠ 0 then false else !t.args.any bad):=by
 refine callsT_facts Try.func48 facts48 rfl fun hw _ => ?_
 refine brn_p (fun q => absurd q (by omega)) (fun _ => ?_)
 refine brn_p (fun _ => ?_) (fun q => absurd (by omega) q)
 refine brn_n (fun _ => ?_) (fun q => absurd q (by omega))
 refine brn_n (fun h3 => ?_) (fun h3 => ?_)
 ·exact retO [1000] rfl rfl rfl (congrArg C.bool (if_pos (Or.inl h3)).symm)
 refine brn_n (fun h4 => ?_) (fun h4 => ?_)
 ·exact retO [1000] rfl rfl rfl (congrArg C.bool (if_pos (Or.inr (by rw [← lenI]; exact h4))).symm)
 refine callO [1000] [1000] X.h49 rfl rfl rfl rfl rfl fun _ _ => ?_
 exact retO [1000] rfl rfl rfl (congrArg C.bool (if_neg (by rw [← lenI]; exact fun q => q.elim (fun q => q h3) (fun q => q h4))).symm)
theorem t48_3 (pa:Int) (p:Prog) (t:Ty) (bad:Ty → Bool) (X:D48 pa p t bad) (hk:t.kind = 3):Ok48 pa p t (if t.id ≠ 0 ∨ (t.args.length:Int) ≠ 1 then false else !t.args.any bad):=by
 refine callsT_facts Try.func48 facts48 rfl fun hw _ => ?_
 refine brn_p (fun q => absurd q (by omega)) (fun _ => ?_)
 refine brn_p (fun q => absurd q (by omega)) (fun _ => ?_)
 refine brn_p (fun q => absurd q (by omega)) (fun _ => ?_)
 refine brn_p (fun q => absurd q (by omega)) (fun _ => ?_)
 refine brn_p (fun _ => ?_) (fun q => absurd (by omega) q)
 refine brn_p (fun _ => ?_) (fun q => absurd (by omega) q)
 refine brn_n (fun _ => ?_) (fun q => absurd q (by omega))
 refine brn_n (fun h3 => ?_) (fun h3 => ?_)
 ·exact retO [1000] rfl rfl rfl (congrArg C.bool (if_pos (Or.inl h3)).symm)
 refine brn_n (fun h4 => ?_) (fun h4 => ?_)
 ·exact retO [1000] rfl rfl rfl (congrArg C.bool (if_pos (Or.inr (by rw [← lenI]; exact h4))).symm)
 refine callO [1000] [1000] X.h49 rfl rfl rfl rfl rfl fun _ _ => ?_
 exact retO [1000] rfl rfl rfl (congrArg C.bool (if_neg (by rw [← lenI]; exact fun q => q.elim (fun q => q h3) (fun q => q h4))).symm)
theorem t48_4 (pa:Int) (p:Prog) (t:Ty) (bad:Ty → Bool) (X:D48 pa p t bad) (hk:t.kind = 4):Ok48 pa p t (if t.id ≠ 0 ∨ (t.args.length:Int) ≠ 1 then false else !t.args.any bad):=by
 refine callsT_facts Try.func48 facts48 rfl fun hw _ => ?_
 refine brn_p (fun q => absurd q (by omega)) (fun _ => ?_)
 refine brn_p (fun q => absurd q (by omega)) (fun _ => ?_)
 refine brn_p (fun q => absurd q (by omega)) (fun _ => ?_)
 refine brn_p (fun q => absurd q (by omega)) (fun _ => ?_)
 refine brn_p (fun q => absurd q (by omega)) (fun _ => ?_)
 refine brn_p (fun _ => ?_) (fun q => absurd (by omega) q)
 refine brn_p (fun _ => ?_) (fun q => absurd (by omega) q)
 refine brn_n (fun _ => ?_) (fun q => absurd q (by omega))
 refine brn_n (fun h3 => ?_) (fun h3 => ?_)
 ·exact retO [1000] rfl rfl rfl (congrArg C.bool (if_pos (Or.inl h3)).symm)
 refine brn_n (fun h4 => ?_) (fun h4 => ?_)
 ·exact retO [1000] rfl rfl rfl (congrArg C.bool (if_pos (Or.inr (by rw [← lenI]; exact h4))).symm)
 refine callO [1000] [1000] X.h49 rfl rfl rfl rfl rfl fun _ _ => ?_
 exact retO [1000] rfl rfl rfl (congrArg C.bool (if_neg (by rw [← lenI]; exact fun q => q.elim (fun q => q h3) (fun q => q h4))).symm)
theorem t48_8 (pa:Int) (p:Prog) (t:Ty) (bad:Ty → Bool) (X:D48 pa p t bad) (hk:t.kind = 8):Ok48 pa p t (if t.id ≠ 0 ∨ (t.args.length:Int) ≠ 1 then false else !t.args.any bad):=by
 refine callsT_facts Try.func48 facts48 rfl fun hw _ => ?_
 refine brn_p (fun q => absurd q (by omega)) (fun _ => ?_)
 refine brn_p (fun q => absurd q (by omega)) (fun _ => ?_)
 refine brn_p (fun q => absurd q (by omega)) (fun _ => ?_)
 refine brn_p (fun q => absurd q (by omega)) (fun _ => ?_)
 refine brn_p (fun q => absurd q (by omega)) (fun _ => ?_)
 refine brn_p (fun q => absurd q (by omega)) (fun _ => ?_)
 refine brn_p (fun _ => ?_) (fun q => absurd (by omega) q)
 refine brn_p (fun _ => ?_) (fun q => absurd (by omega) q)
 refine brn_n (fun _ => ?_) (fun q => absurd q (by omega))
 refine brn_n (fun h3 => ?_) (fun h3 => ?_)
 ·exact retO [1000] rfl rfl rfl (congrArg C.bool (if_pos (Or.inl h3)).symm)
 refine brn_n (fun h4 => ?_) (fun h4 => ?_)
 ·exact retO [1000] rfl rfl rfl (congrArg C.bool (if_pos (Or.inr (by rw [← lenI]; exact h4))).symm)
 refine callO [1000] [1000] X.h49 rfl rfl rfl rfl rfl fun _ _ => ?_
 exact retO [1000] rfl rfl rfl (congrArg C.bool (if_neg (by rw [← lenI]; exact fun q => q.elim (fun q => q h3) (fun q => q h4))).symm)
theorem t48_7 (pa:Int) (p:Prog) (t:Ty) (bad:Ty → Bool) (X:D48 pa p t bad) (hk:t.kind = 7):Ok48 pa p t (if t.id ≠ 0 ∨ (t.args.length:Int) ≠ 1 then false else !t.args.any bad):=by
 refine callsT_facts Try.func48 facts48 rfl fun hw _ => ?_
 refine brn_p (fun q => absurd q (by omega)) (fun _ => ?_)
 refine brn_p (fun q => absurd q (by omega)) (fun _ => ?_)
 refine brn_p (fun q => absurd q (by omega)) (fun _ => ?_)
 refine brn_p (fun q => absurd q (by omega)) (fun _ => ?_)
 refine brn_p (fun q => absurd q (by omega)) (fun _ => ?_)
 refine brn_p (fun q => absurd q (by omega)) (fun _ => ?_)
 refine brn_p (fun q => absurd q (by omega)) (fun _ => ?_)
 refine brn_p (fun _ => ?_) (fun q => absurd (by omega) q)
 refine brn_n (fun _ => ?_) (fun q => absurd q (by omega))
 refine brn_n (fun h3 => ?_) (fun h3 => ?_)
 ·exact retO [1000] rfl rfl rfl (congrArg C.bool (if_pos (Or.inl h3)).symm)
 refine brn_n (fun h4 => ?_) (fun h4 => ?_)
 ·exact retO [1000] rfl rfl rfl (congrArg C.bool (if_pos (Or.inr (by rw [← lenI]; exact h4))).symm)
 refine callO [1000] [1000] X.h49 rfl rfl rfl rfl rfl fun _ _ => ?_
 exact retO [1000] rfl rfl rfl (congrArg C.bool (if_neg (by rw [← lenI]; exact fun q => q.elim (fun q => q h3) (fun q => q h4))).symm)
theorem t48_o (pa:Int) (p:Prog) (t:Ty) (hk:¬ (1 ≤ t.kind ∧ t.kind ≤ 8)):Ok48 pa p t false:=by
 refine callsT_facts Try.func48 facts48 rfl fun hw _ => ?_
 refine brn_p (fun q => absurd q (by omega)) (fun _ => ?_)
 refine brn_p (fun q => absurd q (by omega)) (fun _ => ?_)
 refine brn_p (fun q => absurd q (by omega)) (fun _ => ?_)
 refine brn_p (fun q => absurd q (by omega)) (fun _ => ?_)
 refine brn_p (fun q => absurd q (by omega)) (fun _ => ?_)
 refine brn_p (fun q => absurd q (by omega)) (fun _ => ?_)
 refine brn_p (fun q => absurd q (by omega)) (fun _ => ?_)
 refine brn_p (fun q => absurd q (by omega)) (fun _ => ?_)
 exact retO [1000] rfl rfl rfl rfl
theorem t48_5 (pa:Int) (p:Prog) (t:Ty) (hk:t.kind = 5):Ok48 pa p t (decide (0 ≤ t.id) && decide (t.id < pa) && decide (t.args.length = 0)):=by
 refine callsT_facts Try.func48 facts48 rfl fun hw _ => ?_
 refine brn_p (fun q => absurd q (by omega)) (fun _ => ?_)
 refine brn_p (fun q => absurd q (by omega)) (fun _ => ?_)
 refine brn_p (fun _ => ?_) (fun q => absurd (by omega) q)
 refine brn_p (fun h4 => ?_) (fun h4 => ?_)
 ·refine brn_p (fun h5 => ?_) (fun h5 => ?_)
  ·exact retO [1000] rfl rfl rfl (congrArg C.bool (by rw [decide_eq_true (show (0:Int) ≤ t.id from h4),decide_eq_true h5,Bool.true_and,Bool.true_and]; exact decide_eq_decide.2 (by rw [List.length_map]; omega)))
  ·exact retO [1000] rfl rfl rfl (congrArg C.bool (by rw [decide_eq_false h5,Bool.and_false,Bool.false_and]))
 ·exact retO [1000] rfl rfl rfl (congrArg C.bool (by rw [decide_eq_false (show ¬ (0:Int) ≤ t.id from h4),Bool.false_and,Bool.false_and]))
theorem t48_2n (pa:Int) (p:Prog) (t:Ty) (hk:t.kind = 2) (hi:t.id < 0 ∨ (p.datas.length:Int) ≤ t.id):Ok48 pa p t false:=by
 have hdm:(p.datas.map dataC).length = p.datas.length:=List.length_map _
 refine callsT_facts Try.func48 facts48 rfl fun hw _ => ?_
 refine brn_p (fun q => absurd q (by omega)) (fun _ => ?_)
 refine brn_p (fun q => absurd q (by omega)) (fun _ => ?_)
 refine brn_p (fun q => absurd q (by omega)) (fun _ => ?_)
 refine brn_p (fun _ => ?_) (fun q => absurd (by omega) q)
 refine brn_p (fun h4 => ?_) (fun h4 => ?_)
 ·exact retO [1000] rfl rfl rfl rfl
 refine brn_p (fun h5 => ?_) (fun h5 => absurd (by rw [hdm]; omega) h5)
 exact retO [1000] rfl rfl rfl rfl
theorem t48_2 (pa:Int) (p:Prog) (t:Ty) (bad:Ty → Bool) (X:D48 pa p t bad) (hk:t.kind = 2) (d:Api.Data) (h0:0 ≤ t.id) (hd:p.datas[t.id.toNat]? = some d):Ok48 pa p t (if (t.args.length:Int) ≠ d.params then false else !t.args.any bad):=by
 have hdm:(p.datas.map dataC).length = p.datas.length:=List.length_map _
 have hlt:t.id.toNat < p.datas.length:=(List.getElem?_eq_some_iff.1 hd).1
 refine callsT_facts Try.func48 facts48 rfl fun hw _ => ?_
 refine brn_p (fun q => absurd q (by omega)) (fun _ => ?_)
 refine brn_p (fun q => absurd q (by omega)) (fun _ => ?_)
 refine brn_p (fun q => absurd q (by omega)) (fun _ => ?_)
 refine brn_p (fun _ => ?_) (fun q => absurd (by omega) q)
 refine brn_p (fun h4 => absurd h0 (by omega)) (fun h4 => ?_)
 refine brn_p (fun h5 => absurd h5 (by rw [hdm]; omega)) (fun h5 => ?_)
 refine idxD h0 hd ?_
 refine brn_n (fun q => absurd hk q) (fun _ => ?_)
 refine brn_n (fun h4 => ?_) (fun h4 => ?_)
 ·exact retO [1000] rfl rfl rfl (congrArg C.bool (if_pos (by rw [← lenI]; exact h4)).symm)
 refine callO [1000] [1000] X.h49 rfl rfl rfl rfl rfl fun _ _ => ?_
 exact retO [1000] rfl rfl rfl (congrArg C.bool (if_neg (by rw [← lenI]; exact fun q => q h4)).symm)
theorem t48 (pa:Int) (p:Prog):∀ t:Ty,Ok48 pa p t (fmB p.datas pa t):=tyInd fun t ih => by
 have X:D48 pa p t (badB p.datas pa t.kind):=⟨t49_v [IC t.kind,IC t.id,.sl (t.args.map tyC)] pa (progC p) t.args (badB p.datas pa t.kind) fun x hx => t50 pa p t x _ (ih x hx)⟩
 rw [fmB_eq]
 by_cases h5:t.kind = 5
 ·rw [if_pos h5]; exact t48_5 pa p t h5
 rw [if_neg h5,arN]
 by_cases h1:t.kind = 1 ∨ t.kind = 6
 ·rw [if_pos h1]
  simp only [ne_eq,show ¬ t.kind = 2 by omega,not_false_eq_true,true_and]
  rcases h1 with h1 | h1
  ·exact t48_1 pa p t _ X h1
  ·exact t48_6 pa p t _ X h1
 rw [if_neg h1]
 by_cases h2:t.kind = 2
 ·rw [if_pos h2]
  by_cases hi:t.id < 0 ∨ (p.datas.length:Int) ≤ t.id
  ·rw [if_pos hi]; exact t48_2n pa p t h2 hi
  ·rw [if_neg hi]
   obtain ⟨d,hd⟩:=get_of (l:=p.datas) (k:=t.id.toNat) (by omega)
   rw [hd]
   simp only [ne_eq,h2,not_true_eq_false,false_and,false_or,Option.map_some,Option.getD_some]
   rw [← h2]
   exact t48_2 pa p t _ X h2 d (by omega) hd
 rw [if_neg h2]
 by_cases h3:t.kind = 3 ∨ t.kind = 4 ∨ t.kind = 8 ∨ t.kind = 7
 ·rw [if_pos h3]
  simp only [ne_eq,h2,not_false_eq_true,true_and]
  rcases h3 with h3 | h3 | h3 | h3
  ·exact t48_3 pa p t _ X h3
  ·exact t48_4 pa p t _ X h3
  ·exact t48_8 pa p t _ X h3
  ·exact t48_7 pa p t _ X h3
 ·rw [if_neg h3]
  exact t48_o pa p t (by omega)
def validB (p:Prog) (pa:Int) (t:Ty):Bool:=if pa < 0 ∨ pa > 4 ∨ dpt t > 8 then false else fmB p.datas pa t
theorem t14 (pa:Int) (p:Prog) (t:Ty) (hd:dpt t ≤ 2 ^ 40):CallsT P 14 [.agg (progC p),IC pa,tyA t] [] (Ret [] (.bool (validB p pa t))):=by
 have h47:=t47 t hd
 have h48:=t48 pa p t
 rw [validB]
 generalize dpt t = D at h47 ⊢
 generalize fmB p.datas pa t = b at h48 ⊢
 refine callsT_facts Try.func14 facts14 rfl fun hw _ => ?_
 refine brn_p (fun h1 => ?_) (fun h1 => ?_)
 ·exact retP rfl (congrArg C.bool (if_pos (Or.inl h1)).symm)
 refine brn_p (fun h2 => ?_) (fun h2 => ?_)
 ·exact retP rfl (congrArg C.bool (if_pos (Or.inr (Or.inl h2))).symm)
 refine callP h47 rfl fun _ => ?_
 refine brn_p (fun h3 => ?_) (fun h3 => ?_)
 ·exact retP rfl (congrArg C.bool (if_pos (Or.inr (Or.inr (by omega)))).symm)
 refine callO [7] [7] h48 rfl rfl rfl rfl rfl fun _ _ => ?_
 exact retP rfl (congrArg C.bool (if_neg (by omega)).symm)
end Go.Fr.Try
