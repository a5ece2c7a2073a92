/- Part of the proofs of the statements of this seat. -/
import Derived.Test.YthfdbepkalpplaaUnR2G
set_option maxRecDepth 10000
set_option linter.unusedVariables false
set_option linter.unusedSimpArgs false
namespace Go.Fr.Try
open Go Go.RowKit Go.Proofs Go.Fr Go.Fr.T Go.Fr.Api
theorem t19two (s:List Ty) (a b:Ty):CallsT P 19 [.sl (s.map tyC),.sl [tyB' a,tyB' b]] [] (Such True):=by
 have:=t19 s [a,b]
 rw [List.map_cons,List.map_cons,List.map_nil,tyC_eq,tyC_eq] at this
 exact this
structure GL (u s:List Ty) (a b:Ty) (Gr:Bool) (Ins:Ty → Bool) (G:Ty → Ty):Prop where
 h20:(∀ t ∈ u,dpt t ≤ 2 ^ 40) → CallsT P 20 [.sl (u.map tyC)] [] (Ret [] (.bool Gr))
 h21:∀ t,CallsT P 21 [tyA t,IC s.length] [] (Ret [] (.bool (Ins t)))
 hAp:u.length = s.length → Gr = true → (∀ x ∈ u,TyB x) → ∀ t,Ins t = true → TyB t → CallsT P 22 [.sl (u.map tyC),tyA t] [] (Ret [] (tyA (G t)))
 hU:u.length = s.length → smallL s = true → smallL [a,b] = true → ∃ n,CallsT P 23 [.sl (s.map tyC),tyA a,tyA b] [] (RN n s a b) ∧ ((∀ (i:Nat) (x:Ty),s[i]? = some x → ¬ x.kind = 0 → u[i]? = some (G x)) → G a = G b → ∀ r e,UR n s a b r e →
  e ≠ 8 ∧ (e = 0 → r.length = u.length ∧ ∀ (i:Nat) (x:Ty),r[i]? = some x → TyB x ∧ (¬ x.kind = 0 → Ins x = true ∧ u[i]? = some (G x))))
def SatK (u s:List Ty) (G:Ty → Ty) (k:Nat):Prop:=∀ (i:Nat) (x:Ty),i < k → s[i]? = some x → ¬ x.kind = 0 → u[i]? = some (G x)
theorem SatK.next {u s:List Ty} {G:Ty → Ty} {k:Nat} {x:Ty} (h:SatK u s G k) (hx:s[k]? = some x) (hk:¬ x.kind = 0 → u[k]? = some (G x)):SatK u s G (k + 1):=fun i y hi hy hky => by
 by_cases e:i = k
 ·subst e; rw [hx] at hy; injection hy with hy; subst hy; exact hk hky
 ·exact h i y (by omega) hy hky
set_option maxRecDepth 100000 in
theorem t4o (s u:List Ty) (a b:Ty) (Gr:Bool) (Ins:Ty → Bool) (G:Ty → Ty) (X:GL u s a b Gr Ins G):CallsT P 4 [.sl (s.map tyC),.sl (u.map tyC),tyA a,tyA b] [] (Ret [] (.bool true)):=by
 obtain ⟨h20,h21,hAp,hU⟩:=X
 have s1:=t12 s
 have s2:=t12 u
 have s3:=t12two a b
 have s4:=t19two s a b
 have d1:=@small_all s
 have d2:=@small_all u
 have d3:=@small_two a b
 generalize hsm:smallL = sm at s1 s2 s3 d1 d2 d3 hU
 have h15:=t15
 have hsm':(s.map tyC).length = s.length:=List.length_map _
 have hum:(u.map tyC).length = u.length:=List.length_map _
 generalize hUR:UR = U at hU
 refine callsT_facts Try.func4 facts4 rfl fun hw _ => ?_
 refine callP t11 rfl fun _ => ?_
 refine callP s1 rfl fun _ => ?_
 refine brn_split (fun q => ?_) (fun e1 => ?_)
 ·exact retP rfl rfl
 refine callP s2 rfl fun _ => ?_
 refine brn_split (fun q => ?_) (fun e2 => ?_)
 ·exact retP rfl rfl
 refine callP s3 rfl fun _ => ?_
 refine brn_split (fun q => ?_) (fun e3 => ?_)
 ·exact retP rfl rfl
 refine callB s4 rfl fun lt _ => ?_
 refine brn_split (fun q => ?_) (fun e4 => ?_)
 ·exact retP rfl rfl
 refine brn_n (fun q => ?_) (fun e5 => ?_)
 ·exact retP rfl rfl
 have e1:sm s = true:=by simpa using e1
 have e2:sm u = true:=by simpa using e2
 have e3:sm [a,b] = true:=by simpa using e3
 have e5:u.length = s.length:=by omega
 have f2:=d2 e2
 have f3:=d3 e3
 refine callP (h20 fun t ht => by have:=(f2.2 t ht).2; omega) rfl fun _ => ?_
 refine brn_split (fun q => ?_) (fun e6 => ?_)
 ·exact retP rfl rfl
 have e6:Gr = true:=by simpa using e6
 have hAp:=hAp e5 e6 fun x hx => (f2.2 x hx).1
 refine callP (h21 a) (by rw [hsm']; rfl) fun _ => ?_
 refine brn_split (fun q => ?_) (fun e7 => ?_)
 ·exact retP rfl rfl
 refine callP (h21 b) (by rw [hsm']; rfl) fun _ => ?_
 refine brn_split (fun q => ?_) (fun e8 => ?_)
 ·exact retP rfl rfl
 refine loopN s.length 10 [] () (fun _ => []) (fun _ => []) (fun k _ => SatK u s G k) (fun i x h => absurd h (Nat.not_lt_zero _)) (same_keys rfl) trivial trivial (fun _ => rfl) (fun _ => rfl) ?_
 rintro k _ hk hinv _ _ hk2
 refine brn_p (fun hlt => ?_) (fun hge => ?_)
 ·have hlt:k < s.length:=by rw [← hsm']; omega
  refine withGet hlt fun x hx hxm => ?_
  refine withGet (l:=u) (k:=k) (by omega) fun y hy hym => ?_
  refine idxTy hx ?_
  refine brn_n (fun e9 => idxTy hx <| callPD (h21 x) (by rw [hsm']; rfl) fun _ => ?_) (fun e9 => ?_)
  ·refine brn_split (fun q => ?_) (fun e10 => ?_)
   ·exact retP rfl rfl
   refine idxTy hx ?_
   refine idxTy hy ?_
   refine callPD (hAp x (by simpa using e10) (by exact ((d1 e1).2 x hxm).1)) rfl fun _ => ?_
   refine callPD (h15 (G x) y) rfl fun _ => ?_
   refine brn_split (fun q => ?_) (fun e11 => ?_)
   ·exact retP rfl rfl
   have e12:tru (G x = y) = true:=by simpa using e11
   refine Fit.in64 (by omega) (by omega) ?_
   exact ⟨(k + 1,()),⟨hlt,hinv.next hx fun _ => by rw [hy,tru_t e12]⟩,⟨nextI,trivial⟩,trivial,nextM hlt⟩
  ·refine Fit.in64 (by omega) (by omega) ?_
   exact ⟨(k + 1,()),⟨hlt,hinv.next hx fun q => absurd (show x.kind = 0 from by simpa using e9) q⟩,⟨nextI,trivial⟩,trivial,nextM hlt⟩
 ·have hk3:k = s.length:=by rw [hsm'] at hge; omega
  have hS:∀ (i:Nat) (x:Ty),s[i]? = some x → ¬ x.kind = 0 → u[i]? = some (G x):=fun i x hx hkx => hinv i x (by rw [hk3]; exact (List.getElem?_eq_some_iff.1 hx).1) hx hkx
  refine callPD (hAp a (by simpa using e7) f3.1.1) rfl fun _ => ?_
  refine callPD (hAp b (by simpa using e8) f3.2.1) rfl fun _ => ?_
  refine callPD (h15 (G a) (G b)) rfl fun _ => ?_
  refine brn_split (fun q => ?_) (fun e9 => ?_)
  ·exact retP rfl rfl
  have e10:tru (G a = G b) = true:=by simpa using e9
  refine exE (hU e5 e1 e3) fun n hn => ?_
  have hn2:=hn.2 hS (tru_t e10)
  subst hUR
  refine callRN hn.1 rfl fun r e hu _ => ?_
  have hr:=hn2 r e hu
  refine brn_n (fun q => ?_) (fun q => ?_)
  ·exact retP rfl (congrArg C.bool (by rw [decide_eq_false (show ¬ e = 8 from hr.1)]; rfl))
  have q0:e = 0:=by simpa using q
  have hr2:=hr.2 q0
  have hrm:(r.map tyC).length = r.length:=List.length_map _
  refine brn_n (fun q => absurd (by rw [hrm,hum,hr2.1]) q) (fun _ => ?_)
  refine loopN r.length 13 [] () (fun _ => []) (fun _ => []) (fun _ _ => True) trivial (same_keys rfl) trivial trivial (fun _ => rfl) (fun _ => rfl) ?_
  rintro k _ hk _ _ _ hk2
  refine brn_p (fun hlt => ?_) (fun hge => ?_)
  ·have hlt:k < r.length:=by rw [← hrm]; omega
   refine withGet hlt fun x hx _ => ?_
   refine withGet (l:=u) (k:=k) (by omega) fun y hy hym => ?_
   have hx2:=hr2.2 k x hx
   refine idxTy hx ?_
   refine brn_n (fun e9 => idxTy hx <| callPD (h21 x) (by rw [hum,e5]; rfl) fun _ => ?_) (fun e9 => ?_)
   ·have hx3:=hx2.2 e9
    refine brn_split (fun q => absurd (show (!Ins x) = true from q) (by rw [hx3.1]; exact Bool.false_ne_true)) (fun _ => ?_)
    refine idxTy hx ?_
    refine idxTy hy ?_
    refine callPD (hAp x hx3.1 hx2.1) rfl fun _ => ?_
    refine callPD (same_yes (Option.some.inj (hx3.2.symm.trans hy))) rfl fun _ => ?_
    refine Fit.in64 (by omega) (by omega) ?_
    exact ⟨(k + 1,()),⟨hlt,trivial⟩,⟨nextI,trivial⟩,trivial,nextM hlt⟩
   ·refine Fit.in64 (by omega) (by omega) ?_
    exact ⟨(k + 1,()),⟨hlt,trivial⟩,⟨nextI,trivial⟩,trivial,nextM hlt⟩
  ·exact retP rfl rfl
theorem groundB_Grd {u:List Ty} (h:groundB u = true):Grd u:=fun x hx => by
 have:=(List.all_eq_true.1 h) x hx
 simp only [Bool.not_eq_true',Bool.or_eq_false_iff,decide_eq_false_iff_not,Bool.not_eq_false'] at this
 exact ⟨this.1.1,this.1.2,by omega⟩
theorem t4 (s u:List Ty) (a b:Ty):CallsT P 4 [.sl (s.map tyC),.sl (u.map tyC),tyA a,tyA b] [] (Ret [] (.bool true)):=by
 refine t4o s u a b (groundB u) (ins s.length) (gs u) ⟨fun h => t20 u h,fun t => t21 s.length t,fun hl hg hB t ht hb => apply_ground (groundB_Grd hg) hB (by rw [hl]; exact ht) hb,fun hl hs hab => ?_⟩
 have f1:=small_all hs
 have f2:=small_two hab
 obtain ⟨n,h,_⟩:=unifyN (s:=s) (a:=a) (b:=b) (by omega) (fun x hx => (f1.2 x hx).1) f2.1.1 f2.2.1 (by omega) (by omega)
 refine ⟨n,h,fun hS hG r e hu => ?_⟩
 have:=general (u:=u) ⟨hl,fun i x hx hk => hS i x hx hk⟩ (fun x hx => (f1.2 x hx).1) f2.1.1 f2.2.1 hG hu
 rw [hl] at this ⊢
 exact this
end Go.Fr.Try
