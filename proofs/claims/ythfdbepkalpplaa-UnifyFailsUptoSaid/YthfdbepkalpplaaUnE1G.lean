/- Part of the proofs of the statements of this seat. -/
import Derived.Test.YthfdbepkalpplaaUnT5G
set_option maxRecDepth 10000
set_option linter.unusedVariables false
set_option linter.unusedSimpArgs false
namespace Go.Fr.Try
open Go Go.RowKit Go.Proofs Go.Fr Go.Fr.T Go.Fr.Api
section
variable {α:Type}
def mget:List (Int × α) → Int → Option α
 | [],_ => none
 | (k,v) :: m,i => if i = k then some v else mget m i
def mset:List (Int × α) → Int → α → List (Int × α)
 | [],i,x => [(i,x)]
 | (k,v) :: m,i,x => if i = k then (i,x) :: m else (k,v) :: mset m i x
def mcs (f:α → C) (m:List (Int × α)):List (C × C):=m.map fun p => (IC p.1,f p.2)
theorem findC_m (f:α → C) (i:Int):∀ m:List (Int × α),findC false (IC i) (mcs f m) = some ((mget m i).map f)
 | [] => rfl
 | (k,v) :: m => by
  have ih:=findC_m f i m
  simp only [mcs,List.map_cons,findC,keySameC,mget] at ih ⊢
  by_cases h:i = k
  ·rw [decide_eq_true h,if_pos h]; rfl
  ·rw [decide_eq_false h,if_neg h]; exact ih
theorem setC_m (f:α → C) (i:Int) (x:α):∀ m:List (Int × α),setC false (IC i) (f x) (mcs f m) = some (mcs f (mset m i x))
 | [] => rfl
 | (k,v) :: m => by
  have ih:=setC_m f i x m
  simp only [mcs,List.map_cons,setC,keySameC,mset] at ih ⊢
  by_cases h:i = k
  ·rw [decide_eq_true h,if_pos h]; rfl
  ·rw [decide_eq_false h,if_neg h]; simp only [ih]; rfl
theorem mget_set (m:List (Int × α)) (i j:Int) (x:α):mget (mset m i x) j = if j = i then some x else mget m j:=by
 induction m with
 | nil =>
  simp only [mset,mget]
 | cons p m ih =>
  obtain ⟨k,v⟩:=p
  simp only [mset]
  by_cases h:i = k
  ·rw [if_pos h]
   simp only [mget]
   subst h
   by_cases h2:j = i
   ·rw [if_pos h2,if_pos h2]
   ·rw [if_neg h2,if_neg h2,if_neg h2]
  ·rw [if_neg h]
   simp only [mget,ih]
   by_cases h2:j = k
   ·rw [if_pos h2,if_pos h2,if_neg (by omega)]
   ·rw [if_neg h2,if_neg h2]
theorem lookY {f:α → C} {i:Int} {m:List (Int × α)} {Y:C → Prop} {N:Prop} {x:α} (h:mget m i = some x) (k:Y (f x)):MLookT false (mcs f m) (IC i) Y N :=
 ⟨.inl ⟨f x,by rw [findC_m,h]; rfl,k⟩⟩
theorem lookN {f:α → C} {i:Int} {m:List (Int × α)} {Y:C → Prop} {N:Prop} (h:mget m i = none) (k:N):MLookT false (mcs f m) (IC i) Y N :=
 ⟨.inr ⟨by rw [findC_m,h]; rfl,k⟩⟩
theorem updM {f:α → C} {i:Int} {m:List (Int × α)} {K:List (C × C) → Prop} {x:α} {c:C} (e:c = f x) (k:K (mcs f (mset m i x))):MUpdT false (mcs f m) (IC i) c K :=
 ⟨_,by rw [e]; exact setC_m f i x m,k⟩
end
mutual
def eqB:Ty → Ty → Bool
 | .mk k i l,.mk k' i' l' => decide (k = k') && decide (i = i') && eqsB l l'
def eqsB:List Ty → List Ty → Bool
 | [],[] => true
 | x :: l,y :: l' => eqB x y && eqsB l l'
 | _,_ => false
end
mutual
theorem eqB_iff:∀ x y:Ty,eqB x y = true ↔ x = y
 | .mk k i l,.mk k' i' l' => by
  rw [eqB,Bool.and_eq_true,Bool.and_eq_true,decide_eq_true_eq,decide_eq_true_eq,eqsB_iff l l']
  simp only [Ty.mk.injEq,and_assoc]
theorem eqsB_iff:∀ x y:List Ty,eqsB x y = true ↔ x = y
 | [],[] => by simp [eqsB]
 | [],_ :: _ => by simp [eqsB]
 | _ :: _,[] => by simp [eqsB]
 | x :: l,y :: l' => by rw [eqsB,Bool.and_eq_true,eqB_iff x y,eqsB_iff l l',List.cons.injEq]
end
theorem tru_eqB (x y:Ty):tru (x = y) = eqB x y:=by
 cases h:eqB x y with
 | true => exact tru_iff.2 ((eqB_iff x y).1 h)
 | false => exact (tru_no fun e => by rw [(eqB_iff x y).2 e] at h; cases h).symm
abbrev TM:=List (Int × Ty)
mutual
def fitM (n:Int):Ty → Ty → TM → TM × Bool
 | .mk k i l,t,m => if k = 5 then (if i < 0 ∨ n ≤ i then (m,false) else match mget m i with
   | some x => (m,eqB x t)
   | none => (mset m i t,true))
  else if k = t.kind ∧ i = t.id then (if l.length = t.args.length then fitZ n l t.args m else (m,false)) else (m,false)
def fitZ (n:Int):List Ty → List Ty → TM → TM × Bool
 | [],_,m => (m,true)
 | x :: l,l',m => match l' with
  | [] => (m,false)
  | y :: l' => match fitM n x y m with
   | (m',true) => fitZ n l l' m'
   | (m',false) => (m',false)
end
def fitP (n:Int) (p t:Ty) (m:TM):TM × Bool:=if p.kind = 5 then (if p.id < 0 ∨ n ≤ p.id then (m,false) else match mget m p.id with
   | some x => (m,eqB x t)
   | none => (mset m p.id t,true))
  else if p.kind = t.kind ∧ p.id = t.id then (if p.args.length = t.args.length then fitZ n p.args t.args m else (m,false)) else (m,false)
theorem fitM_eq (n:Int) (p t:Ty) (m:TM):fitM n p t m = fitP n p t m:=by
 cases p
 rw [fitM]
 rfl
abbrev F66 (n:Int):C:=.fn 66 [] [.own 1000 0,.pt [IC n] 0,.own 1001 0]
abbrev L66 (n:Int) (m:TM):List TO:=[.box 37 [F66 n],.box 101 [.mpr 1002],.map (mcs tyA m)]
abbrev Ok66 (n:Int) (p t:Ty) (m:TM) (r:TM × Bool):Prop:=CallsT P 66 [tyA p,tyA t,.own 1000 0,.pt [IC n] 0,.own 1001 0] (L66 n m) (Ret (L66 n r.1) (.bool r.2))
abbrev Ok67 (n:Int) (a b:List Ty) (m:TM) (r:TM × Bool):Prop:=CallsT P 67 [.sl (a.map tyC),.sl (b.map tyC),F66 n] (L66 n m) (Ret (L66 n r.1) (.bool r.2))
theorem t67m (n:Int) (a b:List Ty) (m:TM) (f:Ty → Ty → TM → TM × Bool) (fz:List Ty → List Ty → TM → TM × Bool) (hz0:∀ l m,fz [] l m = (m,true)) (hz:∀ x l y l' m,fz (x :: l) (y :: l') m = match f x y m with
   | (m',true) => fz l l' m'
   | (m',false) => (m',false)) (ih:∀ x ∈ a,∀ y m,Ok66 n x y m (f x y m)):Ok67 n a b m (if a.length = b.length then fz a b m else (m,false)):=by
 have ha:(a.map tyC).length = a.length:=by simp
 have hb:(b.map tyC).length = b.length:=by simp
 by_cases hab:a.length = b.length
 ·rw [if_pos hab]
  generalize hr:fz a b m = r
  refine callsT_facts Try.func67 facts67 rfl fun hw _ => ?_
  have hm:a.length ≤ 9223372036854775807:=by have:=wf_len hw.1; rwa [ha] at this
  refine brn_n (fun hn => absurd (by rw [ha,hb,hab]) hn) (fun hn => ?_)
  refine loopN a.length 17 [] m (fun _ => []) (fun m => [(1000,.box 37 [F66 n]),(1001,.box 101 [.mpr 1002]),(1002,.map (mcs tyA m))]) (fun k m => fz (a.drop k) (b.drop k) m = r) hr (same_keys rfl) trivial
   ⟨.inl ⟨_,rfl,.inl ⟨rfl,rfl⟩⟩,.inl ⟨_,rfl,.inl ⟨rfl,rfl⟩⟩,.inl ⟨_,rfl,.inl ⟨rfl,rfl⟩⟩,trivial⟩ (fun _ => rfl) (fun _ => rfl) ?_
  rintro k m hk hinv _ _ _
  refine brn_p (fun hlt => ?_) (fun hge => ?_)
  ·have hlt:k < a.length:=by rw [ha] at hlt; omega
   refine withDrop hlt fun x hx hxm hda => ?_
   refine withDrop (l:=b) (k:=k) (by omega) fun y hy _ hdb => ?_
   have hinv:=hinv
   rw [hda,hdb,hz] at hinv
   refine idxTy hx ?_
   refine idxTy hy ?_
   refine callO [1000,1001,1002] [1000,1001,1002] (ih x hxm y m) rfl rfl rfl rfl rfl fun _ _ => ?_
   generalize f x y m = q at hinv
   obtain ⟨m',q⟩:=q
   cases q
   ·exact retO [1000,1001,1002] rfl rfl (by rw [← hinv]; rfl) (by rw [← hinv]; rfl)
   ·refine Fit.in64 (by omega) (by omega) ?_
    exact ⟨(k + 1,m'),⟨hlt,hinv⟩,⟨nextI,trivial⟩,⟨.inl ⟨_,rfl,.inl ⟨rfl,rfl⟩⟩,.inl ⟨_,rfl,.inl ⟨rfl,rfl⟩⟩,.inl ⟨_,rfl,.inl ⟨rfl,rfl⟩⟩,trivial⟩,nextM hlt⟩
  ·have hge:¬ k < a.length:=by rw [ha] at hge; omega
   have hinv:=hinv
   rw [drop_end hge,hz0] at hinv
   exact retO [1000,1001,1002] rfl rfl (by rw [← hinv]; rfl) (by rw [← hinv]; rfl)
 ·rw [if_neg hab]
  refine callsT_facts Try.func67 facts67 rfl fun hw _ => ?_
  refine brn_n (fun hn => ?_) (fun hn => absurd (by rw [ha,hb] at hn; omega) hab)
  exact retO [1000,1001,1002] rfl rfl rfl rfl
theorem t66n (n:Int) (p t:Ty) (m:TM) (r:TM × Bool) (h5:¬ p.kind = 5) (h1:p.kind = t.kind) (h2:p.id = t.id) (h:Ok67 n p.args t.args m r):Ok66 n p t m r:=by
 refine callsT_facts Try.func66 facts66 rfl fun hw _ => ?_
 refine brn_n (fun _ => ?_) (fun q => absurd q h5)
 refine brn_p (fun _ => ?_) (fun q => absurd h1 q)
 refine brn_p (fun _ => ?_) (fun q => absurd h2 q)
 refine callO [1000,1001,1002] [1000,1001,1002] h rfl rfl rfl rfl rfl fun _ _ => ?_
 exact retO [1000,1001,1002] rfl rfl rfl rfl
theorem t66f (n:Int) (p t:Ty) (m:TM) (h5:¬ p.kind = 5) (h1:¬ (p.kind = t.kind ∧ p.id = t.id)):Ok66 n p t m (m,false):=by
 refine callsT_facts Try.func66 facts66 rfl fun hw _ => ?_
 refine brn_n (fun _ => ?_) (fun q => absurd q h5)
 refine brn_p (fun h3 => brn_p (fun h4 => absurd ⟨h3,h4⟩ h1) (fun _ => ?_)) (fun _ => ?_)
 all_goals exact retO [1000,1001,1002] rfl rfl rfl rfl
theorem t66o (n:Int) (p t:Ty) (m:TM) (h5:p.kind = 5) (h1:p.id < 0 ∨ n ≤ p.id):Ok66 n p t m (m,false):=by
 refine callsT_facts Try.func66 facts66 rfl fun hw _ => ?_
 refine brn_n (fun q => absurd h5 q) (fun _ => ?_)
 refine brn_p (fun h3 => ?_) (fun h3 => brn_p (fun _ => ?_) (fun h4 => absurd h1 (by omega)))
 all_goals exact retO [1000,1001,1002] rfl rfl rfl rfl
theorem t66y (n:Int) (p t x:Ty) (m:TM) (h5:p.kind = 5) (h1:¬ (p.id < 0 ∨ n ≤ p.id)) (hx:mget m p.id = some x):Ok66 n p t m (m,eqB x t):=by
 have h68:=t68 x t
 rw [EqOk,tru_eqB] at h68
 generalize eqB x t = b at h68 ⊢
 refine callsT_facts Try.func66 facts66 rfl fun hw _ => ?_
 refine brn_n (fun q => absurd h5 q) (fun _ => ?_)
 refine brn_p (fun h3 => absurd (Or.inl h3) h1) (fun h3 => brn_p (fun h4 => absurd (Or.inr h4) h1) (fun h4 => ?_))
 refine lookY hx ?_
 refine callP h68 rfl fun _ => ?_
 exact retO [1000,1001,1002] rfl rfl rfl rfl
theorem t66s (n:Int) (p t:Ty) (m:TM) (h5:p.kind = 5) (h1:¬ (p.id < 0 ∨ n ≤ p.id)) (hx:mget m p.id = none):Ok66 n p t m (mset m p.id t,true):=by
 refine callsT_facts Try.func66 facts66 rfl fun hw _ => ?_
 refine brn_n (fun q => absurd h5 q) (fun _ => ?_)
 refine brn_p (fun h3 => absurd (Or.inl h3) h1) (fun h3 => brn_p (fun h4 => absurd (Or.inr h4) h1) (fun h4 => ?_))
 refine lookN hx ?_
 refine updM (x:=t) rfl ?_
 exact retO [1000,1001,1002] rfl rfl rfl rfl
theorem t66 (n:Int):∀ (p t:Ty) (m:TM),Ok66 n p t m (fitM n p t m):=fun p => tyInd (p:=fun p => ∀ (t:Ty) (m:TM),Ok66 n p t m (fitM n p t m)) (fun p ih t m => by
 rw [fitM_eq,fitP]
 by_cases h5:p.kind = 5
 ·rw [if_pos h5]
  by_cases h1:p.id < 0 ∨ n ≤ p.id
  ·rw [if_pos h1]; exact t66o n p t m h5 h1
  rw [if_neg h1]
  cases hx:mget m p.id with
  | none => exact t66s n p t m h5 h1 hx
  | some x => exact t66y n p t x m h5 h1 hx
 ·rw [if_neg h5]
  by_cases h1:p.kind = t.kind ∧ p.id = t.id
  ·rw [if_pos h1]
   refine t66n n p t m _ h5 h1.1 h1.2 ?_
   exact t67m n p.args t.args m (fitM n) (fitZ n) (fun l m => by rw [fitZ]) (fun x l y l' m => by rw [fitZ]) ih
  ·rw [if_neg h1]; exact t66f n p t m h5 h1) p
def elemT (s:List Ty) (t:Ty):Option Ty:=if t.id < 0 then none else s[t.id.toNat]?
theorem elemT_some {s:List Ty} {t x:Ty} (h:elemT s t = some x):0 ≤ t.id ∧ s[t.id.toNat]? = some x ∧ t.id.toNat < s.length:=by
 unfold elemT at h
 split at h
 ·cases h
 ·exact ⟨by omega,h,(List.getElem?_eq_some_iff.1 h).1⟩
theorem elemT_of {s:List Ty} {t:Ty} (h0:0 ≤ t.id) (h1:t.id < s.length):∃ x,elemT s t = some x ∧ x ∈ s:=by
 unfold elemT
 rw [if_neg (by omega)]
 exact ⟨s[t.id.toNat]'(by omega),List.getElem?_eq_getElem _,List.getElem_mem _⟩
def frontF (s:List Ty):Nat → Ty → Option Ty
 | 0,_ => none
 | n + 1,t => if t.kind = 9 then (match elemT s t with
   | none => none
   | some x => if x.kind = 0 then some t else frontF s n x) else some t
def anyO (f:Ty → Option Bool):List Ty → Option Bool
 | [] => some false
 | x :: l => match f x,anyO f l with
  | some a,some b => some (a || b)
  | _,_ => none
def occF (s:List Ty) (v:Int):Nat → Ty → Option Bool
 | 0,_ => none
 | n + 1,t => match frontF s n t with
  | none => none
  | some t' => if t'.kind = 9 then some (decide (t'.id = v)) else anyO (occF s v n) t'.args
def eqLF (f:List Ty → Ty → Ty → Option (Option (List Ty))):List Ty → List Ty → List Ty → Option (Option (List Ty))
 | s,[],_ => some (some s)
 | s,x :: l,l' => match l' with
  | [] => none
  | y :: l' => match f s x y with
   | some (some s') => eqLF f s' l l'
   | some none => some none
   | none => none
def eqF:Nat → List Ty → Ty → Ty → Option (Option (List Ty))
 | 0,_,_,_ => none
 | n + 1,s,a,b => match frontF s n a,frontF s n b with
  | some a,some b =>
   if a.kind = 9 ∧ b.kind = 9 then (if a.id = b.id then some (some s) else some (some (s.set (max a.id b.id).toNat (.mk 9 (min a.id b.id) []))))
   else if a.kind = 9 then (match occF s a.id n b with
    | none => none
    | some true => some none
    | some false => some (some (s.set a.id.toNat b)))
   else if b.kind = 9 then eqF n s b a
   else if a.kind ≠ b.kind ∨ a.id ≠ b.id ∨ a.args.length ≠ b.args.length then some none
   else eqLF (eqF n) s a.args b.args
  | _,_ => none
def w64 (n:Int):Int:=IntKind.i64.wrap n
abbrev DM:=List (Int × Int)
abbrev OM:=List (Int × Bool)
def deepL (f:Ty → DM → OM → Option (Option (Int × DM × OM))):List Ty → Int → DM → OM → Option (Option (Int × DM × OM))
 | [],k,d,o => some (some (k,d,o))
 | x :: l,k,d,o => match f x d o with
  | some (some (k',d',o')) => deepL f l (if k' > k then k' else k) d' o'
  | some none => some none
  | none => none
def deepF (s:List Ty):Nat → Ty → DM → OM → Option (Option (Int × DM × OM))
 | 0,_,_,_ => none
 | n + 1,t,d,o =>
  match (if t.kind = 9 then elemT s t else some (.mk 0 0 [])) with
  | none => none
  | some x => if x.kind ≠ 0 then (match mget d t.id with
    | some k => some (some (k,d,o))
    | none => match mget o t.id with
     | some true => some none
     | _ => match deepF s n x d (mset o t.id true) with
      | some (some (k,d',o')) => some (some (k,mset d' t.id k,o'))
      | some none => some none
      | none => none)
   else match deepL (deepF s n) t.args 0 d o with
    | some (some (k,d',o')) => some (some (w64 (k + 1),d',o'))
    | some none => some none
    | none => none
def mapO (f:Ty → Option Ty):List Ty → Option (List Ty)
 | [] => some []
 | x :: l => match f x,mapO f l with
  | some y,some l' => some (y :: l')
  | _,_ => none
def apF (s:List Ty):Nat → Ty → Option Ty
 | 0,_ => none
 | n + 1,t => match (if t.kind = 9 then elemT s t else some (.mk 0 0 [])) with
  | none => none
  | some x => if x.kind ≠ 0 then apF s n x else match mapO (apF s n) t.args with
   | some l => some (.mk t.kind t.id l)
   | none => none
abbrev SU (s:List Ty) (D O:List (C × C)):List TO:=[.box 93 [.rw 1001,.mpr 1002,.mpr 1003],.row 32 3 (s.map tyC),.map D,.map O]
abbrev SF (s:List Ty) (D O:List (C × C)):List TO:=[.box 93 [.sl (s.map tyC),.mpr 1001,.mpr 1002],.map D,.map O]
abbrev SO (k:Nat) (D O:List (C × C)):List TO:=[.box 93 [.opq k,.mpr 1001,.mpr 1002],.map D,.map O]
abbrev SU0 (s:List Ty):List TO:=[.box 93 [.rw 1001,.any,.any],.row 32 3 (s.map tyC)]
abbrev SF0 (s:List Ty):List TO:=[.box 93 [.sl (s.map tyC),.any,.any]]
theorem ins_any (n:Int) (t:Ty):ins n t = if t.kind < 1 ∨ 9 < t.kind then false else if t.kind = 9 then decide (0 ≤ t.id) && decide (t.id < n) && decide (t.args.length = 0) else !t.args.any fun x => !ins n x:=by
 rw [ins_eq]
 congr 1
 congr 1
 rw [List.all_eq_not_any_not]
theorem t92_iU (s:List Ty) (D O:List (C × C)) (l:List Ty) (q:Ty → Bool) (h:∀ x ∈ l,CallsT P 94 [tyA x,.own 1000 0] [.box 89 [.own 1001 0],.box 93 [.rw 1002,.mpr 1003,.mpr 1004],.row 32 3 (s.map tyC),.map D,.map O] (Ret [.box 89 [.own 1001 0],.box 93 [.rw 1002,.mpr 1003,.mpr 1004],.row 32 3 (s.map tyC),.map D,.map O] (.bool (q x)))) :
  CallsT P 92 [.sl (l.map tyC),.fn 94 [] [.own 1000 0]] [.box 89 [.own 1001 0],.box 93 [.rw 1002,.mpr 1003,.mpr 1004],.row 32 3 (s.map tyC),.map D,.map O] (Ret [.box 89 [.own 1001 0],.box 93 [.rw 1002,.mpr 1003,.mpr 1004],.row 32 3 (s.map tyC),.map D,.map O] (IC (fidx q l 0))):=by
 have hlm:(l.map tyC).length = l.length:=List.length_map _
 refine callsT_facts Try.func92 facts92 rfl fun hw _ => ?_
 have hlen:l.length ≤ 9223372036854775807:=wf_lenT hw.1
 refine loopN l.length 8 [] () (fun _ => []) (fun _ => [(1000,.box 89 [.own 1001 0]),(1001,.box 93 [.rw 1002,.mpr 1003,.mpr 1004]),(1002,.row 32 3 (s.map tyC)),(1003,.map D),(1004,.map O)]) (fun k _ => fidx q (l.drop k) k = fidx q l 0) rfl (same_keys rfl) trivial ⟨.inl ⟨_,rfl,.inl ⟨rfl,rfl⟩⟩,.inl ⟨_,rfl,.inl ⟨rfl,rfl⟩⟩,.inl ⟨_,rfl,.inl ⟨rfl,rfl⟩⟩,.inl ⟨_,rfl,.inl ⟨rfl,rfl⟩⟩,.inl ⟨_,rfl,.inl ⟨rfl,rfl⟩⟩,trivial⟩ (fun _ => rfl) (fun _ => rfl) ?_
 rintro k _ hk hinv _ _ _
 refine brn_p (fun hlt => ?_) (fun hge => ?_)
 ·have hlt:k < l.length:=by rw [hlm] at hlt; omega
  refine withDrop hlt fun x hx hxm hdr => ?_
  refine idxTy hx ?_
  refine callO [1000,1001,1002,1003,1004] [1000,1001,1002,1003,1004] (h x hxm) rfl rfl rfl rfl rfl fun _ _ => ?_
  refine brn_split (fun hq => ?_) (fun hq => ?_)
  ·exact retO [1000,1001,1002,1003,1004] rfl rfl rfl (congrArg IC (fidx_yes hdr hinv hq))
  ·refine Fit.in64 (by omega) (by omega) ?_
   exact ⟨(k + 1,()),⟨hlt,fidx_no hdr hinv hq⟩,⟨nextI,trivial⟩,⟨.inl ⟨_,rfl,.inl ⟨rfl,rfl⟩⟩,.inl ⟨_,rfl,.inl ⟨rfl,rfl⟩⟩,.inl ⟨_,rfl,.inl ⟨rfl,rfl⟩⟩,.inl ⟨_,rfl,.inl ⟨rfl,rfl⟩⟩,.inl ⟨_,rfl,.inl ⟨rfl,rfl⟩⟩,trivial⟩,nextM hlt⟩
 ·have hge:¬ k < l.length:=by rw [hlm] at hge; omega
  exact retO [1000,1001,1002,1003,1004] rfl rfl rfl (congrArg IC (fidx_end hge hinv))
theorem t49_iU (s:List Ty) (D O:List (C × C)) (l:List Ty) (q:Ty → Bool) (h:∀ x ∈ l,CallsT P 94 [tyA x,.own 1000 0] [.box 89 [.own 1001 0],.box 93 [.rw 1002,.mpr 1003,.mpr 1004],.row 32 3 (s.map tyC),.map D,.map O] (Ret [.box 89 [.own 1001 0],.box 93 [.rw 1002,.mpr 1003,.mpr 1004],.row 32 3 (s.map tyC),.map D,.map O] (.bool (q x)))) :
  CallsT P 49 [.sl (l.map tyC),.fn 94 [] [.own 1000 0]] [.box 89 [.own 1001 0],.box 93 [.rw 1002,.mpr 1003,.mpr 1004],.row 32 3 (s.map tyC),.map D,.map O] (Ret [.box 89 [.own 1001 0],.box 93 [.rw 1002,.mpr 1003,.mpr 1004],.row 32 3 (s.map tyC),.map D,.map O] (.bool (l.any q))):=by
 have h92:=t92_iU s D O l q h
 have e:=fidx_any q l
 generalize fidx q l 0 = n at h92 e
 refine callsT_facts Try.func49 facts49 rfl fun hw _ => ?_
 refine callO [1000,1001,1002,1003,1004] [1000,1001,1002,1003,1004] h92 rfl rfl rfl rfl rfl fun _ _ => ?_
 exact retO [1000,1001,1002,1003,1004] rfl rfl rfl (congrArg C.bool e)
theorem t94_U (s:List Ty) (D O:List (C × C)) (x:Ty) (b:Bool) (h:CallsT P 59 [.own 1000 0,tyA x] (SU s D O) (Ret (SU s D O) (.bool b))) :
  CallsT P 94 [tyA x,.own 1000 0] [.box 89 [.own 1001 0],.box 93 [.rw 1002,.mpr 1003,.mpr 1004],.row 32 3 (s.map tyC),.map D,.map O] (Ret [.box 89 [.own 1001 0],.box 93 [.rw 1002,.mpr 1003,.mpr 1004],.row 32 3 (s.map tyC),.map D,.map O] (.bool (!b))):=by
 refine callsT_facts Try.func94 facts94 rfl fun hw _ => ?_
 refine callO [1001,1002,1003,1004] [1001,1002,1003,1004] h rfl rfl rfl rfl rfl fun _ _ => ?_
 exact retO [1000,1001,1002,1003,1004] rfl rfl rfl rfl
theorem t59_U (s:List Ty) (D O:List (C × C)):∀ t:Ty,CallsT P 59 [.own 1000 0,tyA t] (SU s D O) (Ret (SU s D O) (.bool (ins s.length t))):=tyInd fun t ih => by
 have h49:=t49_iU s D O t.args (fun x => !ins s.length x) fun x hx => t94_U s D O x _ (ih x hx)
 rw [ins_any]
 generalize (t.args.any fun x => !ins s.length x) = b at h49 ⊢
 have hsm:(s.map tyC).length = s.length:=List.length_map _
 have hlm:(t.args.map tyC).length = t.args.length:=List.length_map _
 refine callsT_facts Try.func59 facts59 rfl fun hw _ => ?_
 refine brn_p (fun h1 => ?_) (fun h1 => ?_)
 ·exact retO [1000,1001,1002,1003] rfl rfl rfl (congrArg C.bool (by rw [if_pos (Or.inl h1)]))
 refine brn_p (fun h2 => ?_) (fun h2 => ?_)
 ·exact retO [1000,1001,1002,1003] rfl rfl rfl (congrArg C.bool (by rw [if_pos (Or.inr h2)]))
 have h12:¬ (t.kind < 1 ∨ 9 < t.kind):=fun q => q.elim (fun q => h1 q) (fun q => h2 q)
 refine brn_p (fun h3 => ?_) (fun h3 => ?_)
 ·refine brn_p (fun h4 => ?_) (fun h4 => ?_)
  ·skip
   refine brn_p (fun h5 => ?_) (fun h5 => ?_)
   ·exact retO [1000,1001,1002,1003] rfl rfl rfl (congrArg C.bool (by rw [if_neg h12,if_pos h3,decide_eq_true (show (0:Int) ≤ t.id from h4),decide_eq_true (show t.id < (s.length:Int) from by rw [hsm] at h5; exact h5),Bool.true_and,Bool.true_and]; exact decide_eq_decide.2 (by rw [hlm]; omega)))
   ·exact retO [1000,1001,1002,1003] rfl rfl rfl (congrArg C.bool (by rw [if_neg h12,if_pos h3,decide_eq_false (show ¬ t.id < (s.length:Int) from by rw [hsm] at h5; exact h5),Bool.and_false,Bool.false_and]))
  ·exact retO [1000,1001,1002,1003] rfl rfl rfl (congrArg C.bool (by rw [if_neg h12,if_pos h3,decide_eq_false (show ¬ (0:Int) ≤ t.id from h4),Bool.false_and,Bool.false_and]))
 refine callO [2,1000,1001,1002,1003] [2,1000,1001,1002,1003] h49 rfl rfl rfl rfl rfl fun _ _ => ?_
 exact retO [1000,1001,1002,1003] rfl rfl rfl (congrArg C.bool (by rw [if_neg h12,if_neg h3]))
theorem t92_iF (s:List Ty) (D O:List (C × C)) (l:List Ty) (q:Ty → Bool) (h:∀ x ∈ l,CallsT P 94 [tyA x,.own 1000 0] [.box 89 [.own 1001 0],.box 93 [.sl (s.map tyC),.mpr 1002,.mpr 1003],.map D,.map O] (Ret [.box 89 [.own 1001 0],.box 93 [.sl (s.map tyC),.mpr 1002,.mpr 1003],.map D,.map O] (.bool (q x)))) :
  CallsT P 92 [.sl (l.map tyC),.fn 94 [] [.own 1000 0]] [.box 89 [.own 1001 0],.box 93 [.sl (s.map tyC),.mpr 1002,.mpr 1003],.map D,.map O] (Ret [.box 89 [.own 1001 0],.box 93 [.sl (s.map tyC),.mpr 1002,.mpr 1003],.map D,.map O] (IC (fidx q l 0))):=by
 have hlm:(l.map tyC).length = l.length:=List.length_map _
 refine callsT_facts Try.func92 facts92 rfl fun hw _ => ?_
 have hlen:l.length ≤ 9223372036854775807:=wf_lenT hw.1
 refine loopN l.length 8 [] () (fun _ => []) (fun _ => [(1000,.box 89 [.own 1001 0]),(1001,.box 93 [.sl (s.map tyC),.mpr 1002,.mpr 1003]),(1002,.map D),(1003,.map O)]) (fun k _ => fidx q (l.drop k) k = fidx q l 0) rfl (same_keys rfl) trivial ⟨.inl ⟨_,rfl,.inl ⟨rfl,rfl⟩⟩,.inl ⟨_,rfl,.inl ⟨rfl,rfl⟩⟩,.inl ⟨_,rfl,.inl ⟨rfl,rfl⟩⟩,.inl ⟨_,rfl,.inl ⟨rfl,rfl⟩⟩,trivial⟩ (fun _ => rfl) (fun _ => rfl) ?_
 rintro k _ hk hinv _ _ _
 refine brn_p (fun hlt => ?_) (fun hge => ?_)
 ·have hlt:k < l.length:=by rw [hlm] at hlt; omega
  refine withDrop hlt fun x hx hxm hdr => ?_
  refine idxTy hx ?_
  refine callO [1000,1001,1002,1003] [1000,1001,1002,1003] (h x hxm) rfl rfl rfl rfl rfl fun _ _ => ?_
  refine brn_split (fun hq => ?_) (fun hq => ?_)
  ·exact retO [1000,1001,1002,1003] rfl rfl rfl (congrArg IC (fidx_yes hdr hinv hq))
  ·refine Fit.in64 (by omega) (by omega) ?_
   exact ⟨(k + 1,()),⟨hlt,fidx_no hdr hinv hq⟩,⟨nextI,trivial⟩,⟨.inl ⟨_,rfl,.inl ⟨rfl,rfl⟩⟩,.inl ⟨_,rfl,.inl ⟨rfl,rfl⟩⟩,.inl ⟨_,rfl,.inl ⟨rfl,rfl⟩⟩,.inl ⟨_,rfl,.inl ⟨rfl,rfl⟩⟩,trivial⟩,nextM hlt⟩
 ·have hge:¬ k < l.length:=by rw [hlm] at hge; omega
  exact retO [1000,1001,1002,1003] rfl rfl rfl (congrArg IC (fidx_end hge hinv))
theorem t49_iF (s:List Ty) (D O:List (C × C)) (l:List Ty) (q:Ty → Bool) (h:∀ x ∈ l,CallsT P 94 [tyA x,.own 1000 0] [.box 89 [.own 1001 0],.box 93 [.sl (s.map tyC),.mpr 1002,.mpr 1003],.map D,.map O] (Ret [.box 89 [.own 1001 0],.box 93 [.sl (s.map tyC),.mpr 1002,.mpr 1003],.map D,.map O] (.bool (q x)))) :
  CallsT P 49 [.sl (l.map tyC),.fn 94 [] [.own 1000 0]] [.box 89 [.own 1001 0],.box 93 [.sl (s.map tyC),.mpr 1002,.mpr 1003],.map D,.map O] (Ret [.box 89 [.own 1001 0],.box 93 [.sl (s.map tyC),.mpr 1002,.mpr 1003],.map D,.map O] (.bool (l.any q))):=by
 have h92:=t92_iF s D O l q h
 have e:=fidx_any q l
 generalize fidx q l 0 = n at h92 e
 refine callsT_facts Try.func49 facts49 rfl fun hw _ => ?_
 refine callO [1000,1001,1002,1003] [1000,1001,1002,1003] h92 rfl rfl rfl rfl rfl fun _ _ => ?_
 exact retO [1000,1001,1002,1003] rfl rfl rfl (congrArg C.bool e)
theorem t94_F (s:List Ty) (D O:List (C × C)) (x:Ty) (b:Bool) (h:CallsT P 59 [.own 1000 0,tyA x] (SF s D O) (Ret (SF s D O) (.bool b))) :
  CallsT P 94 [tyA x,.own 1000 0] [.box 89 [.own 1001 0],.box 93 [.sl (s.map tyC),.mpr 1002,.mpr 1003],.map D,.map O] (Ret [.box 89 [.own 1001 0],.box 93 [.sl (s.map tyC),.mpr 1002,.mpr 1003],.map D,.map O] (.bool (!b))):=by
 refine callsT_facts Try.func94 facts94 rfl fun hw _ => ?_
 refine callO [1001,1002,1003] [1001,1002,1003] h rfl rfl rfl rfl rfl fun _ _ => ?_
 exact retO [1000,1001,1002,1003] rfl rfl rfl rfl
theorem t59_F (s:List Ty) (D O:List (C × C)):∀ t:Ty,CallsT P 59 [.own 1000 0,tyA t] (SF s D O) (Ret (SF s D O) (.bool (ins s.length t))):=tyInd fun t ih => by
 have h49:=t49_iF s D O t.args (fun x => !ins s.length x) fun x hx => t94_F s D O x _ (ih x hx)
 rw [ins_any]
 generalize (t.args.any fun x => !ins s.length x) = b at h49 ⊢
 have hsm:(s.map tyC).length = s.length:=List.length_map _
 have hlm:(t.args.map tyC).length = t.args.length:=List.length_map _
 refine callsT_facts Try.func59 facts59 rfl fun hw _ => ?_
 refine brn_p (fun h1 => ?_) (fun h1 => ?_)
 ·exact retO [1000,1001,1002] rfl rfl rfl (congrArg C.bool (by rw [if_pos (Or.inl h1)]))
 refine brn_p (fun h2 => ?_) (fun h2 => ?_)
 ·exact retO [1000,1001,1002] rfl rfl rfl (congrArg C.bool (by rw [if_pos (Or.inr h2)]))
 have h12:¬ (t.kind < 1 ∨ 9 < t.kind):=fun q => q.elim (fun q => h1 q) (fun q => h2 q)
 refine brn_p (fun h3 => ?_) (fun h3 => ?_)
 ·refine brn_p (fun h4 => ?_) (fun h4 => ?_)
  ·skip
   refine brn_p (fun h5 => ?_) (fun h5 => ?_)
   ·exact retO [1000,1001,1002] rfl rfl rfl (congrArg C.bool (by rw [if_neg h12,if_pos h3,decide_eq_true (show (0:Int) ≤ t.id from h4),decide_eq_true (show t.id < (s.length:Int) from by rw [hsm] at h5; exact h5),Bool.true_and,Bool.true_and]; exact decide_eq_decide.2 (by rw [hlm]; omega)))
   ·exact retO [1000,1001,1002] rfl rfl rfl (congrArg C.bool (by rw [if_neg h12,if_pos h3,decide_eq_false (show ¬ t.id < (s.length:Int) from by rw [hsm] at h5; exact h5),Bool.and_false,Bool.false_and]))
  ·exact retO [1000,1001,1002] rfl rfl rfl (congrArg C.bool (by rw [if_neg h12,if_pos h3,decide_eq_false (show ¬ (0:Int) ≤ t.id from h4),Bool.false_and,Bool.false_and]))
 refine callO [2,1000,1001,1002] [2,1000,1001,1002] h49 rfl rfl rfl rfl rfl fun _ _ => ?_
 exact retO [1000,1001,1002] rfl rfl rfl (congrArg C.bool (by rw [if_neg h12,if_neg h3]))
theorem t92_iO (k n:Nat) (D O:List (C × C)) (l:List Ty) (q:Ty → Bool) (h:∀ x ∈ l,CallsT P 94 [tyA x,.own 1000 0] [.box 89 [.own 1001 0],.box 93 [.opq k,.mpr 1002,.mpr 1003],.map D,.map O] (Ret [.box 89 [.own 1001 0],.box 93 [.opq k,.mpr 1002,.mpr 1003],.map D,.map O] (.bool (q x)))) :
  CallsT P 92 [.sl (l.map tyC),.fn 94 [] [.own 1000 0]] [.box 89 [.own 1001 0],.box 93 [.opq k,.mpr 1002,.mpr 1003],.map D,.map O] (Ret [.box 89 [.own 1001 0],.box 93 [.opq k,.mpr 1002,.mpr 1003],.map D,.map O] (IC (fidx q l 0))):=by
 have hlm:(l.map tyC).length = l.length:=List.length_map _
 refine callsT_facts Try.func92 facts92 rfl fun hw _ => ?_
 have hlen:l.length ≤ 9223372036854775807:=wf_lenT hw.1
 refine loopN l.length 8 [] () (fun _ => []) (fun _ => [(1000,.box 89 [.own 1001 0]),(1001,.box 93 [.opq k,.mpr 1002,.mpr 1003]),(1002,.map D),(1003,.map O)]) (fun k _ => fidx q (l.drop k) k = fidx q l 0) rfl (same_keys rfl) trivial ⟨.inl ⟨_,rfl,.inl ⟨rfl,rfl⟩⟩,.inl ⟨_,rfl,.inl ⟨rfl,rfl⟩⟩,.inl ⟨_,rfl,.inl ⟨rfl,rfl⟩⟩,.inl ⟨_,rfl,.inl ⟨rfl,rfl⟩⟩,trivial⟩ (fun _ => rfl) (fun _ => rfl) ?_
 rintro k _ hk hinv _ _ _
 refine brn_p (fun hlt => ?_) (fun hge => ?_)
 ·have hlt:k < l.length:=by rw [hlm] at hlt; omega
  refine withDrop hlt fun x hx hxm hdr => ?_
  refine idxTy hx ?_
  refine callO [1000,1001,1002,1003] [1000,1001,1002,1003] (h x hxm) rfl rfl rfl rfl rfl fun _ _ => ?_
  refine brn_split (fun hq => ?_) (fun hq => ?_)
  ·exact retO [1000,1001,1002,1003] rfl rfl rfl (congrArg IC (fidx_yes hdr hinv hq))
  ·refine Fit.in64 (by omega) (by omega) ?_
   exact ⟨(k + 1,()),⟨hlt,fidx_no hdr hinv hq⟩,⟨nextI,trivial⟩,⟨.inl ⟨_,rfl,.inl ⟨rfl,rfl⟩⟩,.inl ⟨_,rfl,.inl ⟨rfl,rfl⟩⟩,.inl ⟨_,rfl,.inl ⟨rfl,rfl⟩⟩,.inl ⟨_,rfl,.inl ⟨rfl,rfl⟩⟩,trivial⟩,nextM hlt⟩
 ·have hge:¬ k < l.length:=by rw [hlm] at hge; omega
  exact retO [1000,1001,1002,1003] rfl rfl rfl (congrArg IC (fidx_end hge hinv))
theorem t49_iO (k n:Nat) (D O:List (C × C)) (l:List Ty) (q:Ty → Bool) (h:∀ x ∈ l,CallsT P 94 [tyA x,.own 1000 0] [.box 89 [.own 1001 0],.box 93 [.opq k,.mpr 1002,.mpr 1003],.map D,.map O] (Ret [.box 89 [.own 1001 0],.box 93 [.opq k,.mpr 1002,.mpr 1003],.map D,.map O] (.bool (q x)))) :
  CallsT P 49 [.sl (l.map tyC),.fn 94 [] [.own 1000 0]] [.box 89 [.own 1001 0],.box 93 [.opq k,.mpr 1002,.mpr 1003],.map D,.map O] (Ret [.box 89 [.own 1001 0],.box 93 [.opq k,.mpr 1002,.mpr 1003],.map D,.map O] (.bool (l.any q))):=by
 have h92:=t92_iO k n D O l q h
 have e:=fidx_any q l
 generalize fidx q l 0 = n at h92 e
 refine callsT_facts Try.func49 facts49 rfl fun hw _ => ?_
 refine callO [1000,1001,1002,1003] [1000,1001,1002,1003] h92 rfl rfl rfl rfl rfl fun _ _ => ?_
 exact retO [1000,1001,1002,1003] rfl rfl rfl (congrArg C.bool e)
theorem t94_O (k n:Nat) (D O:List (C × C)) (x:Ty) (b:Bool) (h:CallsT P 59 [.own 1000 0,tyA x] (SO k D O) (Ret (SO k D O) (.bool b))) :
  CallsT P 94 [tyA x,.own 1000 0] [.box 89 [.own 1001 0],.box 93 [.opq k,.mpr 1002,.mpr 1003],.map D,.map O] (Ret [.box 89 [.own 1001 0],.box 93 [.opq k,.mpr 1002,.mpr 1003],.map D,.map O] (.bool (!b))):=by
 refine callsT_facts Try.func94 facts94 rfl fun hw _ => ?_
 refine callO [1001,1002,1003] [1001,1002,1003] h rfl rfl rfl rfl rfl fun _ _ => ?_
 exact retO [1000,1001,1002,1003] rfl rfl rfl rfl
theorem t59_O (k n:Nat) (D O:List (C × C)) (hk:opqLen k = some n) (hn:n ≤ 9223372036854775807):∀ t:Ty,CallsT P 59 [.own 1000 0,tyA t] (SO k D O) (Ret (SO k D O) (.bool (ins n t))):=tyInd fun t ih => by
 have h49:=t49_iO k n D O t.args (fun x => !ins n x) fun x hx => t94_O k n D O x _ (ih x hx)
 rw [ins_any]
 generalize (t.args.any fun x => !ins n x) = b at h49 ⊢
 have hsm:n = n:=rfl
 have hlm:(t.args.map tyC).length = t.args.length:=List.length_map _
 refine callsT_facts Try.func59 facts59 rfl fun hw _ => ?_
 refine brn_p (fun h1 => ?_) (fun h1 => ?_)
 ·exact retO [1000,1001,1002] rfl rfl rfl (congrArg C.bool (by rw [if_pos (Or.inl h1)]))
 refine brn_p (fun h2 => ?_) (fun h2 => ?_)
 ·exact retO [1000,1001,1002] rfl rfl rfl (congrArg C.bool (by rw [if_pos (Or.inr h2)]))
 have h12:¬ (t.kind < 1 ∨ 9 < t.kind):=fun q => q.elim (fun q => h1 q) (fun q => h2 q)
 refine brn_p (fun h3 => ?_) (fun h3 => ?_)
 ·refine brn_p (fun h4 => ?_) (fun h4 => ?_)
  ·skip
   refine OpqLen.mk ⟨n,hk,hn,?_⟩
   refine brn_p (fun h5 => ?_) (fun h5 => ?_)
   ·exact retO [1000,1001,1002] rfl rfl rfl (congrArg C.bool (by rw [if_neg h12,if_pos h3,decide_eq_true (show (0:Int) ≤ t.id from h4),decide_eq_true (show t.id < (n:Int) from h5),Bool.true_and,Bool.true_and]; exact decide_eq_decide.2 (by rw [hlm]; omega)))
   ·exact retO [1000,1001,1002] rfl rfl rfl (congrArg C.bool (by rw [if_neg h12,if_pos h3,decide_eq_false (show ¬ t.id < (n:Int) from h5),Bool.and_false,Bool.false_and]))
  ·exact retO [1000,1001,1002] rfl rfl rfl (congrArg C.bool (by rw [if_neg h12,if_pos h3,decide_eq_false (show ¬ (0:Int) ≤ t.id from h4),Bool.false_and,Bool.false_and]))
 refine callO [2,1000,1001,1002] [2,1000,1001,1002] h49 rfl rfl rfl rfl rfl fun _ _ => ?_
 exact retO [1000,1001,1002] rfl rfl rfl (congrArg C.bool (by rw [if_neg h12,if_neg h3]))
theorem rowK {s:List Ty} {i:Nat} {x:Ty} {K:List C → Prop} (hx:s[i]? = some x) (h:K [IC x.kind]):RowT (s.map tyC) i 0 1 K :=
 ⟨[IC x.kind,IC x.id,.sl (x.args.map tyC)],by rw [List.getElem?_map,hx,Option.map_some,tyC_eq],rfl,h⟩
theorem rowA {s:List Ty} {i:Nat} {x:Ty} {K:List C → Prop} (hx:s[i]? = some x) (h:K [IC x.kind,IC x.id,.sl (x.args.map tyC)]):RowT (s.map tyC) i 0 3 K :=
 ⟨[IC x.kind,IC x.id,.sl (x.args.map tyC)],by rw [List.getElem?_map,hx,Option.map_some,tyC_eq],rfl,h⟩
theorem idxZ {s:List Ty} {z:Int} {x:Ty} {K:List C → Prop} (h0:0 ≤ z) (hx:s[z.toNat]? = some x) (h:K [IC x.kind,IC x.id,.sl (x.args.map tyC)]):IdxT (s.map tyC) z 3 K :=
 ⟨_,h0,by rw [List.getElem?_map,hx,Option.map_some,tyC_eq],rfl,h⟩
theorem lenZ {s:List Ty} {z:Int} {x:Ty} (h0:0 ≤ z) (hx:s[z.toNat]? = some x):z < ((s.map tyC).length:Int):=by
 have:=(List.getElem?_eq_some_iff.1 hx).1
 rw [List.length_map]
 omega
theorem front_step {s:List Ty} {n:Nat} {c r:Ty} (h:frontF s n c = some r):∃ m,n = m + 1 ∧ ((c.kind ≠ 9 ∧ r = c) ∨ (c.kind = 9 ∧ ∃ x,0 ≤ c.id ∧ s[c.id.toNat]? = some x ∧ ((x.kind = 0 ∧ r = c) ∨ (x.kind ≠ 0 ∧ frontF s m x = some r)))):=by
 cases n with
 | zero => cases h
 | succ m =>
  refine ⟨m,rfl,?_⟩
  rw [frontF] at h
  by_cases h9:c.kind = 9
  ·rw [if_pos h9] at h
   refine .inr ⟨h9,?_⟩
   cases he:elemT s c with
   | none => rw [he] at h; cases h
   | some x =>
    rw [he] at h
    obtain ⟨e1,e2,_⟩:=elemT_some he
    refine ⟨x,e1,e2,?_⟩
    by_cases h0:x.kind = 0
    ·refine .inl ⟨h0,?_⟩
     simp only [h0,if_pos] at h
     injection h with h; exact h.symm
    ·refine .inr ⟨h0,?_⟩
     simp only [h0,if_false] at h
     exact h
  ·rw [if_neg h9] at h
   injection h with h
   exact .inl ⟨h9,h.symm⟩
theorem t96_U (s:List Ty) (n:Nat) (t r:Ty) (h:frontF s n t = some r):CallsT P 96 [.own 1000 0,tyA t] (SU0 s) (Ret (SU0 s) (tyA r)):=by
 refine callsT_facts Try.func96 facts96 rfl fun hw _ => ?_
 refine LoopT.mk ⟨Nat × Ty,(n,t),fun x => frontF s x.1 x.2 = some r,[],fun _ => [],fun x => [(3,.box 32 [IC x.2.kind,IC x.2.id,.sl (x.2.args.map tyC)]),(4,.box 32 [IC 0,IC 0,.nils]),(1000,.box 93 [.rw 1001,.any,.any]),(1001,.row 32 3 (s.map tyC))],fun x => x.1,h,trivial,
  ⟨.inl ⟨_,rfl,.inl ⟨rfl,rfl⟩⟩,.inl ⟨_,rfl,.inl ⟨rfl,rfl⟩⟩,.inl ⟨_,rfl,.inl ⟨rfl,rfl⟩⟩,.inl ⟨_,rfl,.inl ⟨rfl,rfl⟩⟩,trivial⟩,fun _ => rfl,fun _ => rfl,?_⟩
 rintro ⟨n,c⟩ hinv _ _
 refine exE (front_step hinv) fun m hm => ?_
 refine brn_p (fun h9 => ?_) (fun h9 => ?_)
 ·refine exE (hm.2.resolve_left fun q => q.1 h9).2 fun x hh => ?_
  have h0:=hh.1
  have hx:=hh.2.1
  refine InB.mk (by simpa using h0) (lenZ h0 hx) ?_
  refine rowK hx ?_
  refine brn_n (fun hk => ?_) (fun hk => ?_)
  ·have hr:=hh.2.2.resolve_left fun q => hk q.1
   refine InB.mk (by simpa using h0) (lenZ h0 hx) ?_
   refine rowA hx ?_
   exact ⟨(m,x),hr.2,trivial,⟨.inl ⟨_,rfl,.inl ⟨rfl,rfl⟩⟩,.inl ⟨_,rfl,.inl ⟨rfl,rfl⟩⟩,.inl ⟨_,rfl,.inl ⟨rfl,rfl⟩⟩,.inl ⟨_,rfl,.inl ⟨rfl,rfl⟩⟩,trivial⟩,by have e:n = m + 1:=hm.1; show m < n; omega⟩
  ·have hr:=hh.2.2.resolve_right fun q => q.1 hk
   exact retO [1000,1001] rfl rfl rfl (by rw [hr.2]; rfl)
 ·have hr:=hm.2.resolve_right fun q => h9 q.1
  exact retO [1000,1001] rfl rfl rfl (by rw [hr.2]; rfl)
theorem t96_F (s:List Ty) (n:Nat) (t r:Ty) (h:frontF s n t = some r):CallsT P 96 [.own 1000 0,tyA t] (SF0 s) (Ret (SF0 s) (tyA r)):=by
 refine callsT_facts Try.func96 facts96 rfl fun hw _ => ?_
 refine LoopT.mk ⟨Nat × Ty,(n,t),fun x => frontF s x.1 x.2 = some r,[],fun _ => [],fun x => [(3,.box 32 [IC x.2.kind,IC x.2.id,.sl (x.2.args.map tyC)]),(4,.box 32 [IC 0,IC 0,.nils]),(1000,.box 93 [.sl (s.map tyC),.any,.any])],fun x => x.1,h,trivial,
  ⟨.inl ⟨_,rfl,.inl ⟨rfl,rfl⟩⟩,.inl ⟨_,rfl,.inl ⟨rfl,rfl⟩⟩,.inl ⟨_,rfl,.inl ⟨rfl,rfl⟩⟩,trivial⟩,fun _ => rfl,fun _ => rfl,?_⟩
 rintro ⟨n,c⟩ hinv _ _
 refine exE (front_step hinv) fun m hm => ?_
 refine brn_p (fun h9 => ?_) (fun h9 => ?_)
 ·refine exE (hm.2.resolve_left fun q => q.1 h9).2 fun x hh => ?_
  have h0:=hh.1
  have hx:=hh.2.1
  refine idxZ h0 hx ?_
  refine brn_n (fun hk => ?_) (fun hk => ?_)
  ·have hr:=hh.2.2.resolve_left fun q => hk q.1
   refine idxZ h0 hx ?_
   exact ⟨(m,x),hr.2,trivial,⟨.inl ⟨_,rfl,.inl ⟨rfl,rfl⟩⟩,.inl ⟨_,rfl,.inl ⟨rfl,rfl⟩⟩,.inl ⟨_,rfl,.inl ⟨rfl,rfl⟩⟩,trivial⟩,by have e:n = m + 1:=hm.1; show m < n; omega⟩
  ·have hr:=hh.2.2.resolve_right fun q => q.1 hk
   exact retO [1000] rfl rfl rfl (by rw [hr.2]; rfl)
 ·have hr:=hm.2.resolve_right fun q => h9 q.1
  exact retO [1000] rfl rfl rfl (by rw [hr.2]; rfl)
theorem t92_o (s:List Ty) (v:Int) (l:List Ty) (q:Ty → Bool) (h:∀ x ∈ l,CallsT P 113 [tyA x,.own 1000 0,.pt [IC v] 0] [.box 89 [.own 1001 0],.box 93 [.rw 1002,.any,.any],.row 32 3 (s.map tyC)] (Ret [.box 89 [.own 1001 0],.box 93 [.rw 1002,.any,.any],.row 32 3 (s.map tyC)] (.bool (q x)))) :
  CallsT P 92 [.sl (l.map tyC),.fn 113 [] [.own 1000 0,.pt [IC v] 0]] [.box 89 [.own 1001 0],.box 93 [.rw 1002,.any,.any],.row 32 3 (s.map tyC)] (Ret [.box 89 [.own 1001 0],.box 93 [.rw 1002,.any,.any],.row 32 3 (s.map tyC)] (IC (fidx q l 0))):=by
 have hlm:(l.map tyC).length = l.length:=List.length_map _
 refine callsT_facts Try.func92 facts92 rfl fun hw _ => ?_
 have hlen:l.length ≤ 9223372036854775807:=wf_lenT hw.1
 refine loopN l.length 8 [] () (fun _ => []) (fun _ => [(1000,.box 89 [.own 1001 0]),(1001,.box 93 [.rw 1002,.any,.any]),(1002,.row 32 3 (s.map tyC))]) (fun k _ => fidx q (l.drop k) k = fidx q l 0) rfl (same_keys rfl) trivial ⟨.inl ⟨_,rfl,.inl ⟨rfl,rfl⟩⟩,.inl ⟨_,rfl,.inl ⟨rfl,rfl⟩⟩,.inl ⟨_,rfl,.inl ⟨rfl,rfl⟩⟩,trivial⟩ (fun _ => rfl) (fun _ => rfl) ?_
 rintro k _ hk hinv _ _ _
 refine brn_p (fun hlt => ?_) (fun hge => ?_)
 ·have hlt:k < l.length:=by rw [hlm] at hlt; omega
  refine withDrop hlt fun x hx hxm hdr => ?_
  refine idxTy hx ?_
  refine callO [1000,1001,1002] [1000,1001,1002] (h x hxm) rfl rfl rfl rfl rfl fun _ _ => ?_
  refine brn_split (fun hq => ?_) (fun hq => ?_)
  ·exact retO [1000,1001,1002] rfl rfl rfl (congrArg IC (fidx_yes hdr hinv hq))
  ·refine Fit.in64 (by omega) (by omega) ?_
   exact ⟨(k + 1,()),⟨hlt,fidx_no hdr hinv hq⟩,⟨nextI,trivial⟩,⟨.inl ⟨_,rfl,.inl ⟨rfl,rfl⟩⟩,.inl ⟨_,rfl,.inl ⟨rfl,rfl⟩⟩,.inl ⟨_,rfl,.inl ⟨rfl,rfl⟩⟩,trivial⟩,nextM hlt⟩
 ·have hge:¬ k < l.length:=by rw [hlm] at hge; omega
  exact retO [1000,1001,1002] rfl rfl rfl (congrArg IC (fidx_end hge hinv))
theorem t49_o (s:List Ty) (v:Int) (l:List Ty) (q:Ty → Bool) (h:∀ x ∈ l,CallsT P 113 [tyA x,.own 1000 0,.pt [IC v] 0] [.box 89 [.own 1001 0],.box 93 [.rw 1002,.any,.any],.row 32 3 (s.map tyC)] (Ret [.box 89 [.own 1001 0],.box 93 [.rw 1002,.any,.any],.row 32 3 (s.map tyC)] (.bool (q x)))) :
  CallsT P 49 [.sl (l.map tyC),.fn 113 [] [.own 1000 0,.pt [IC v] 0]] [.box 89 [.own 1001 0],.box 93 [.rw 1002,.any,.any],.row 32 3 (s.map tyC)] (Ret [.box 89 [.own 1001 0],.box 93 [.rw 1002,.any,.any],.row 32 3 (s.map tyC)] (.bool (l.any q))):=by
 have h92:=t92_o s v l q h
 have e:=fidx_any q l
 generalize fidx q l 0 = n at h92 e
 refine callsT_facts Try.func49 facts49 rfl fun hw _ => ?_
 refine callO [1000,1001,1002] [1000,1001,1002] h92 rfl rfl rfl rfl rfl fun _ _ => ?_
 exact retO [1000,1001,1002] rfl rfl rfl (congrArg C.bool e)
theorem anyO_some {f:Ty → Option Bool}:∀ {l:List Ty} {b:Bool},anyO f l = some b → (∀ x ∈ l,f x = some ((f x).getD false)) ∧ l.any (fun x => (f x).getD false) = b
 | [],b,h => by
  rw [anyO] at h
  injection h with h
  exact ⟨by simp,by rw [← h]; rfl⟩
 | x :: l,b,h => by
  rw [anyO] at h
  cases hx:f x with
  | none => rw [hx] at h; cases h
  | some a =>
   rw [hx] at h
   cases hl:anyO f l with
   | none => rw [hl] at h; cases h
   | some b' =>
    rw [hl] at h
    injection h with h
    obtain ⟨i1,i2⟩:=anyO_some hl
    refine ⟨fun y hy => ?_,?_⟩
    ·rcases List.mem_cons.1 hy with rfl | hy
     ·rw [hx]; rfl
     ·exact i1 y hy
    ·rw [List.any_cons,i2,hx]; exact h
theorem t113 (s:List Ty) (v:Int) (x:Ty) (b:Bool) (h:CallsT P 97 [.own 1000 0,IC v,tyA x] (SU0 s) (Ret (SU0 s) (.bool b))) :
  CallsT P 113 [tyA x,.own 1000 0,.pt [IC v] 0] [.box 89 [.own 1001 0],.box 93 [.rw 1002,.any,.any],.row 32 3 (s.map tyC)] (Ret [.box 89 [.own 1001 0],.box 93 [.rw 1002,.any,.any],.row 32 3 (s.map tyC)] (.bool b)):=by
 refine callsT_facts Try.func113 facts113 rfl fun hw _ => ?_
 refine callO [1001,1002] [1001,1002] h rfl rfl rfl rfl rfl fun _ _ => ?_
 exact retO [1000,1001,1002] rfl rfl rfl rfl
theorem t97y (s:List Ty) (v:Int) (t r:Ty) (h:CallsT P 96 [.own 1000 0,tyA t] (SU0 s) (Ret (SU0 s) (tyA r))) (h9:r.kind = 9) :
  CallsT P 97 [.own 1000 0,IC v,tyA t] (SU0 s) (Ret (SU0 s) (.bool (decide (r.id = v)))):=by
 refine callsT_facts Try.func97 facts97 rfl fun hw _ => ?_
 refine callO [1000,1001] [1000,1001] h rfl rfl rfl rfl rfl fun _ _ => ?_
 refine brn_p (fun _ => ?_) (fun q => absurd h9 q)
 exact retO [1000,1001] rfl rfl rfl rfl
theorem t97n (s:List Ty) (v:Int) (t r:Ty) (b:Bool) (h:CallsT P 96 [.own 1000 0,tyA t] (SU0 s) (Ret (SU0 s) (tyA r))) (h9:¬ r.kind = 9)
  (h49:CallsT P 49 [.sl (r.args.map tyC),.fn 113 [] [.own 1000 0,.pt [IC v] 0]] [.box 89 [.own 1001 0],.box 93 [.rw 1002,.any,.any],.row 32 3 (s.map tyC)] (Ret [.box 89 [.own 1001 0],.box 93 [.rw 1002,.any,.any],.row 32 3 (s.map tyC)] (.bool b))) :
  CallsT P 97 [.own 1000 0,IC v,tyA t] (SU0 s) (Ret (SU0 s) (.bool b)):=by
 refine callsT_facts Try.func97 facts97 rfl fun hw _ => ?_
 refine callO [1000,1001] [1000,1001] h rfl rfl rfl rfl rfl fun _ _ => ?_
 refine brn_p (fun q => absurd q h9) (fun _ => ?_)
 refine callO [3,1000,1001] [3,1000,1001] h49 rfl rfl rfl rfl rfl fun _ _ => ?_
 exact retO [1000,1001] rfl rfl rfl rfl
theorem t97 (s:List Ty) (v:Int):∀ (n:Nat) (t:Ty) (b:Bool),occF s v n t = some b → CallsT P 97 [.own 1000 0,IC v,tyA t] (SU0 s) (Ret (SU0 s) (.bool b))
 | 0,t,b,h => by cases h
 | n + 1,t,b,h => by
  rw [occF] at h
  cases hf:frontF s n t with
  | none => rw [hf] at h; cases h
  | some r =>
   simp only [hf] at h
   by_cases h9:r.kind = 9
   ·rw [if_pos h9] at h
    injection h with h
    rw [← h]
    exact t97y s v t r (t96_U s n t r hf) h9
   ·rw [if_neg h9] at h
    obtain ⟨h1,h2⟩:=anyO_some h
    have h49:=t49_o s v r.args (fun x => (occF s v n x).getD false) fun x hx => t113 s v x _ (t97 s v n x _ (h1 x hx))
    rw [h2] at h49
    exact t97n s v t r b (t96_U s n t r hf) h9 h49
section
variable {P:Program} {L:TL} {ρ:TEnv}
theorem retR {R:List TO → C → Prop} (ko:List Nat) {Lin Mo Lo:List TO} {v x:C} (hs:L.sub ko = some Mo) (hc:(T.nodup? ko && boxesAt Lin (List.range' 1000 Lin.length) ko) = true) (hl:Mo.map (TO.mapC (C.ren (toIn ko 1000))) = Lo) (e:v.canR.ren (toIn ko 1000) = x) (h:R Lo x):RetT Lin L v R:=by
 simp only [Bool.and_eq_true] at hc
 exact ⟨[],ko,L,v,v,Mo,rfl,.inl ⟨rfl,rfl⟩,hs,hc.1,hc.2,fun _ => by rw [hl,e]; exact h⟩
theorem CallsX.imp {P:Program} {f:FuncId} {args:Array Value} {F:Frz} {Lin:List Own} {R R':Frz → List Own → Value → Prop} {Pp Pp':Value → Prop} (h:CallsX P f args F Lin R Pp)
  (hm:∀ F G L v,F.le G → R' F L v → R' G L v) (hk:∀ F L v,R F L v → R' F L v) (hp:∀ v,Pp v → Pp' v):CallsX P f args F Lin R' Pp' :=
 ⟨h.ent,hm,fun w hs => (h.run w hs).mono fun e w' k => by
  rcases k with ⟨v,F',Lo,h1,h2,h3,h4⟩ | ⟨v,ch,F',Lo,h1,hc,h2,h3,h4,h5,h6⟩
  ·exact .inl ⟨v,F',Lo,h1,h2,h3,hk _ _ _ h4⟩
  ·exact .inr ⟨v,ch,F',Lo,h1,hc,h2,h3,h4,h5,hp v h6⟩⟩
theorem CallsTX.imp {P:Program} {f:Nat} {args:List C} {Lin:List TO} {R R':List TO → C → Prop} {Pp Pp':Value → Prop} (h:CallsTX P f args Lin R Pp)
  (hk:∀ Mo c,R Mo c → R' Mo c) (hp:∀ v,Pp v → Pp' v):CallsTX P f args Lin R' Pp' :=
 ⟨fun F Li vs h1 h2 h3 => CallsX.imp (h.out F Li vs h1 h2 h3) ResA.mono' (fun F L v ⟨Mo,c,q1,q2,q3,q4,q5⟩ => ⟨Mo,c,q1,q2,q3,q4,hk _ _ q5⟩) hp⟩
theorem callXD (ks:List Nat) {PS:Pan} {Pp:Value → Prop} {fb:List Nat} {f:Nat} {args args':List C} {K:TL → TEnv → C → Prop} {x:C} {Lin Lin' Lo:List TO} (h:CallsTX P f args' Lin' (Ret Lo x) Pp) (hs:L.sub ks = some Lin)
  (hc:(T.nodup? ks && disjB ks fb && boxesAt Lin ks ks && hbOk L ks PS.hb) = true) (ha:(args.map fun c => c.canA.ren (toIn ks 1000)) = args') (hl:Lin.map (TO.mapC (C.ren (toIn ks 1000))) = Lin') (hn:ks.length = Lo.length) (hp:∀ v,Pp v → PS.ps v)
  (k:Wf x → (∀ o ∈ Lo,o.Wf) → K (((L.dels ks).kills (rowsOf L ks)).puts ks (Lo.map (TO.mapC (C.ren (fromIn ks))))) (killsE (rowsOf L ks) ρ) (x.ren (fromIn ks)).slt):CallXDT P PS fb f args L ρ K:=by
 subst ha hl
 simp only [Bool.and_eq_true] at hc
 obtain ⟨⟨⟨c1,c2⟩,c3⟩,c4⟩:=hc
 exact ⟨ks,Lin,_,_,hs,c1,c2,c3,c4,h,hp,fun v Mo ⟨e1,e2⟩ hw hwo => by subst e1 e2; exact ⟨hn,k hw hwo⟩⟩
end
theorem rowSt {els:List (List C)} {j off n:Nat} {es0:List C} {K:List C → Prop} (h:els[j]? = some es0) (hl:lenC? ((es0.drop off).take n) n = true) (k:K es0):RowT els j off n fun _ => ∀ es,els[j]? = some es → K es :=
 ⟨es0,h,hl,fun es he => by rw [h] at he; injection he with he; rw [← he]; exact k⟩
theorem setTy {s:List Ty} {j:Nat} {t:Ty}:(s.map tyC).set j [IC t.kind,IC t.id,.sl (t.args.map tyC)] = (s.set j t).map tyC:=by
 rw [List.map_set,tyC_eq]
theorem rowTy {s:List Ty} {i:Nat} {x:Ty} (hx:s[i]? = some x):(s.map tyC)[i]? = some [IC x.kind,IC x.id,.sl (x.args.map tyC)]:=by rw [List.getElem?_map,hx,Option.map_some,tyC_eq]
def failV (e:Int):Value:=.iface 98 (.agg #[.int .i64 e])
abbrev Fr96 (s:List Ty) (t r:Ty):Prop:=CallsT P 96 [.own 1000 0,tyA t] (SU0 s) (Ret (SU0 s) (tyA r))
abbrev Eq63 (s:List Ty) (a b:Ty) (R:List TO → C → Prop) (Pp:Value → Prop):Prop:=CallsTX P 63 [.own 1000 0,tyA a,tyA b] (SU0 s) R Pp
theorem t63_same (s:List Ty) (a b a' b':Ty) (ha:Fr96 s a a') (hb:Fr96 s b b') (h1:a'.kind = 9) (h2:b'.kind = 9) (h3:a'.id = b'.id):Eq63 s a b (Ret (SU0 s) (.tup [])) (fun _ => False):=by
 refine callsTX_facts Try.func63 facts63 rfl fun hw _ => ?_
 refine callXD [1000,1001] ha.toX rfl rfl rfl rfl rfl (fun _ h => h) fun _ _ => ?_
 refine callXD [1000,1001] hb.toX rfl rfl rfl rfl rfl (fun _ h => h) fun _ _ => ?_
 refine brn_p (fun _ => ?_) (fun q => absurd h1 q)
 refine brn_p (fun _ => ?_) (fun q => absurd h2 q)
 refine brn_n (fun q => absurd h3 q) (fun _ => ?_)
 exact retO [1000,1001] rfl rfl rfl rfl
def RE (r:Option (List Ty)):List TO → C → Prop:=fun Mo v => ∃ s',r = some s' ∧ Mo = SU0 s' ∧ v = .tup []
def PE (r:Option (List Ty)):Value → Prop:=fun v => r = none ∧ v = failV 8
section
variable {L:TL} {ρ:TEnv}
theorem callE (ks:List Nat) {PS:Pan} {args args':List C} {K:TL → TEnv → C → Prop} {s:List Ty} {r:Option (List Ty)} {Lin:List TO} (h:CallsTX P 63 args' (SU0 s) (RE r) (PE r)) (hs:L.sub ks = some Lin)
  (hc:(T.nodup? ks && T.koOk L ks ks && boxesAt Lin ks ks && hbOk L ks PS.hb) = true) (ha:(args.map fun c => c.canA.ren (toIn ks 1000)) = args') (hl:Lin.map (TO.mapC (C.ren (toIn ks 1000))) = SU0 s) (hn:ks.length = 2) (hp:∀ v,PE r v → PS.ps v)
  (k:∀ s',r = some s' → K (((L.dels ks).kills (rowsOf L ks)).puts ks ((SU0 s').map (TO.mapC (C.ren (fromIn ks))))) (killsE (rowsOf L ks) ρ) (.tup [])):CallXT P PS 63 args L ρ K:=by
 subst ha
 simp only [Bool.and_eq_true] at hc
 obtain ⟨⟨⟨c1,c2⟩,c3⟩,c4⟩:=hc
 refine ⟨[],ks,ks,L,Lin,_,_,.inl rfl,hs,c1,c1,c2,c3,c4,by rw [hl]; exact h,hp,?_⟩
 rintro v Mo ⟨s',e1,rfl,rfl⟩ hw hwo
 exact ⟨hn,k s' e1⟩
theorem callED (ks:List Nat) {PS:Pan} {fb:List Nat} {args args':List C} {K:TL → TEnv → C → Prop} {s:List Ty} {r:Option (List Ty)} {Lin:List TO} (h:CallsTX P 63 args' (SU0 s) (RE r) (PE r)) (hs:L.sub ks = some Lin)
  (hc:(T.nodup? ks && disjB ks fb && boxesAt Lin ks ks && hbOk L ks PS.hb) = true) (ha:(args.map fun c => c.canA.ren (toIn ks 1000)) = args') (hl:Lin.map (TO.mapC (C.ren (toIn ks 1000))) = SU0 s) (hn:ks.length = 2) (hp:∀ v,PE r v → PS.ps v)
  (k:∀ s',r = some s' → K (((L.dels ks).kills (rowsOf L ks)).puts ks ((SU0 s').map (TO.mapC (C.ren (fromIn ks))))) (killsE (rowsOf L ks) ρ) (.tup [])):CallXDT P PS fb 63 args L ρ K:=by
 subst ha
 simp only [Bool.and_eq_true] at hc
 obtain ⟨⟨⟨c1,c2⟩,c3⟩,c4⟩:=hc
 refine ⟨ks,Lin,_,_,hs,c1,c2,c3,c4,by rw [hl]; exact h,hp,?_⟩
 rintro v Mo ⟨s',e1,rfl,rfl⟩ hw hwo
 exact ⟨hn,k s' e1⟩
end
theorem mmW2 {a b:Int} (h:Wf (IC a)) (k:Wf (IC b)):Wf (IC (if b > a then b else a)):=by split <;> assumption
theorem mmW3 {a b:Int} (h:Wf (IC a)) (k:Wf (IC b)):Wf (IC (if b < a then b else a)):=by split <;> assumption
theorem mmV (h:True) (a b:Int):(if b > a then b else a) = max a b:=by split <;> omega
theorem mmN (h:True) (a b:Int):(if b < a then b else a) = min a b:=by split <;> omega
theorem t63_bind2 (s:List Ty) (a b a' b' x:Ty) (ha:Fr96 s a a') (hb:Fr96 s b b') (h1:a'.kind = 9) (h2:b'.kind = 9) (h3:¬ a'.id = b'.id) (h0:0 ≤ max a'.id b'.id) (hx:s[(max a'.id b'.id).toNat]? = some x) :
  Eq63 s a b (Ret (SU0 (s.set (max a'.id b'.id).toNat (.mk 9 (min a'.id b'.id) []))) (.tup [])) (fun _ => False):=by
 have hmx:=mmV trivial a'.id b'.id
 have hmn:=mmN trivial a'.id b'.id
 have hset:=setTy (s:=s) (j:=(max a'.id b'.id).toNat) (t:=.mk 9 (min a'.id b'.id) [])
 have hrow:=rowTy hx
 have hlen:=lenZ h0 hx
 generalize s.set (max a'.id b'.id).toNat (.mk 9 (min a'.id b'.id) []) = s' at hset ⊢
 rw [← hmx] at hset hrow h0 hlen
 rw [← hmn] at hset
 refine callsTX_facts Try.func63 facts63 rfl fun hw _ => ?_
 refine callXD [1000,1001] ha.toX rfl rfl rfl rfl rfl (fun _ h => h) fun hwa _ => ?_
 refine callXD [1000,1001] hb.toX rfl rfl rfl rfl rfl (fun _ h => h) fun hwb _ => ?_
 refine brn_p (fun _ => ?_) (fun q => absurd h1 q)
 refine brn_p (fun _ => ?_) (fun q => absurd h2 q)
 refine brn_n (fun _ => ?_) (fun q => absurd q h3)
 refine ⟨?_,⟨?_,?_⟩⟩
 ·exact mmW2 hwa.2.1 hwb.2.1
 ·exact mmW3 hwa.2.1 hwb.2.1
 refine InB.mk h0 hlen ?_
 refine ⟨rfl,rowSt hrow rfl ?_⟩
 exact retO [1000,1001] rfl rfl (congrArg (fun q => [TO.box 93 [.rw 1001,.any,.any],.row 32 3 q]) hset) rfl
theorem t63_occ (s:List Ty) (a b a' b':Ty) (ha:Fr96 s a a') (hb:Fr96 s b b') (h1:a'.kind = 9) (h2:¬ b'.kind = 9) (ho:CallsT P 97 [.own 1000 0,IC a'.id,tyA b'] (SU0 s) (Ret (SU0 s) (.bool true))) :
  Eq63 s a b (fun _ _ => False) (PE none):=by
 refine callsTX_facts Try.func63 facts63 rfl fun hw _ => ?_
 refine callXD (Pp:=fun _ => False) [1000,1001] ha.toX rfl rfl rfl rfl rfl (fun _ h => False.elim h) fun _ _ => ?_
 refine callXD (Pp:=fun _ => False) [1000,1001] hb.toX rfl rfl rfl rfl rfl (fun _ h => False.elim h) fun _ _ => ?_
 refine brn_p (fun _ => ?_) (fun q => absurd h1 q)
 refine brn_p (fun q => absurd q h2) (fun _ => ?_)
 refine brn_p (fun _ => ?_) (fun q => absurd h1 q)
 refine callO [1000,1001] [1000,1001] ho rfl rfl rfl rfl rfl fun _ _ => ?_
 exact panT rfl ⟨rfl,rfl⟩
theorem t63_bind (s:List Ty) (a b a' b' x:Ty) (ha:Fr96 s a a') (hb:Fr96 s b b') (h1:a'.kind = 9) (h2:¬ b'.kind = 9) (ho:CallsT P 97 [.own 1000 0,IC a'.id,tyA b'] (SU0 s) (Ret (SU0 s) (.bool false)))
  (h0:0 ≤ a'.id) (hx:s[a'.id.toNat]? = some x):Eq63 s a b (Ret (SU0 (s.set a'.id.toNat b')) (.tup [])) (fun _ => False):=by
 have hset:=setTy (s:=s) (j:=a'.id.toNat) (t:=b')
 have hrow:=rowTy hx
 have hlen:=lenZ h0 hx
 generalize s.set a'.id.toNat b' = s' at hset ⊢
 refine callsTX_facts Try.func63 facts63 rfl fun hw _ => ?_
 refine callXD [1000,1001] ha.toX rfl rfl rfl rfl rfl (fun _ h => h) fun _ _ => ?_
 refine callXD [1000,1001] hb.toX rfl rfl rfl rfl rfl (fun _ h => h) fun _ _ => ?_
 refine brn_p (fun _ => ?_) (fun q => absurd h1 q)
 refine brn_p (fun q => absurd q h2) (fun _ => ?_)
 refine brn_p (fun _ => ?_) (fun q => absurd h1 q)
 refine callO [1000,1001] [1000,1001] ho rfl rfl rfl rfl rfl fun _ _ => ?_
 refine InB.mk h0 hlen ?_
 refine ⟨rfl,rowSt hrow rfl ?_⟩
 exact retO [1000,1001] rfl rfl (congrArg (fun q => [TO.box 93 [.rw 1001,.any,.any],.row 32 3 q]) hset) rfl
theorem t63_swap (s:List Ty) (a b a' b':Ty) (r:Option (List Ty)) (ha:Fr96 s a a') (hb:Fr96 s b b') (h1:¬ a'.kind = 9) (h2:b'.kind = 9) (hr:Eq63 s b' a' (RE r) (PE r)):Eq63 s a b (RE r) (PE r):=by
 refine callsTX_facts Try.func63 facts63 rfl fun hw _ => ?_
 refine callXD (Pp:=fun _ => False) [1000,1001] ha.toX rfl rfl rfl rfl rfl (fun _ h => False.elim h) fun _ _ => ?_
 refine callXD (Pp:=fun _ => False) [1000,1001] hb.toX rfl rfl rfl rfl rfl (fun _ h => False.elim h) fun _ _ => ?_
 refine brn_p (fun q => absurd q h1) (fun _ => ?_)
 refine brn_p (fun q => absurd q h1) (fun _ => ?_)
 refine brn_p (fun _ => ?_) (fun q => absurd h2 q)
 refine callE [1000,1001] hr rfl rfl rfl rfl rfl (fun _ h => h) fun s' e => ?_
 exact retR [1000,1001] rfl rfl rfl rfl ⟨s',e,rfl,rfl⟩
theorem t63_diff (s:List Ty) (a b a' b':Ty) (ha:Fr96 s a a') (hb:Fr96 s b b') (h1:¬ a'.kind = 9) (h2:¬ b'.kind = 9) (h3:a'.kind ≠ b'.kind ∨ a'.id ≠ b'.id ∨ a'.args.length ≠ b'.args.length):Eq63 s a b (fun _ _ => False) (PE none):=by
 have hlm:(a'.args.map tyC).length = a'.args.length:=List.length_map _
 have hlb:(b'.args.map tyC).length = b'.args.length:=List.length_map _
 refine callsTX_facts Try.func63 facts63 rfl fun hw _ => ?_
 refine callXD (Pp:=fun _ => False) [1000,1001] ha.toX rfl rfl rfl rfl rfl (fun _ h => False.elim h) fun _ _ => ?_
 refine callXD (Pp:=fun _ => False) [1000,1001] hb.toX rfl rfl rfl rfl rfl (fun _ h => False.elim h) fun _ _ => ?_
 refine brn_p (fun q => absurd q h1) (fun _ => ?_)
 refine brn_p (fun q => absurd q h1) (fun _ => ?_)
 refine brn_p (fun q => absurd q h2) (fun _ => ?_)
 refine brn_n (fun h4 => ?_) (fun h4 => ?_)
 ·exact panT rfl ⟨rfl,rfl⟩
 refine brn_n (fun h5 => ?_) (fun h5 => ?_)
 ·exact panT rfl ⟨rfl,rfl⟩
 refine brn_n (fun h6 => ?_) (fun h6 => absurd h3 (by rw [hlm,hlb] at h6; omega))
 exact panT rfl ⟨rfl,rfl⟩
theorem eqLF_step {f:List Ty → Ty → Ty → Option (Option (List Ty))} {s:List Ty} {x y:Ty} {l l':List Ty} {r:Option (List Ty)} (h:eqLF f s (x :: l) (y :: l') = some r):∃ r1,f s x y = some r1 ∧ (r1 = none → r = none) ∧ ∀ s',r1 = some s' → eqLF f s' l l' = some r:=by
 rw [eqLF] at h
 cases hf:f s x y with
 | none => simp only [hf] at h; cases h
 | some r1 =>
  refine ⟨r1,rfl,?_,?_⟩
  ·rintro rfl
   simp only [hf] at h
   injection h with h; exact h.symm
  ·rintro s' rfl
   simp only [hf] at h
   exact h
theorem t63_loop (s:List Ty) (a b a' b':Ty) (ha:Fr96 s a a') (hb:Fr96 s b b') (h1:¬ a'.kind = 9) (h2:¬ b'.kind = 9) (h3:¬ (a'.kind ≠ b'.kind ∨ a'.id ≠ b'.id ∨ a'.args.length ≠ b'.args.length))
  (f:List Ty → Ty → Ty → Option (Option (List Ty))) (ih:∀ s x y r,f s x y = some r → Eq63 s x y (RE r) (PE r)) (r:Option (List Ty)) (hr:eqLF f s a'.args b'.args = some r):Eq63 s a b (RE r) (PE r):=by
 have hlm:(a'.args.map tyC).length = a'.args.length:=List.length_map _
 have hlb:(b'.args.map tyC).length = b'.args.length:=List.length_map _
 have hab:a'.args.length = b'.args.length:=by omega
 refine callsTX_facts Try.func63 facts63 rfl fun hw _ => ?_
 refine callXD (Pp:=fun _ => False) [1000,1001] ha.toX rfl rfl rfl rfl rfl (fun _ h => False.elim h) fun hwa _ => ?_
 refine callXD (Pp:=fun _ => False) [1000,1001] hb.toX rfl rfl rfl rfl rfl (fun _ h => False.elim h) fun hwb _ => ?_
 have hlen:a'.args.length ≤ 9223372036854775807:=wf_lenT hwa.2.2.1
 refine brn_p (fun q => absurd q h1) (fun _ => ?_)
 refine brn_p (fun q => absurd q h1) (fun _ => ?_)
 refine brn_p (fun q => absurd q h2) (fun _ => ?_)
 refine brn_n (fun h4 => absurd (Or.inl h4) h3) (fun h4 => ?_)
 refine brn_n (fun h5 => absurd (Or.inr (Or.inl h5)) h3) (fun h5 => ?_)
 refine brn_n (fun h6 => absurd (by rw [hlm,hlb]; omega) h6) (fun h6 => ?_)
 refine loopN a'.args.length 39 [] s (fun _ => []) (fun s => [(4,.box 32 [IC a'.kind,IC a'.id,.sl (a'.args.map tyC)]),(5,.box 32 [IC b'.kind,IC b'.id,.sl (b'.args.map tyC)]),(1000,.box 93 [.rw 1001,.any,.any]),(1001,.row 32 3 (s.map tyC))]) (fun k s => eqLF f s (a'.args.drop k) (b'.args.drop k) = some r) hr (same_keys rfl) trivial
  ⟨.inl ⟨_,rfl,.inl ⟨rfl,rfl⟩⟩,.inl ⟨_,rfl,.inl ⟨rfl,rfl⟩⟩,.inl ⟨_,rfl,.inl ⟨rfl,rfl⟩⟩,.inl ⟨_,rfl,.inl ⟨rfl,rfl⟩⟩,trivial⟩ (fun _ => rfl) (fun _ => rfl) ?_
 rintro k s hk hinv _ _ _
 refine brn_p (fun hlt => ?_) (fun hge => ?_)
 ·have hlt:k < a'.args.length:=by rw [hlm] at hlt; omega
  refine withDrop hlt fun x hx hxm hda => ?_
  refine withDrop (l:=b'.args) (k:=k) (by omega) fun y hy _ hdb => ?_
  have hinv:=hinv
  rw [hda,hdb] at hinv
  refine exE (eqLF_step hinv) fun r1 h1 => ?_
  refine idxTy hx ?_
  refine idxTy hy ?_
  refine callED [1000,1001] (ih s x y r1 h1.1) rfl rfl rfl rfl rfl (fun v q => ⟨h1.2.1 q.1,q.2⟩) fun s' e => ?_
  refine Fit.in64 (by omega) (by omega) ?_
  exact ⟨(k + 1,s'),⟨hlt,h1.2.2 s' e⟩,⟨nextI,trivial⟩,⟨.inl ⟨_,rfl,.inl ⟨rfl,rfl⟩⟩,.inl ⟨_,rfl,.inl ⟨rfl,rfl⟩⟩,.inl ⟨_,rfl,.inl ⟨rfl,rfl⟩⟩,.inl ⟨_,rfl,.inl ⟨rfl,rfl⟩⟩,trivial⟩,nextM hlt⟩
 ·have hge:¬ k < a'.args.length:=by rw [hlm] at hge; omega
  have hinv:=hinv
  rw [drop_end hge,eqLF] at hinv
  exact retR [1000,1001] rfl rfl rfl rfl ⟨s,(Option.some.inj hinv).symm,rfl,rfl⟩
end Go.Fr.Try
