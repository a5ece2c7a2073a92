/- Part of the proofs of the statements of this seat. -/
import Derived.Test.YthfdbepkalpplaaUnM6G
set_option maxRecDepth 10000
set_option linter.unusedVariables false
set_option linter.unusedSimpArgs false
namespace Go.Fr.Try
open Go Go.RowKit Go.Proofs Go.Fr Go.Fr.T Go.Fr.Api
theorem CallsT.imp {P:Program} {f:Nat} {args:List C} {Lin:List TO} {R R':List TO → C → Prop} (h:CallsT P f args Lin R) (hk:∀ Mo c,R Mo c → R' Mo c):CallsT P f args Lin R' :=
 CallsTX.noPan (CallsTX.imp (Pp:=fun _ => False) h.toX hk fun v q => q)
mutual
def cnt:Ty → Nat
 | .mk _ _ l => cntL l + 1
def cntL:List Ty → Nat
 | [] => 0
 | t :: l => cnt t + cntL l
end
theorem cnt_eq (t:Ty):cnt t = cntL t.args + 1:=by cases t; rfl
theorem fewL_ge:∀ (l:List Ty) (m n:Int),0 ≤ m → n ≤ fewL l m n
 | [],m,n,_ => by rw [fewL]; exact Int.le_refl _
 | x :: l,m,n,h0 => by
  rw [fewL]
  split
  ·rename_i h
   have:=(few_bd x (m - n) (by omega)).1
   have:=fewL_ge l m (n + few x (m - n)) h0
   omega
  ·exact Int.le_refl _
mutual
theorem few_cnt:∀ (t:Ty) (m:Int),0 ≤ m → few t m ≤ m → (cnt t:Int) = few t m
 | .mk _ _ l,m,h0,h => by
  rw [few] at h ⊢
  rw [cnt,← fewL_cnt l m 1 h0 h]
  omega
theorem fewL_cnt:∀ (l:List Ty) (m n:Int),0 ≤ m → fewL l m n ≤ m → n + (cntL l:Int) = fewL l m n
 | [],m,n,_,_ => by rw [fewL,cntL]; omega
 | x :: l,m,n,h0,h => by
  rw [fewL] at h ⊢
  split at h
  ·rename_i hn
   rw [if_pos hn]
   have hge:=fewL_ge l m (n + few x (m - n)) h0
   have h1:=few_cnt x (m - n) (by omega) (by omega)
   have h2:=fewL_cnt l m (n + few x (m - n)) h0 h
   rw [cntL]
   omega
  ·omega
end
theorem cnt_mem:∀ {l:List Ty} {x:Ty},x ∈ l → cnt x ≤ cntL l
 | t :: l,x,h => by
  rw [cntL]
  rcases List.mem_cons.1 h with rfl | h
  ·omega
  ·have:=cnt_mem h; omega
theorem cntL_len:∀ l:List Ty,l.length ≤ cntL l
 | [] => Nat.le_refl _
 | t :: l => by have:=cntL_len l; have:=cnt_eq t; rw [cntL,List.length_cons]; omega
theorem cnt_TyB:∀ t:Ty,cnt t ≤ 2 ^ 30 → TyB t:=tyInd fun t ih h => by
 rw [cnt_eq] at h
 rw [tyB_eq]
 exact ⟨by have:=cntL_len t.args; omega,fun x hx => ih x hx (by have:=cnt_mem hx; omega)⟩
theorem cnt_dpt:∀ t:Ty,dpt t ≤ cnt t:=tyInd fun t ih => by
 rw [cnt_eq,dpt_eq]
 have:dpts t.args ≤ cntL t.args:=dpts_le fun x hx => Nat.le_trans (ih x hx) (cnt_mem hx)
 omega
theorem small_all {l:List Ty} (h:smallL l = true):l.length ≤ 8 ∧ ∀ x ∈ l,TyB x ∧ dpt x ≤ 30:=by
 unfold smallL at h
 rw [Bool.and_eq_true,List.all_eq_true,decide_eq_true_eq] at h
 refine ⟨by omega,fun x hx => ?_⟩
 have h1:=of_decide_eq_true (h.1 x hx)
 have h2:=few_cnt x 30 (by omega) h1
 exact ⟨cnt_TyB x (by omega),by have:=cnt_dpt x; omega⟩
theorem small_two {a b:Ty} (h:smallL [a,b] = true):(TyB a ∧ dpt a ≤ 30) ∧ TyB b ∧ dpt b ≤ 30:=⟨(small_all h).2 a (by simp),(small_all h).2 b (by simp)⟩
theorem t24no (p t:Ty) (n:Nat) (hn:n ≤ 4) (m:TM) (hm:fitM n p t [] = (m,false)):CallsT P 24 [tyA p,tyA t,IC n] [] (Ret [] (.tup [.sl [],.bool false])):=by
 have h66:=t66 n p t []
 rw [hm] at h66
 refine callsT_facts Try.func24 facts24 rfl fun hw _ => ?_
 refine brn_p (fun h => absurd h (by omega)) (fun _ => ?_)
 refine callO [9,8,19] [9,8,19] h66 rfl rfl rfl rfl rfl fun _ _ => ?_
 exact retP rfl rfl
def matchR (n:Nat) (p t:Ty):List Ty × Bool:=if (fitM n p t []).2 then (outM n (fitM n p t []).1,true) else ([],false)
theorem t24 (p t:Ty) (n:Nat) (hn:n ≤ 4):CallsT P 24 [tyA p,tyA t,IC n] [] (Ret [] (.tup [.sl ((matchR n p t).1.map tyC),.bool (matchR n p t).2])):=by
 unfold matchR
 cases h:fitM n p t [] with
 | mk m b =>
  cases b with
  | true => exact t24ok p t n hn m h
  | false => exact t24no p t n hn m h
theorem U1B.no {n:Nat} {s:List Ty} {a b:Ty} {e:Int} (h1:∃ d o,formR s n = some (some (d,o))) (hp:preU s a b = true) (h2:eqF n s a b = some none) (h:U1B n s a b e):e = 8:=by
 obtain ⟨d,o,h1⟩:=h1
 rcases h with ⟨q,_⟩ | ⟨_,⟨q,_⟩ | ⟨_,⟨_,q⟩ | ⟨s',q,_⟩⟩⟩
 ·rw [h1] at q; cases q
 ·rw [hp] at q; cases q
 ·exact q
 ·rw [h2] at q; cases q
theorem eqF_TyB:∀ (n:Nat) (s:List Ty) (a b:Ty) (s':List Ty),(∀ x ∈ s,TyB x) → TyB a → TyB b → eqF n s a b = some (some s') → ∀ x ∈ s',TyB x:=by
 intro n
 induction n with
 | zero => intro s a b s' _ _ _ h; cases h
 | succ n ih =>
  intro s a b s' hs ha hb h
  have hfr:∀ {t r:Ty},frontF s n t = some r → TyB t → TyB r:=fun hf ht => front_inv (p:=TyB) (fun t x _ _ he _ => hs x (elem_mem he)) hf ht
  have hset:∀ {i:Nat} {b:Ty},TyB b → ∀ x ∈ s.set i b,TyB x:=fun hb x hx => by
   rcases List.mem_or_eq_of_mem_set hx with hx | rfl
   ·exact hs x hx
   ·exact hb
  cases fa:frontF s n a with
  | none => rw [eqF,fa] at h; cases h
  | some a' =>
  cases fb:frontF s n b with
  | none => rw [eqF,fa,fb] at h; cases h
  | some b' =>
  rw [eqF_at fa fb] at h
  have ha':=hfr fa ha
  have hb':=hfr fb hb
  split at h
  ·split at h
   ·injection h with h; injection h with h; exact h ▸ hs
   ·injection h with h; injection h with h; rw [← h]
    exact hset ((tyB_eq _).2 ⟨Nat.zero_le _,fun x h => by cases h⟩)
  ·split at h
   ·cases ho:occF s a'.id n b' with
    | none => rw [ho] at h; cases h
    | some o =>
     rw [ho] at h
     cases o with
     | true => cases h
     | false => injection h with h; injection h with h; rw [← h]; exact hset hb'
   ·split at h
    ·exact ih s b' a' s' hs hb' ha' h
    ·split at h
     ·cases h
     ·have hL:∀ (l l':List Ty) (s:List Ty),(∀ x ∈ l,TyB x) → (∀ x ∈ l',TyB x) → (∀ x ∈ s,TyB x) → eqLF (eqF n) s l l' = some (some s') → ∀ x ∈ s',TyB x:=by
       intro l
       induction l with
       | nil => intro l' s _ _ hs h; rw [eqLF] at h; injection h with h; injection h with h; exact h ▸ hs
       | cons x l ihl =>
        intro l' s h1 h2 hs h
        cases l' with
        | nil => cases h
        | cons y l' =>
         rw [eqLF] at h
         cases hx:eqF n s x y with
         | none => rw [hx] at h; cases h
         | some r =>
          rw [hx] at h
          cases r with
          | none => cases h
          | some s1 => exact ihl l' s1 (fun z hz => h1 z (by simp [hz])) (fun z hz => h2 z (by simp [hz])) (ih s x y s1 hs (h1 x (by simp)) (h2 y (by simp)) hx) h
      exact hL a'.args b'.args s ((tyB_eq a').1 ha').2 ((tyB_eq b').1 hb').2 hs h
theorem unifyN {s:List Ty} {a b:Ty} (hl:s.length ≤ 2 ^ 30) (hs:∀ x ∈ s,TyB x) (ha:TyB a) (hb:TyB b) (hda:dpt a ≤ 2 ^ 40) (hdb:dpt b ≤ 2 ^ 40):∃ n,CallsT P 23 [.sl (s.map tyC),tyA a,tyA b] [] (RN n s a b) ∧ (∀ s',U1G n s a b s' → Nxt s s') ∧ ∃ r,formR s n = some r:=by
 obtain ⟨n,F,hc,hx⟩:=fuelU s a b
 refine ⟨n,unify n s a b hl F hda hdb fun s' h => ⟨by rw [(hx s' h).len]; exact hl,?_,hc s' h⟩,hx,F.form⟩
 exact eqF_TyB n s a b s' hs ha hb h.2.2.1
theorem formR_one {s:List Ty} {n m:Nat} {r q:Option (DM × OM)} (h:formR s n = some r) (k:formR s m = some q):r = q:=by
 have h1:=formR_mono (Nat.le_max_left n m) h
 have h2:=formR_mono (Nat.le_max_right n m) k
 rw [h1] at h2; exact Option.some.inj h2
theorem eqF_one {s:List Ty} {a b:Ty} {n m:Nat} {r q:Option (List Ty)} (h:eqF n s a b = some r) (k:eqF m s a b = some q):r = q:=by
 have h1:=eq_mono (Nat.le_max_left n m) h
 have h2:=eq_mono (Nat.le_max_right n m) k
 rw [h1] at h2; exact Option.some.inj h2
theorem deep_one {s:List Ty} {t:Ty} {d:DM} {o:OM} {n m:Nat} {r q:Option (Int × DM × OM)} (h:deepF s n t d o = some r) (k:deepF s m t d o = some q):r = q:=by
 have h1:=deep_mono (Nat.le_max_left n m) h
 have h2:=deep_mono (Nat.le_max_right n m) k
 rw [h1] at h2; exact Option.some.inj h2
theorem canon_one {s:List Ty} {n m:Nat} {r q:List Ty} (h:canonF s n = some r) (k:canonF s m = some q):r = q:=by
 have h1:=canon_mono (Nat.le_max_left n m) h
 have h2:=canon_mono (Nat.le_max_right n m) k
 rw [h1] at h2; exact Option.some.inj h2
section
variable {s:List Ty} {a b:Ty} (hl:s.length ≤ 2 ^ 30) (hs:∀ x ∈ s,TyB x) (ha:TyB a) (hb:TyB b) (hda:dpt a ≤ 2 ^ 40) (hdb:dpt b ≤ 2 ^ 40)
include hl hs ha hb hda hdb
theorem unify_no {m:Nat} (h1:∃ d o,formR s m = some (some (d,o))) (hp:preU s a b = true) (h2:eqF m s a b = some none):CallsT P 23 [.sl (s.map tyC),tyA a,tyA b] [] (Ret [] (.tup [.sl [],IC 8])):=by
 obtain ⟨n,h,hx,r,hr⟩:=unifyN hl hs ha hb hda hdb
 obtain ⟨d,o,h1⟩:=h1
 refine CallsT.imp h ?_
 rintro Mo c ⟨rfl,r,e,hu,rfl⟩
 rcases hu with ⟨s',g,_⟩ | ⟨g,rfl⟩
 ·have:=eqF_one h2 g.2.2.1; cases this
 ·rcases g with ⟨q,_⟩ | ⟨_,⟨q,_⟩ | ⟨_,⟨_,q⟩ | ⟨s',q,_⟩⟩⟩
  ·have:=formR_one h1 q; cases this
  ·rw [hp] at q; cases q
  ·subst q; exact ⟨rfl,rfl⟩
  ·have:=eqF_one h2 q; cases this
theorem unify_arg {m:Nat} (h1:∃ d o,formR s m = some (some (d,o))) (hp:preU s a b = false):CallsT P 23 [.sl (s.map tyC),tyA a,tyA b] [] (Ret [] (.tup [.sl [],IC 1])):=by
 obtain ⟨n,h,hx,r,hr⟩:=unifyN hl hs ha hb hda hdb
 obtain ⟨d,o,h1⟩:=h1
 refine CallsT.imp h ?_
 rintro Mo c ⟨rfl,r,e,hu,rfl⟩
 rcases hu with ⟨s',g,_⟩ | ⟨g,rfl⟩
 ·rw [g.2.1] at hp; cases hp
 ·rcases g with ⟨q,_⟩ | ⟨_,⟨_,q⟩ | ⟨q,_⟩⟩
  ·have:=formR_one h1 q; cases this
  ·subst q; exact ⟨rfl,rfl⟩
  ·rw [q] at hp; cases hp
theorem unify_ok {m:Nat} (s' r:List Ty) (d:DM) (o:OM) (k:Int) (h1:∃ d o,formR s m = some (some (d,o))) (hp:preU s a b = true) (h2:eqF m s a b = some (some s')) (h3:formR s' m = some (some (d,o))) (h4:∃ d' o',deepF s' m a d o = some (some (k,d',o'))) (hk:k ≤ 8) (h5:canonF s' m = some r) :
  CallsT P 23 [.sl (s.map tyC),tyA a,tyA b] [] (Ret [] (.tup [.sl (r.map tyC),IC 0])):=by
 obtain ⟨n,h,hx,r',hr⟩:=unifyN hl hs ha hb hda hdb
 obtain ⟨d1,o1,h1⟩:=h1
 obtain ⟨d2,o2,h4⟩:=h4
 refine CallsT.imp h ?_
 rintro Mo c ⟨rfl,r'',e,hu,rfl⟩
 rcases hu with ⟨s'',g,hc,rfl⟩ | ⟨g,rfl⟩
 ·have e1:=eqF_one h2 g.2.2.1
  injection e1 with e1
  subst e1
  rw [canon_one hc h5]
  exact ⟨rfl,rfl⟩
 ·rcases g with ⟨q,_⟩ | ⟨_,⟨q,_⟩ | ⟨_,⟨q,_⟩ | ⟨s'',q,_,q2⟩⟩⟩
  ·have:=formR_one h1 q; cases this
  ·rw [hp] at q; cases q
  ·have:=eqF_one h2 q; cases this
  ·have e1:=eqF_one h2 q
   injection e1 with e1
   subst e1
   rcases q2 with q2 | ⟨d',o',q2,q3⟩
   ·have:=formR_one h3 q2; cases this
   ·have e2:=formR_one h3 q2
    injection e2 with e2
    injection e2 with e2 e3
    subst e2 e3
    rcases q3 with q3 | ⟨k',d'',o'',q3,q4⟩
    ·have:=deep_one h4 q3; cases this
    ·have e4:=deep_one h4 q3
     injection e4 with e4
     injection e4 with e4
     omega
end
def zT:Ty:=.mk 0 0 []
def iT:Ty:=.mk 1 0 []
def bx (t:Ty):Ty:=.mk 3 0 [t]
def two:List Ty:=[zT,zT]
theorem tb_small {t:Ty} (h:decide (cnt t ≤ 100) = true):TyB t:=cnt_TyB t (by have:=of_decide_eq_true h; omega)
theorem dp_small {t:Ty} (h:decide (dpt t ≤ 100) = true):dpt t ≤ 2 ^ 40:=by have:=of_decide_eq_true h; omega
theorem two_B:∀ x ∈ two,TyB x:=fun x hx => by
 rcases List.mem_cons.1 hx with rfl | hx
 ·exact tb_small rfl
 ·rw [List.mem_singleton.1 hx]; exact tb_small rfl
theorem two_F:∃ d o,formR two 10 = some (some (d,o)):=⟨_,_,rfl⟩
theorem u1:CallsT P 23 [.sl (two.map tyC),tyA (bx (vr 0)),tyA (bx iT)] [] (Ret [] (.tup [.sl ([iT,zT].map tyC),IC 0])) :=
 unify_ok (by decide) two_B (tb_small rfl) (tb_small rfl) (dp_small rfl) (dp_small rfl) (m:=10) [iT,zT] [iT,zT] [(0,1)] [(0,true)] 2 two_F rfl rfl rfl ⟨_,_,rfl⟩ (by decide) rfl
theorem u2:CallsT P 23 [.sl (two.map tyC),tyA (vr 0),tyA (vr 1)] [] (Ret [] (.tup [.sl ([zT,vr 0].map tyC),IC 0])) :=
 unify_ok (by decide) two_B (tb_small rfl) (tb_small rfl) (dp_small rfl) (dp_small rfl) (m:=10) [zT,vr 0] [zT,vr 0] [(1,1)] [(1,true)] 1 two_F rfl rfl rfl ⟨_,_,rfl⟩ (by decide) rfl
theorem u3:CallsT P 23 [.sl (two.map tyC),tyA (bx (vr 0)),tyA (.mk 4 0 [vr 0])] [] (Ret [] (.tup [.sl [],IC 8])) :=
 unify_no (by decide) two_B (tb_small rfl) (tb_small rfl) (dp_small rfl) (dp_small rfl) (m:=10) two_F rfl rfl
theorem u4:CallsT P 23 [.sl (two.map tyC),tyA (vr 0),tyA (bx (vr 0))] [] (Ret [] (.tup [.sl [],IC 8])) :=
 unify_no (by decide) two_B (tb_small rfl) (tb_small rfl) (dp_small rfl) (dp_small rfl) (m:=10) two_F rfl rfl
theorem u5:CallsT P 23 [.sl (two.map tyC),tyA (vr 2),tyA iT] [] (Ret [] (.tup [.sl [],IC 1])) :=
 unify_arg (by decide) two_B (tb_small rfl) (tb_small rfl) (dp_small rfl) (dp_small rfl) (m:=10) two_F rfl
theorem a1:CallsT P 22 [.sl ([iT,zT].map tyC),tyA (bx (vr 0))] [] (Ret [] (tyA (bx iT))) :=
 apply [iT,zT] 10 (bx (vr 0)) (bx iT) [(0,1)] [(0,true)] rfl (fun x hx => by
  rcases List.mem_cons.1 hx with rfl | hx
  ·exact tb_small rfl
  ·rw [List.mem_singleton.1 hx]; exact tb_small rfl) (tb_small rfl) rfl
theorem m1h:CallsT P 24 [tyA (bx (.mk 5 0 [])),tyA (bx (bx iT)),IC 1] [] (Ret [] (.tup [.sl ([bx iT].map tyC),.bool true])):=t24 (bx (.mk 5 0 [])) (bx (bx iT)) 1 (by decide)
theorem m2h:CallsT P 24 [tyA (bx (.mk 5 0 [])),tyA iT,IC 1] [] (Ret [] (.tup [.sl [],.bool false])):=t24 (bx (.mk 5 0 [])) iT 1 (by decide)
theorem same45 (a:List Ty):CallsT P 45 [.sl (a.map tyC),.sl (a.map tyC)] [] (Ret [] (.bool true)):=by
 have:=t45 a a
 rw [EqOk,← tru_yes (rfl:a = a)] at this
 exact this
theorem same15 (a:Ty):CallsT P 15 [tyA a,tyA a] [] (Ret [] (.bool true)):=by
 have:=t15 a a
 rw [EqOk,← tru_yes (rfl:a = a)] at this
 exact this
def dP:Prog:=⟨[],[],[⟨⟨#[]⟩,0,1,[],0⟩],[],[],[],[],0⟩
theorem v14 {pa:Int} {t:Ty} {b:Bool} (hd:decide (dpt t ≤ 100) = true) (h:validB dP pa t = b):CallsT P 14 [.agg (progC dP),IC pa,tyA t] [] (Ret [] (.bool b)):=by
 have:=t14 pa dP t (dp_small hd)
 rw [h] at this
 exact this
set_option maxRecDepth 100000 in
theorem t11:CallsT P 11 [] [] (Ret [] (.bool true)):=by
 refine callsT_facts Try.func11 facts11 rfl fun hw _ => ?_
 refine callP t42 rfl fun _ => ?_
 refine MakePt.mk (by decide) (by decide) (by decide) (by decide) ?_
 refine callPD (t27 0) rfl fun _ => ?_
 refine callPD (t43 (vr 0)) rfl fun _ => ?_
 refine callPD (t43 iT) rfl fun _ => ?_
 refine callPD u1 rfl fun _ => ?_
 refine callP (t27 0) rfl fun _ => ?_
 refine callP (t27 1) rfl fun _ => ?_
 refine callP u2 rfl fun _ => ?_
 refine callP (t27 0) rfl fun _ => ?_
 refine callP (t43 (vr 0)) rfl fun _ => ?_
 refine callP (t27 0) rfl fun _ => ?_
 refine callP (t44 4 (vr 0)) rfl fun _ => ?_
 refine callP u3 rfl fun _ => ?_
 refine callP (t27 0) rfl fun _ => ?_
 refine callP (t27 0) rfl fun _ => ?_
 refine callP (t43 (vr 0)) rfl fun _ => ?_
 refine callP u4 rfl fun _ => ?_
 refine callPD (t27 2) rfl fun _ => ?_
 refine callPD u5 rfl fun _ => ?_
 refine callPD (t13 0) rfl fun _ => ?_
 refine callPD (t43 (.mk 5 0 [])) rfl fun _ => ?_
 refine callPD (t43 iT) rfl fun _ => ?_
 refine callPD (t43 (bx iT)) rfl fun _ => ?_
 refine callPD m1h rfl fun _ => ?_
 refine callPD (t13 0) rfl fun _ => ?_
 refine callPD (t43 (.mk 5 0 [])) rfl fun _ => ?_
 refine callPD m2h rfl fun _ => ?_
 refine callP (same45 [iT,zT]) rfl fun _ => ?_
 refine callP (t27 0) rfl fun _ => ?_
 refine callP (same45 [zT,vr 0]) rfl fun _ => ?_
 refine callP (t43 iT) rfl fun _ => ?_
 refine callP (same45 [bx iT]) rfl fun _ => ?_
 refine callPD (v14 (pa:=0) (t:=.mk 2 0 [iT]) (b:=true) rfl rfl) rfl fun _ => ?_
 refine callPD (t13 0) rfl fun _ => ?_
 refine callPD (v14 (pa:=0) (t:=.mk 5 0 []) (b:=false) rfl rfl) rfl fun _ => ?_
 refine callPD (t13 0) rfl fun _ => ?_
 refine callPD (t44 7 (.mk 5 0 [])) rfl fun _ => ?_
 refine callPD (v14 (pa:=1) (t:=.mk 7 0 [.mk 5 0 []]) (b:=true) rfl rfl) rfl fun _ => ?_
 refine callPD (t13 0) rfl fun _ => ?_
 refine callPD (t44 7 (.mk 5 0 [])) rfl fun _ => ?_
 refine callPD (t43 (.mk 7 0 [.mk 5 0 []])) rfl fun _ => ?_
 refine callPD (v14 (pa:=1) (t:=bx (.mk 7 0 [.mk 5 0 []])) (b:=false) rfl rfl) rfl fun _ => ?_
 refine callPD (t13 0) rfl fun _ => ?_
 refine callPD (t43 (.mk 5 0 [])) rfl fun _ => ?_
 refine callPD (t16 [iT] (bx (.mk 5 0 [])) (tb_small rfl)) rfl fun _ => ?_
 refine callPD (t43 iT) rfl fun _ => ?_
 refine callPD (same15 (bx iT)) rfl fun _ => ?_
 refine callPD (t27 0) rfl fun _ => ?_
 refine callPD (t43 (vr 0)) rfl fun _ => ?_
 refine callPD a1 rfl fun _ => ?_
 refine callPD (t43 iT) rfl fun _ => ?_
 refine callPD (same15 (bx iT)) rfl fun _ => ?_
 exact retP rfl rfl
theorem subst_B {a:List Ty} (ha:∀ x ∈ a,TyB x ∧ dpt x ≤ 30):∀ t:Ty,TyB t → TyB (subst a t) ∧ dpt (subst a t) ≤ dpt t + 30:=tyInd fun t ih hb => by
 rw [subst_eq]
 have hb:=(tyB_eq t).1 hb
 split
 ·rename_i h
  obtain ⟨x,hx⟩:=get_of (l:=a) (k:=t.id.toNat) (by omega)
  rw [hx]
  have:=ha x (List.mem_of_getElem? hx)
  exact ⟨this.1,by show dpt x ≤ _; omega⟩
 ·refine ⟨(tyB_eq _).2 ⟨by show (t.args.map _).length ≤ _; rw [List.length_map]; exact hb.1,fun y hy => ?_⟩,?_⟩
  ·obtain ⟨x,hx,rfl⟩:=List.mem_map.1 (show y ∈ t.args.map (subst a) from hy)
   exact (ih x hx (hb.2 x hx)).1
  ·rw [dpt_eq,dpt_eq t]
   have:dpts (t.args.map (subst a)) ≤ dpts t.args + 30:=dpts_le fun y hy => by
    obtain ⟨x,hx,rfl⟩:=List.mem_map.1 hy
    have:=(ih x hx (hb.2 x hx)).2
    have:=dpt_mem hx
    omega
   show dpts (t.args.map (subst a)) + 1 ≤ _
   omega
def four:List Ty:=[.mk 5 0 [],.mk 5 1 [],.mk 5 2 [],.mk 5 3 []]
structure PL (p:Prog) (one two:List Ty) (t:Ty) (pa:Int) (V:Int → Ty → Bool) (S:List Ty → Ty → Ty):Prop where
 h14:∀ pa t,dpt t ≤ 2 ^ 40 → CallsT P 14 [.agg (progC p),IC pa,tyA t] [] (Ret [] (.bool (V pa t)))
 h16:∀ a t,TyB t → CallsT P 16 [.sl (a.map tyC),tyA t] [] (Ret [] (tyA (S a t)))
 h1:V 4 t = true → S four t = t
 h2:V one.length t = true → S two (S one t) = S (one.map (S two)) t
 h3:V one.length t = true → one.all (fun x => stoB x && V pa x) = true → ¬ pa < 0 → ¬ pa > 4 → V pa (S one t) = decide ((dpt (S one t):Int) ≤ 8)
 h4:(∀ x ∈ one,TyB x ∧ dpt x ≤ 30) → TyB t → TyB (S one t) ∧ dpt (S one t) ≤ dpt t + 30
theorem same_yes {a b:Ty} (h:a = b):CallsT P 15 [tyA a,tyA b] [] (Ret [] (.bool true)):=by subst h; exact same15 a
theorem all_snoc {α:Type} {f:α → Bool} {l:List α} {k:Nat} {x:α} (hx:l[k]? = some x):(l.take (k + 1)).all f = ((l.take k).all f && f x):=by
 rw [take_snoc hx,List.all_append]; simp
theorem t12one (t:Ty):CallsT P 12 [.sl [tyB' t]] [] (Ret [] (.bool (smallL [t]))):=by
 have:=t12 [t]
 rw [List.map_cons,List.map_nil,tyC_eq] at this
 exact this
theorem t12two (a b:Ty):CallsT P 12 [.sl [tyB' a,tyB' b]] [] (Ret [] (.bool (smallL [a,b]))):=by
 have:=t12 [a,b]
 rw [List.map_cons,List.map_cons,List.map_nil,tyC_eq,tyC_eq] at this
 exact this
theorem map_snoc' {α β:Type} {f:α → β} {l:List α} {k:Nat} {x:α} (hx:l[k]? = some x):(l.take (k + 1)).map f = (l.take k).map f ++ [f x]:=by rw [take_snoc hx,List.map_append]; rfl
set_option maxRecDepth 100000 in
theorem t3o (p:Prog) (one two:List Ty) (t:Ty) (pa:Int) (V:Int → Ty → Bool) (S:List Ty → Ty → Ty) (X:PL p one two t pa V S):CallsT P 3 [.agg (progC p),.sl (one.map tyC),.sl (two.map tyC),tyA t,IC pa] [] (Ret [] (.bool true)):=by
 obtain ⟨h14,h16,h1,h2,h3,h4⟩:=X
 have s1:=t12 one
 have s2:=t12 two
 have s3:=t12one t
 have d1:=@small_all one
 have d3:=@small_all [t]
 have h17:=t17
 generalize hsm:smallL = sm at s1 s2 s3 d1 d3
 have h18:=t18
 generalize hdpt:dpt = D at h14 h3 h4 d1 d3 h18
 generalize hsto:stoB = sto at h3 h17
 refine callsT_facts Try.func3 facts3 rfl fun hw _ => ?_
 refine callP t11 rfl fun _ => ?_
 refine callP s1 rfl fun _ => ?_
 refine brn_split (fun q1 => ?_) (fun q1 => ?_)
 ·exact retP rfl rfl
 refine callP s2 rfl fun _ => ?_
 refine brn_split (fun q2 => ?_) (fun q2 => ?_)
 ·exact retP rfl rfl
 refine callP s3 rfl fun _ => ?_
 refine brn_split (fun q3 => ?_) (fun q3 => ?_)
 ·exact retP rfl rfl
 refine brn_p (fun _ => ?_) (fun _ => ?_)
 ·exact retP rfl rfl
 have e1:sm one = true:=by simpa using q1
 have e3:sm [t] = true:=by simpa using q3
 have f1:=d1 e1
 have f3:=(d3 e3).2 t (by simp)
 have hdt:D t ≤ 2 ^ 40:=by omega
 have g4:=h4 f1.2 f3.1
 have hdf:D (S one t) ≤ 2 ^ 40:=by omega
 refine callP (t13 0) rfl fun _ => ?_
 refine callP (t13 1) rfl fun _ => ?_
 refine callP (t13 2) rfl fun _ => ?_
 refine callP (t13 3) rfl fun _ => ?_
 refine callPD (h14 4 t hdt) rfl fun _ => ?_
 refine brn_split (fun q4 => callPD (h16 four t f3.1) rfl fun _ => callPD (same_yes (h1 q4)) rfl fun _ => ?_) (fun q4 => ?_)
 all_goals
  refine callP (h14 one.length t hdt) (by rw [List.length_map]; rfl) fun _ => ?_
  refine brn_split (fun q5 => ?_) (fun q5 => ?_)
  ·exact retP rfl rfl
  have e5:V one.length t = true:=by simpa using q5
  refine callP (h16 one t f3.1) rfl fun _ => ?_
  refine loopN one.length 17 [15,16] (([],true):List Ty × Bool) (fun x => [.rw 82,.bool x.2]) (fun x => [(14,.box 32 (tyB' (S one t))),(82,.row 32 3 (x.1.map tyC))]) (fun k x => x.1 = (one.take k).map (S two) ∧ x.2 = (one.take k).all (fun x => sto x && V pa x)) ⟨rfl,rfl⟩ (same_keys rfl) ⟨.inr (.inr (.inr (.inl ⟨rfl,82,32,3,rfl,rfl,rfl⟩))),same_keys rfl,trivial⟩
   ⟨.inl ⟨_,rfl,.inl ⟨rfl,rfl⟩⟩,.inr ⟨rfl,32,3,rfl⟩,trivial⟩ (fun _ => rfl) (fun _ => rfl) ?_
  rintro k ⟨l,b⟩ hk ⟨hl,hb⟩ _ _ hk2
  have hl:l = (one.take k).map (S two):=hl
  have hb:b = (one.take k).all (fun x => sto x && V pa x):=hb
  have hlk:l.length = k:=by rw [hl,List.length_map,List.length_take]; omega
  have hlc:(l.map tyC).length = k:=by rw [List.length_map]; exact hlk
  have hom:(one.map tyC).length = one.length:=List.length_map _
  refine brn_p (fun hlt => ?_) (fun hge => ?_)
  ·have hlt:k < one.length:=by rw [← hom]; omega
   refine withGet hlt fun x hx hxm => ?_
   have hxf:=f1.2 x hxm
   refine idxTy hx ?_
   refine callP (h16 two x hxf.1) rfl fun _ => ?_
   refine app1' k rfl hlc (by decide) (by omega) ?_
   refine brn_split (fun q6 => idxTy hx <| callPD (h17 x) rfl fun _ => brn_split (fun q7 => idxTy hx <| callPD (h14 pa x (by omega)) rfl fun _ => ?_) (fun q7 => ?_)) (fun q6 => ?_)
   all_goals refine Fit.in64 (by omega) (by omega) ?_
   ·exact ⟨(k + 1,(l ++ [S two x],V pa x)),⟨hlt,by rw [hl]; exact (map_snoc' hx).symm,by rw [all_snoc hx,← hb,show b = true from q6,q7]; rfl⟩,⟨nextI,same_keys rfl,same_keys rfl,trivial⟩,⟨.inl ⟨_,rfl,.inl ⟨rfl,rfl⟩⟩,.inl ⟨_,rfl,.inl ⟨rowG (rowT (f:=S two x)),rfl⟩⟩,trivial⟩,nextM hlt⟩
   ·exact ⟨(k + 1,(l ++ [S two x],false)),⟨hlt,by rw [hl]; exact (map_snoc' hx).symm,by rw [all_snoc hx,← hb,show b = true from q6,q7]; rfl⟩,⟨nextI,same_keys rfl,same_keys rfl,trivial⟩,⟨.inl ⟨_,rfl,.inl ⟨rfl,rfl⟩⟩,.inl ⟨_,rfl,.inl ⟨rowG (rowT (f:=S two x)),rfl⟩⟩,trivial⟩,nextM hlt⟩
   ·exact ⟨(k + 1,(l ++ [S two x],false)),⟨hlt,by rw [hl]; exact (map_snoc' hx).symm,by rw [all_snoc hx,← hb,show b = false from q6]; rfl⟩,⟨nextI,same_keys rfl,same_keys rfl,trivial⟩,⟨.inl ⟨_,rfl,.inl ⟨rfl,rfl⟩⟩,.inl ⟨_,rfl,.inl ⟨rowG (rowT (f:=S two x)),rfl⟩⟩,trivial⟩,nextM hlt⟩
  ·have hk3:k = one.length:=by rw [hom] at hge; omega
   have hl2:l = one.map (S two):=by rw [hl,hk3,List.take_length]
   have hb2:b = one.all (fun x => sto x && V pa x):=by rw [hb,hk3,List.take_length]
   refine callPD (h16 two (S one t) g4.1) rfl fun _ => ?_
   refine callPD (h16 l t f3.1) rfl fun _ => ?_
   refine callPD (same_yes (by rw [hl2]; exact h2 e5)) rfl fun _ => ?_
   refine brn_split (fun q6 => ?_) (fun q6 => ?_)
   ·exact retP rfl rfl
   have hb3:b = true:=by simpa using q6
   refine brn_p (fun q7 => ?_) (fun q7 => ?_)
   ·exact retP rfl rfl
   refine brn_p (fun q8 => ?_) (fun q8 => ?_)
   ·exact retP rfl rfl
   refine callPD (h14 pa (S one t) hdf) rfl fun _ => ?_
   refine callPD (h18 (S one t) hdf) rfl fun _ => ?_
   have e:=h3 e5 (by rw [← hb2]; exact hb3) q7 q8
   exact retP rfl (congrArg C.bool (decide_eq_true (show V pa (S one t) = decide ((D (S one t):Int) ≤ 8) from e)))
theorem t3 (p:Prog) (one two:List Ty) (t:Ty) (pa:Int):CallsT P 3 [.agg (progC p),.sl (one.map tyC),.sl (two.map tyC),tyA t,IC pa] [] (Ret [] (.bool true)):=by
 have hv:∀ {pa:Int} {t:Ty},validB p pa t = true → ¬ (pa < 0 ∨ pa > 4 ∨ dpt t > 8) ∧ fmB p.datas pa t = true:=fun {pa t} h => by
  unfold validB at h
  split at h
  ·cases h
  ·rename_i q; exact ⟨q,h⟩
 refine t3o p one two t pa (validB p) subst ⟨fun pa t h => t14 pa p t h,fun a t h => t16 a t h,fun h => ?_,fun h => ?_,fun h ha h0 h4 => ?_,fun h hb => subst_B h t hb⟩
 ·exact subst_self p.datas t (hv h).2
 ·exact subst_subst p.datas one two t (hv h).2
 ·have h1:=(hv h).2
  have h2:∀ x ∈ one,stoB x = true ∧ fmB p.datas pa x = true:=fun x hx => by
   have:=(List.all_eq_true.1 ha) x hx
   rw [Bool.and_eq_true] at this
   exact ⟨this.1,(hv this.2).2⟩
  have h3:=(fm_subst p.datas pa one h2 t h1).1
  unfold validB
  by_cases hd:dpt (subst one t) > 8
  ·rw [if_pos (.inr (.inr hd)),decide_eq_false (by omega)]
  ·rw [if_neg (by omega),decide_eq_true (by omega),h3]
section
variable {L:TL} {ρ:TEnv}
theorem callRN {n:Nat} {s:List Ty} {a b:Ty} {args args':List C} {K:TL → TEnv → C → Prop} (h:CallsT P 23 args' [] (RN n s a b)) (ha:(args.map fun c => c.canA.ren (toIn [] 1000)) = args')
  (k:∀ r e,UR n s a b r e → Wf (.tup [.sl (r.map tyC),IC e]) → K L ρ (C.tup [.sl (r.map tyC),IC e])):CallT P 23 args L ρ K:=by
 subst ha
 exact .mk ⟨[],[],[],L,[],_,.inl rfl,rfl,rfl,rfl,rfl,rfl,h,fun v Mo ⟨e1,r,e,hu,e2⟩ hw _ => by subst e1 e2; exact ⟨rfl,k r e hu hw⟩⟩
theorem callRND {n:Nat} {s:List Ty} {a b:Ty} {args args':List C} {K:TL → TEnv → C → Prop} {d:Option Nat} (h:CallsT P 23 args' [] (RN n s a b)) (ha:(args.map fun c => c.canA.ren (toIn [] 1000)) = args')
  (k:∀ r e,UR n s a b r e → Wf (.tup [.sl (r.map tyC),IC e]) → K L ρ (C.tup [.sl (r.map tyC),IC e])):CallDT P 23 args L ρ d K:=by
 subst ha
 exact .frz _ h fun v Mo ⟨e1,r,e,hu,e2⟩ hw => by subst e1 e2; exact ⟨rfl,k r e hu hw⟩
end
theorem UR.no {n m:Nat} {s:List Ty} {a b:Ty} {r:List Ty} {e:Int} (hu:UR n s a b r e) (h1:∃ d o,formR s m = some (some (d,o))) (hp:preU s a b = true) (h2:eqF m s a b = some none):e = 8:=by
 obtain ⟨d,o,h1⟩:=h1
 rcases hu with ⟨s',g,_⟩ | ⟨g,rfl⟩
 ·have:=eqF_one h2 g.2.2.1; cases this
 ·rcases g with ⟨q,_⟩ | ⟨_,⟨q,_⟩ | ⟨_,⟨_,q⟩ | ⟨s',q,_⟩⟩⟩
  ·have:=formR_one h1 q; cases this
  ·rw [hp] at q; cases q
  ·exact q
  ·have:=eqF_one h2 q; cases this
def zeros (m:Nat):List Ty:=List.replicate m (.mk 0 0 [])
theorem zeros_elem {m:Nat} {t x:Ty} (h:elemT (zeros m) t = some x):x = .mk 0 0 []:=by
 have:=elem_mem h
 exact (List.mem_replicate.1 this).2
theorem zeros_deep (m n i:Nat) (hi:i < m):deepF (zeros m) (n + 1) (vr i) [] [] = some (some (1,[],[])):=by
 have he:∃ x,elemT (zeros m) (vr i) = some x ∧ x ∈ zeros m:=ins_elem (ins_vr (show i < (zeros m).length by rw [zeros,List.length_replicate]; exact hi)) rfl
 obtain ⟨x,he,_⟩:=he
 have hx:=zeros_elem he
 subst hx
 rw [deepF_arg (x:=.mk 0 0 []) (by rw [if_pos (show (vr i).kind = 9 from rfl)]; exact he) rfl]
 rfl
theorem zeros_formL (m n:Nat):∀ i,i ≤ m → formL (zeros m) (n + 1) i = some (some (false,[],[]))
 | 0,_ => rfl
 | i + 1,hi => by
  rw [formL,zeros_formL m n i (by omega)]
  simp only
  rw [zeros_deep m n i (by omega)]
  rfl
theorem zeros_form (m n:Nat):∃ d o,formR (zeros m) (n + 1) = some (some (d,o)):=by
 have hl:(zeros m).length = m:=by rw [zeros,List.length_replicate]
 refine ⟨[],[],?_⟩
 unfold formR
 rw [if_pos,hl,zeros_formL m n m (Nat.le_refl _)]
 ·rfl
 ·rw [List.all_eq_true]
  intro x hx
  rw [(List.mem_replicate.1 hx).2]
  rfl
theorem zeros_good (m:Nat):Good (zeros m):=(zeros_form m 0).elim fun d h => h.elim fun o h => formR_good h
theorem zeros_front {m n:Nat} {t:Ty} (ht:ins m t = true):frontF (zeros m) (n + 1) t = some t:=by
 by_cases h9:t.kind = 9
 ·obtain ⟨x,he,_⟩:=ins_elem (s:=zeros m) (by rw [zeros,List.length_replicate]; exact ht) h9
  exact front_self h9 he (by rw [zeros_elem he]; rfl) n
 ·exact front_arg h9 n
theorem fails_kinds {n m:Nat} {a b:Ty} {r:List Ty} {e:Int} (hu:UR n (zeros m) a b r e) (ha:ins m a = true) (hb:ins m b = true) (hd:dpt a ≤ 8) (hdb:dpt b ≤ 8) (hk:a.kind ≠ b.kind) (h9:a.kind ≠ 9) (h9b:b.kind ≠ 9):e = 8:=by
 have hl:(zeros m).length = m:=by rw [zeros,List.length_replicate]
 refine UR.no hu (zeros_form m 1) ?_ (m:=2) ?_
 ·unfold preU
  rw [hl,ha,hb,decide_eq_false (by omega)]; rfl
 ·rw [eqF_at (zeros_front ha) (zeros_front hb),if_neg (fun q => h9 q.1),if_neg h9,if_neg h9b,if_pos (.inl hk)]
theorem fails_occurs {n m k q:Nat} {a:Ty} {r:List Ty} {e:Int} (hu:UR n (zeros m) (vr k) a r e) (hk:k < m) (ha:ins m a = true) (hd:dpt a ≤ 8) (h9:a.kind ≠ 9) (ho:occF (zeros m) k q a = some true):e = 8:=by
 have hl:(zeros m).length = m:=by rw [zeros,List.length_replicate]
 have hv:ins m (vr k) = true:=ins_vr hk
 refine UR.no hu (zeros_form m (q + 1)) ?_ (m:=q + 2) ?_
 ·unfold preU
  rw [hl,ha,hv,decide_eq_false (by have:dpt (vr k) = 1:=rfl; omega)]; rfl
 ·rw [eqF_at (zeros_front hv) (zeros_front ha),if_neg (fun p => h9 p.2),if_pos (show (vr k).kind = 9 from rfl),show occF (zeros m) (vr k).id (q + 1) a = some true from occ_mono (Nat.le_succ q) ho]
def Nb (lo hi:Int):List TO → C → Prop:=fun Mo v => Mo = [] ∧ ∃ n:Int,v = IC n ∧ lo ≤ n ∧ n ≤ hi
section
variable {L:TL} {ρ:TEnv}
theorem callNb {lo hi:Int} {f:Nat} {args args':List C} {K:TL → TEnv → C → Prop} (h:CallsT P f args' [] (Nb lo hi)) (ha:(args.map fun c => c.canA.ren (toIn [] 1000)) = args') (k:∀ n:Int,lo ≤ n → n ≤ hi → K L ρ (IC n)):CallT P f args L ρ K:=by
 subst ha
 exact .mk ⟨[],[],[],L,[],_,.inl rfl,rfl,rfl,rfl,rfl,rfl,h,fun v Mo ⟨e1,n,e2,hp1,hp2⟩ hw _ => by subst e1 e2; exact ⟨rfl,k n hp1 hp2⟩⟩
theorem retNb {Lin:List TO} {v:C} {lo hi:Int} (n:Int) (hb:boxesAt Lin (List.range' 1000 Lin.length) [] = true) (e:v.canR.ren (toIn [] 1000) = IC n) (h1:lo ≤ n) (h2:n ≤ hi):RetT Lin L v (Nb lo hi) :=
 retR [] rfl (by simp only [Bool.and_eq_true]; exact ⟨rfl,hb⟩) rfl e ⟨rfl,n,rfl,h1,h2⟩
end
theorem t54 (s:List Ty):∀ (m:Nat) (left:Int) (t:Ty),left ≤ m → 1 ≤ left → left ≤ 101 → CallsT P 54 [.sl (s.map tyC),tyA t,IC left] [] (Nb 0 (left - 1))
 | 0,left,t,h0,h1,h2 => absurd h1 (by omega)
 | m + 1,left,t,h0,h1,h2 => by
  have ih:=fun left' t' (a:left' ≤ (m:Int)) (b:1 ≤ left') => t54 s m left' t' a b
  have h55:=t55 t
  have hsm:(s.map tyC).length = s.length:=List.length_map _
  have hlm:(t.args.map tyC).length = t.args.length:=List.length_map _
  refine callsT_facts Try.func54 facts54 rfl fun hw _ => ?_
  have hlen:t.args.length ≤ 9223372036854775807:=wf_lenT hw.2.1.2.2.1
  refine Fit.in64 (by omega) (by omega) ?_
  refine callP h55 rfl fun _ => ?_
  refine brn_p (fun h3 => brn_p (fun h4 => brn_p (fun h5 => exE (substHit (a:=s) h4 h5) fun x hx => idxZ h4 hx.1 (brn_n (fun h6 => brn_p (fun h7 => ?_) (fun h7 => ?_)) (fun h6 => ?_))) (fun h5 => ?_)) (fun h4 => ?_)) (fun h3 => ?_)
  ·refine idxZ h4 hx.1 ?_
   refine callNb (ih (left - 1) x (by omega) (by omega) (by omega)) rfl fun n hn1 hn2 => ?_
   exact retNb n rfl rfl hn1 (by omega)
  all_goals
   refine loopN t.args.length 7 [2] (left - 1) (fun n => [IC n]) (fun _ => []) (fun _ n => 0 ≤ n ∧ n ≤ left - 1) ⟨by omega,Int.le_refl _⟩ (same_keys rfl) ⟨same_keys rfl,trivial⟩ trivial (fun _ => rfl) (fun _ => rfl) ?_
   rintro k n hk ⟨hn1,hn2⟩ _ _ _
   refine brn_p (fun hlt => ?_) (fun hge => ?_)
   ·have hlt:k < t.args.length:=by rw [hlm] at hlt; omega
    refine withGet hlt fun y hy hym => ?_
    refine brn_p (fun h8 => ?_) (fun h8 => ?_)
    ·refine idxTy hy ?_
     refine callNb (ih n y (by omega) (by omega) (by omega)) rfl fun n' hn1' hn2' => ?_
     refine Fit.in64 (by omega) (by omega) ?_
     exact ⟨(k + 1,n'),⟨hlt,hn1',by omega⟩,⟨nextI,same_keys rfl,trivial⟩,trivial,nextM hlt⟩
    ·exact retNb n rfl rfl hn1 hn2
   ·exact retNb n rfl rfl hn1 hn2
theorem t19 (s l:List Ty):CallsT P 19 [.sl (s.map tyC),.sl (l.map tyC)] [] (Such True):=by
 have h54:=fun t => t54 s 101 101 t (by omega) (by omega) (by omega)
 have hsm:(s.map tyC).length = s.length:=List.length_map _
 have hlm:(l.map tyC).length = l.length:=List.length_map _
 refine callsT_facts Try.func19 facts19 rfl fun hw _ => ?_
 have hl1:s.length ≤ 9223372036854775807:=wf_lenT hw.1
 have hl2:l.length ≤ 9223372036854775807:=wf_lenT hw.2.1
 refine loopN l.length 5 [] () (fun _ => []) (fun _ => []) (fun _ _ => True) trivial (same_keys rfl) trivial trivial (fun _ => rfl) (fun _ => rfl) ?_
 rintro k _ hk _ _ _ _
 refine brn_p (fun hlt => ?_) (fun hge => ?_)
 ·have hlt:k < l.length:=by rw [hlm] at hlt; omega
  refine withGet hlt fun y hy hym => ?_
  refine idxTy hy ?_
  refine callNb (h54 y) rfl fun n hn1 hn2 => ?_
  refine brn_p (fun _ => ?_) (fun _ => ?_)
  ·exact retB false rfl rfl fun _ => trivial
  ·refine Fit.in64 (by omega) (by omega) ?_
   exact ⟨(k + 1,()),⟨hlt,trivial⟩,⟨nextI,trivial⟩,trivial,nextM hlt⟩
 ·refine loopN s.length 6 [] () (fun _ => []) (fun _ => []) (fun _ _ => True) trivial (same_keys rfl) trivial trivial (fun _ => rfl) (fun _ => rfl) ?_
  rintro k _ hk _ _ _ _
  refine brn_p (fun hlt => ?_) (fun hge => ?_)
  ·have hlt:k < s.length:=by rw [hsm] at hlt; omega
   refine callNb (h54 (vr k)) rfl fun n hn1 hn2 => ?_
   refine brn_p (fun _ => ?_) (fun _ => ?_)
   ·exact retB false rfl rfl fun _ => trivial
   ·refine Fit.in64 (by omega) (by omega) ?_
    exact ⟨(k + 1,()),⟨hlt,trivial⟩,⟨nextI,trivial⟩,trivial,nextM hlt⟩
  ·exact retB true rfl rfl fun _ => trivial
theorem t69 (s:List Ty) (n:Nat) (t r:Ty) (h:frontF s n t = some r):CallsT P 69 [.sl (s.map tyC),tyA t] [] (Ret [] (tyA r)):=by
 have h55:=t55
 refine callsT_facts Try.func69 facts69 rfl fun hw _ => ?_
 refine LoopT.mk ⟨Nat × Ty,(n,t),fun x => frontF s x.1 x.2 = some r,[],fun _ => [],fun x => [(3,.box 32 [IC x.2.kind,IC x.2.id,.sl (x.2.args.map tyC)]),(4,.box 32 [IC 0,IC 0,.nils])],fun x => x.1,h,trivial,
  ⟨.inl ⟨_,rfl,.inl ⟨rfl,rfl⟩⟩,.inl ⟨_,rfl,.inl ⟨rfl,rfl⟩⟩,trivial⟩,fun _ => rfl,fun _ => rfl,?_⟩
 rintro ⟨n,c⟩ hinv _ _
 refine exE (front_step hinv) fun m hm => ?_
 refine callP (h55 c) rfl fun _ => ?_
 refine brn_p (fun h9 => ?_) (fun h9 => ?_)
 ·refine exE (hm.2.resolve_left fun q => q.1 h9).2 fun x hh => ?_
  have h0:=hh.1
  have hx:=hh.2.1
  refine idxZ h0 hx ?_
  refine brn_n (fun hk => ?_) (fun hk => ?_)
  ·have hr:=hh.2.2.resolve_left fun q => hk q.1
   refine idxZ h0 hx ?_
   exact ⟨(m,x),hr.2,trivial,⟨.inl ⟨_,rfl,.inl ⟨rfl,rfl⟩⟩,.inl ⟨_,rfl,.inl ⟨rfl,rfl⟩⟩,trivial⟩,by have e:n = m + 1:=hm.1; show m < n; omega⟩
  ·have hr:=hh.2.2.resolve_right fun q => q.1 hk
   exact retP rfl (by rw [hr.2]; rfl)
 ·have hr:=hm.2.resolve_right fun q => h9 q.1
  exact retP rfl (by rw [hr.2]; rfl)
theorem t28o (s:List Ty) (v:Int) (t r:Ty) (h:CallsT P 69 [.sl (s.map tyC),tyA t] [] (Ret [] (tyA r))) (q:Ty → Bool) (ih:∀ x ∈ r.args,¬ r.kind = 9 → CallsT P 28 [.sl (s.map tyC),IC v,tyA x] [] (Ret [] (.bool (q x)))) :
  CallsT P 28 [.sl (s.map tyC),IC v,tyA t] [] (Ret [] (.bool (if r.kind = 9 then decide (r.id = v) else r.args.any q))):=by
 have h55:=t55 r
 have hlm:(r.args.map tyC).length = r.args.length:=List.length_map _
 refine callsT_facts Try.func28 facts28 rfl fun hw _ => ?_
 refine callP h rfl fun hwr => ?_
 have hlen:r.args.length ≤ 9223372036854775807:=wf_lenT hwr.2.2.1
 refine callP h55 rfl fun _ => ?_
 refine brn_p (fun h9 => ?_) (fun h9 => ?_)
 ·exact retP rfl (congrArg C.bool (if_pos h9).symm)
 refine loopN r.args.length 7 [] () (fun _ => []) (fun _ => [(5,.box 32 [IC r.kind,IC r.id,.sl (r.args.map tyC)])]) (fun k _ => (r.args.drop k).any q = r.args.any q) rfl (same_keys rfl) trivial ⟨.inl ⟨_,rfl,.inl ⟨rfl,rfl⟩⟩,trivial⟩ (fun _ => rfl) (fun _ => rfl) ?_
 rintro k _ hk hinv _ _ _
 refine brn_p (fun hlt => ?_) (fun hge => ?_)
 ·have hlt:k < r.args.length:=by rw [hlm] at hlt; omega
  refine withDrop hlt fun x hx hxm hdr => ?_
  refine idxTy hx ?_
  refine callP (ih x hxm h9) rfl fun _ => ?_
  refine brn_split (fun h => ?_) (fun h => ?_)
  ·exact retP rfl (congrArg C.bool (by rw [if_neg h9]; exact any_yes hdr hinv h))
  ·refine Fit.in64 (by omega) (by omega) ?_
   exact ⟨(k + 1,()),⟨hlt,any_drop hdr hinv h⟩,⟨nextI,trivial⟩,⟨.inl ⟨_,rfl,.inl ⟨rfl,rfl⟩⟩,trivial⟩,nextM hlt⟩
 ·have hge:¬ k < r.args.length:=by rw [hlm] at hge; omega
  exact retP rfl (congrArg C.bool (by rw [if_neg h9]; exact any_end hge hinv))
theorem t28 (s:List Ty) (v:Int):∀ (n:Nat) (t:Ty) (b:Bool),occF s v n t = some b → CallsT P 28 [.sl (s.map tyC),IC v,tyA t] [] (Ret [] (.bool b))
 | 0,t,b,h => by cases h
 | n + 1,t,b,h => by
  rw [occF] at h
  cases hf:frontF s n t with
  | none => rw [hf] at h; cases h
  | some r =>
   simp only [hf] at h
   by_cases h9:r.kind = 9
   ·rw [if_pos h9] at h
    injection h with h
    have:=t28o s v t r (t69 s n t r hf) (fun _ => false) fun x _ q => absurd h9 q
    rw [if_pos h9,h] at this
    exact this
   ·rw [if_neg h9] at h
    obtain ⟨h1,h2⟩:=anyO_some h
    have:=t28o s v t r (t69 s n t r hf) (fun x => (occF s v n x).getD false) fun x hx _ => t28 s v n x _ (h1 x hx)
    rw [if_neg h9,h2] at this
    exact this
theorem zeros_map (m:Nat):(zeros m).map tyC = List.replicate m [IC 0,IC 0,.sl []]:=by rw [zeros,List.map_replicate]; rfl
theorem zeros_TyB {m:Nat}:∀ x ∈ zeros m,TyB x:=fun x hx => by
 rw [(List.mem_replicate.1 hx).2]; exact (tyB_eq _).2 ⟨Nat.zero_le _,fun x h => by cases h⟩
abbrev zC (m:Nat):C:=.sl (List.replicate m [IC 0,IC 0,.sl []])
theorem fails_calls (m k:Nat) (hm:m ≤ 8) (hk:k < m) (a b:Ty) (ha:TyB a) (hb:TyB b) (hda:dpt a ≤ 8) (hdb:dpt b ≤ 8) (ia:ins m a = true) (ib:ins m b = true):∃ n1 n2 o,CallsT P 23 [zC m,tyA a,tyA b] [] (RN n1 (zeros m) a b) ∧ CallsT P 23 [zC m,tyA (vr k),tyA a] [] (RN n2 (zeros m) (vr k) a) ∧ CallsT P 28 [zC m,IC k,tyA a] [] (Ret [] (.bool o)) ∧
  (∀ r e,UR n1 (zeros m) a b r e → a.kind ≠ b.kind → a.kind ≠ 9 → b.kind ≠ 9 → e = 8) ∧ ∀ r e,UR n2 (zeros m) (vr k) a r e → a.kind ≠ 9 → o = true → e = 8:=by
 have hl:(zeros m).length = m:=by rw [zeros,List.length_replicate]
 obtain ⟨n1,h1,_⟩:=unifyN (s:=zeros m) (a:=a) (b:=b) (by rw [hl]; omega) zeros_TyB ha hb (by omega) (by omega)
 obtain ⟨n2,h2,_⟩:=unifyN (s:=zeros m) (a:=vr k) (b:=a) (by rw [hl]; omega) zeros_TyB (vr_TyB k) ha (by have:dpt (vr k) = 1:=rfl; omega) (by omega)
 obtain ⟨q,o,h3⟩:=((zeros_good m).all a (by rw [hl]; exact ia)).occ k
 have h4:=t28 (zeros m) k q a o h3
 rw [zeros_map] at h1 h2 h4
 refine ⟨n1,n2,o,h1,h2,h4,fun r e hu q1 q2 q3 => fails_kinds hu ia ib hda hdb q1 q2 q3,fun r e hu q1 q2 => fails_occurs hu hk ia hda q1 (by rw [h3,q2])⟩
set_option maxRecDepth 100000 in
theorem t6o (n:Int) (a b:Ty) (w:Int) (m k:Nat) (hn:0 ≤ n ∧ n ≤ 255) (hw0:0 ≤ w ∧ w ≤ 255) (hm:(m:Int) = 1 + n % 8) (hk:(k:Int) = w % m):CallsT P 6 [.int .u8 n,tyA a,tyA b,.int .u8 w] [] (Ret [] (.bool true)):=by
 have s2:=t12two a b
 have d2:=@small_two a b
 have h21:=t21 m
 have h18:=t18
 have hc:=fails_calls m k (by omega) (by have:=Int.emod_lt_of_pos w (show (0:Int) < m by omega); omega) a b
 generalize hsm:smallL = sm at s2 d2
 generalize hins:ins m = Ins at h21 hc
 generalize hdp:dpt = D at h18 hc d2
 generalize hUR:UR = U at hc
 refine callsT_facts Try.func6 facts6 rfl fun hw _ => ?_
 refine callP t11 rfl fun _ => ?_
 refine Fit.in64 (by omega) (by omega) ?_
 refine NonZ.mk (by omega) ?_
 refine fitTo (m:=(m:Int)) (by rw [IntKind.wrap_i64,Int.tmod_eq_emod_of_nonneg (by omega)]; omega) ?_
 refine MakePt.mk (by omega) (Int.le_refl _) (by omega) (by simp only [maxLen]; omega) ?_
 refine callP s2 rfl fun _ => ?_
 refine brn_split (fun q => ?_) (fun e1 => ?_)
 ·exact retP rfl rfl
 have e1:sm [a,b] = true:=by simpa using e1
 have hB:=d2 e1
 have hkk:∀ z:List C,w.tmod ((List.replicate (m:Int).toNat z).length:Int) = k:=fun z => by rw [List.length_replicate,show (((m:Int).toNat:Nat):Int) = m from rfl,Int.tmod_eq_emod_of_nonneg hw0.1,hk]
 have hrep:∀ z:List C,((List.replicate (m:Int).toNat z).length:Int) = m:=fun z => by rw [List.length_replicate]; rfl
 refine callP (h21 a) (congrArg (fun z => [tyA a,IC z]) (hrep _)) fun _ => ?_
 refine brn_split (fun q => ?_) (fun e2 => ?_)
 ·exact retP rfl rfl
 refine callP (h21 b) (congrArg (fun z => [tyA b,IC z]) (hrep _)) fun _ => ?_
 refine brn_split (fun q => ?_) (fun e3 => ?_)
 ·exact retP rfl rfl
 refine callP (h18 a (by omega)) rfl fun _ => ?_
 refine brn_p (fun q => ?_) (fun e4 => ?_)
 ·exact retP rfl rfl
 refine callP (h18 b (by omega)) rfl fun _ => ?_
 refine brn_p (fun q => ?_) (fun e5 => ?_)
 ·exact retP rfl rfl
 refine exE (hc hB.1.1 hB.2.1 (by omega) (by omega) (by simpa using e2) (by simpa using e3)) fun n1 h => exE h fun n2 h => exE h fun o h => ?_
 subst hUR
 refine callRN h.1 rfl fun r e hu _ => ?_
 refine brn_n (fun e6 => brn_n (fun e7 => brn_n (fun e8 => brn_n (fun q => absurd (h.2.2.2.1 r e hu e6 e7 e8) q) fun e9 => ?_) fun e8 => ?_) fun e7 => ?_) fun e6 => ?_
 all_goals
  refine Fit.in64 (by omega) (by omega) ?_
  refine NonZ.mk (by rw [hrep]; omega) ?_
  refine callPD (t27 k) (congrArg (fun z => [IC z]) (hkk _)) fun _ => ?_
  refine callRND h.2.1 rfl fun r2 e2 hu2 _ => ?_
  refine brn_p (fun q9 => ?_) (fun q9 => ?_)
  ·exact retP rfl rfl
  refine callP h.2.2.1 (congrArg (fun z => [zC m,IC z,tyA a]) (hkk _)) fun _ => ?_
  refine brn_split (fun q => ?_) (fun q10 => ?_)
  ·exact retP rfl rfl
  exact retP rfl (congrArg C.bool (decide_eq_true (h.2.2.2.2 r2 e2 hu2 q9 (by simpa using q10))))
theorem t6 (n:Int) (a b:Ty) (w:Int) (hn:0 ≤ n ∧ n ≤ 255) (hw:0 ≤ w ∧ w ≤ 255):CallsT P 6 [.int .u8 n,tyA a,tyA b,.int .u8 w] [] (Ret [] (.bool true)):=by
 have h1:0 ≤ n % 8:=Int.emod_nonneg _ (by omega)
 have h2:0 ≤ w % (1 + n % 8):=Int.emod_nonneg _ (by omega)
 have e:((1 + n % 8).toNat:Int) = 1 + n % 8:=by omega
 exact t6o n a b w (1 + n % 8).toNat (w % (1 + n % 8)).toNat hn hw e (by rw [e]; omega)
end Go.Fr.Try
