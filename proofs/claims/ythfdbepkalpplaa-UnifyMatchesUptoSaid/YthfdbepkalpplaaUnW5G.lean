/- Part of the proofs of the statements of this seat. -/
import Derived.Test.YthfdbepkalpplaaUnM6G
set_option maxRecDepth 10000
set_option linter.unusedVariables false
set_option linter.unusedSimpArgs false
namespace Go.Fr.Try
open Go Go.RowKit Go.Proofs Go.Fr Go.Fr.T Go.Fr.Api
theorem CallsT.imp {P:Program} {f:Nat} {args:List C} {Lin:List TO} {R R':List TO → C → Prop} (h:CallsT P f args Lin R) (hk:∀ Mo c,R Mo c → R' Mo c):CallsT P f args Lin R' :=
 CallsTX.noPan (CallsTX.imp (Pp:=fun _ => False) h.toX hk fun v q => q)
mutual
def cnt:Ty → Nat
 | .mk _ _ l => cntL l + 1
def cntL:List Ty → Nat
 | [] => 0
 | t :: l => cnt t + cntL l
end
theorem cnt_eq (t:Ty):cnt t = cntL t.args + 1:=by cases t; rfl
theorem fewL_ge:∀ (l:List Ty) (m n:Int),0 ≤ m → n ≤ fewL l m n
 | [],m,n,_ => by rw [fewL]; exact Int.le_refl _
 | x :: l,m,n,h0 => by
  rw [fewL]
  split
  ·rename_i h
   have:=(few_bd x (m - n) (by omega)).1
   have:=fewL_ge l m (n + few x (m - n)) h0
   omega
  ·exact Int.le_refl _
mutual
theorem few_cnt:∀ (t:Ty) (m:Int),0 ≤ m → few t m ≤ m → (cnt t:Int) = few t m
 | .mk _ _ l,m,h0,h => by
  rw [few] at h ⊢
  rw [cnt,← fewL_cnt l m 1 h0 h]
  omega
theorem fewL_cnt:∀ (l:List Ty) (m n:Int),0 ≤ m → fewL l m n ≤ m → n + (cntL l:Int) = fewL l m n
 | [],m,n,_,_ => by rw [fewL,cntL]; omega
 | x :: l,m,n,h0,h => by
  rw [fewL] at h ⊢
  split at h
  ·rename_i hn
   rw [if_pos hn]
   have hge:=fewL_ge l m (n + few x (m - n)) h0
   have h1:=few_cnt x (m - n) (by omega) (by omega)
   have h2:=fewL_cnt l m (n + few x (m - n)) h0 h
   rw [cntL]
   omega
  ·omega
end
theorem cnt_mem:∀ {l:List Ty} {x:Ty},x ∈ l → cnt x ≤ cntL l
 | t :: l,x,h => by
  rw [cntL]
  rcases List.mem_cons.1 h with rfl | h
  ·omega
  ·have:=cnt_mem h; omega
theorem cntL_len:∀ l:List Ty,l.length ≤ cntL l
 | [] => Nat.le_refl _
 | t :: l => by have:=cntL_len l; have:=cnt_eq t; rw [cntL,List.length_cons]; omega
theorem cnt_TyB:∀ t:Ty,cnt t ≤ 2 ^ 30 → TyB t:=tyInd fun t ih h => by
 rw [cnt_eq] at h
 rw [tyB_eq]
 exact ⟨by have:=cntL_len t.args; omega,fun x hx => ih x hx (by have:=cnt_mem hx; omega)⟩
theorem cnt_dpt:∀ t:Ty,dpt t ≤ cnt t:=tyInd fun t ih => by
 rw [cnt_eq,dpt_eq]
 have:dpts t.args ≤ cntL t.args:=dpts_le fun x hx => Nat.le_trans (ih x hx) (cnt_mem hx)
 omega
theorem small_all {l:List Ty} (h:smallL l = true):l.length ≤ 8 ∧ ∀ x ∈ l,TyB x ∧ dpt x ≤ 30:=by
 unfold smallL at h
 rw [Bool.and_eq_true,List.all_eq_true,decide_eq_true_eq] at h
 refine ⟨by omega,fun x hx => ?_⟩
 have h1:=of_decide_eq_true (h.1 x hx)
 have h2:=few_cnt x 30 (by omega) h1
 exact ⟨cnt_TyB x (by omega),by have:=cnt_dpt x; omega⟩
theorem small_two {a b:Ty} (h:smallL [a,b] = true):(TyB a ∧ dpt a ≤ 30) ∧ TyB b ∧ dpt b ≤ 30:=⟨(small_all h).2 a (by simp),(small_all h).2 b (by simp)⟩
theorem t24no (p t:Ty) (n:Nat) (hn:n ≤ 4) (m:TM) (hm:fitM n p t [] = (m,false)):CallsT P 24 [tyA p,tyA t,IC n] [] (Ret [] (.tup [.sl [],.bool false])):=by
 have h66:=t66 n p t []
 rw [hm] at h66
 refine callsT_facts Try.func24 facts24 rfl fun hw _ => ?_
 refine brn_p (fun h => absurd h (by omega)) (fun _ => ?_)
 refine callO [9,8,19] [9,8,19] h66 rfl rfl rfl rfl rfl fun _ _ => ?_
 exact retP rfl rfl
def matchR (n:Nat) (p t:Ty):List Ty × Bool:=if (fitM n p t []).2 then (outM n (fitM n p t []).1,true) else ([],false)
theorem t24 (p t:Ty) (n:Nat) (hn:n ≤ 4):CallsT P 24 [tyA p,tyA t,IC n] [] (Ret [] (.tup [.sl ((matchR n p t).1.map tyC),.bool (matchR n p t).2])):=by
 unfold matchR
 cases h:fitM n p t [] with
 | mk m b =>
  cases b with
  | true => exact t24ok p t n hn m h
  | false => exact t24no p t n hn m h
theorem U1B.no {n:Nat} {s:List Ty} {a b:Ty} {e:Int} (h1:∃ d o,formR s n = some (some (d,o))) (hp:preU s a b = true) (h2:eqF n s a b = some none) (h:U1B n s a b e):e = 8:=by
 obtain ⟨d,o,h1⟩:=h1
 rcases h with ⟨q,_⟩ | ⟨_,⟨q,_⟩ | ⟨_,⟨_,q⟩ | ⟨s',q,_⟩⟩⟩
 ·rw [h1] at q; cases q
 ·rw [hp] at q; cases q
 ·exact q
 ·rw [h2] at q; cases q
theorem eqF_TyB:∀ (n:Nat) (s:List Ty) (a b:Ty) (s':List Ty),(∀ x ∈ s,TyB x) → TyB a → TyB b → eqF n s a b = some (some s') → ∀ x ∈ s',TyB x:=by
 intro n
 induction n with
 | zero => intro s a b s' _ _ _ h; cases h
 | succ n ih =>
  intro s a b s' hs ha hb h
  have hfr:∀ {t r:Ty},frontF s n t = some r → TyB t → TyB r:=fun hf ht => front_inv (p:=TyB) (fun t x _ _ he _ => hs x (elem_mem he)) hf ht
  have hset:∀ {i:Nat} {b:Ty},TyB b → ∀ x ∈ s.set i b,TyB x:=fun hb x hx => by
   rcases List.mem_or_eq_of_mem_set hx with hx | rfl
   ·exact hs x hx
   ·exact hb
  cases fa:frontF s n a with
  | none => rw [eqF,fa] at h; cases h
  | some a' =>
  cases fb:frontF s n b with
  | none => rw [eqF,fa,fb] at h; cases h
  | some b' =>
  rw [eqF_at fa fb] at h
  have ha':=hfr fa ha
  have hb':=hfr fb hb
  split at h
  ·split at h
   ·injection h with h; injection h with h; exact h ▸ hs
   ·injection h with h; injection h with h; rw [← h]
    exact hset ((tyB_eq _).2 ⟨Nat.zero_le _,fun x h => by cases h⟩)
  ·split at h
   ·cases ho:occF s a'.id n b' with
    | none => rw [ho] at h; cases h
    | some o =>
     rw [ho] at h
     cases o with
     | true => cases h
     | false => injection h with h; injection h with h; rw [← h]; exact hset hb'
   ·split at h
    ·exact ih s b' a' s' hs hb' ha' h
    ·split at h
     ·cases h
     ·have hL:∀ (l l':List Ty) (s:List Ty),(∀ x ∈ l,TyB x) → (∀ x ∈ l',TyB x) → (∀ x ∈ s,TyB x) → eqLF (eqF n) s l l' = some (some s') → ∀ x ∈ s',TyB x:=by
       intro l
       induction l with
       | nil => intro l' s _ _ hs h; rw [eqLF] at h; injection h with h; injection h with h; exact h ▸ hs
       | cons x l ihl =>
        intro l' s h1 h2 hs h
        cases l' with
        | nil => cases h
        | cons y l' =>
         rw [eqLF] at h
         cases hx:eqF n s x y with
         | none => rw [hx] at h; cases h
         | some r =>
          rw [hx] at h
          cases r with
          | none => cases h
          | some s1 => exact ihl l' s1 (fun z hz => h1 z (by simp [hz])) (fun z hz => h2 z (by simp [hz])) (ih s x y s1 hs (h1 x (by simp)) (h2 y (by simp)) hx) h
      exact hL a'.args b'.args s ((tyB_eq a').1 ha').2 ((tyB_eq b').1 hb').2 hs h
theorem unifyN {s:List Ty} {a b:Ty} (hl:s.length ≤ 2 ^ 30) (hs:∀ x ∈ s,TyB x) (ha:TyB a) (hb:TyB b) (hda:dpt a ≤ 2 ^ 40) (hdb:dpt b ≤ 2 ^ 40):∃ n,CallsT P 23 [.sl (s.map tyC),tyA a,tyA b] [] (RN n s a b) ∧ (∀ s',U1G n s a b s' → Nxt s s') ∧ ∃ r,formR s n = some r:=by
 obtain ⟨n,F,hc,hx⟩:=fuelU s a b
 refine ⟨n,unify n s a b hl F hda hdb fun s' h => ⟨by rw [(hx s' h).len]; exact hl,?_,hc s' h⟩,hx,F.form⟩
 exact eqF_TyB n s a b s' hs ha hb h.2.2.1
theorem formR_one {s:List Ty} {n m:Nat} {r q:Option (DM × OM)} (h:formR s n = some r) (k:formR s m = some q):r = q:=by
 have h1:=formR_mono (Nat.le_max_left n m) h
 have h2:=formR_mono (Nat.le_max_right n m) k
 rw [h1] at h2; exact Option.some.inj h2
theorem eqF_one {s:List Ty} {a b:Ty} {n m:Nat} {r q:Option (List Ty)} (h:eqF n s a b = some r) (k:eqF m s a b = some q):r = q:=by
 have h1:=eq_mono (Nat.le_max_left n m) h
 have h2:=eq_mono (Nat.le_max_right n m) k
 rw [h1] at h2; exact Option.some.inj h2
theorem deep_one {s:List Ty} {t:Ty} {d:DM} {o:OM} {n m:Nat} {r q:Option (Int × DM × OM)} (h:deepF s n t d o = some r) (k:deepF s m t d o = some q):r = q:=by
 have h1:=deep_mono (Nat.le_max_left n m) h
 have h2:=deep_mono (Nat.le_max_right n m) k
 rw [h1] at h2; exact Option.some.inj h2
theorem canon_one {s:List Ty} {n m:Nat} {r q:List Ty} (h:canonF s n = some r) (k:canonF s m = some q):r = q:=by
 have h1:=canon_mono (Nat.le_max_left n m) h
 have h2:=canon_mono (Nat.le_max_right n m) k
 rw [h1] at h2; exact Option.some.inj h2
section
variable {s:List Ty} {a b:Ty} (hl:s.length ≤ 2 ^ 30) (hs:∀ x ∈ s,TyB x) (ha:TyB a) (hb:TyB b) (hda:dpt a ≤ 2 ^ 40) (hdb:dpt b ≤ 2 ^ 40)
include hl hs ha hb hda hdb
theorem unify_no {m:Nat} (h1:∃ d o,formR s m = some (some (d,o))) (hp:preU s a b = true) (h2:eqF m s a b = some none):CallsT P 23 [.sl (s.map tyC),tyA a,tyA b] [] (Ret [] (.tup [.sl [],IC 8])):=by
 obtain ⟨n,h,hx,r,hr⟩:=unifyN hl hs ha hb hda hdb
 obtain ⟨d,o,h1⟩:=h1
 refine CallsT.imp h ?_
 rintro Mo c ⟨rfl,r,e,hu,rfl⟩
 rcases hu with ⟨s',g,_⟩ | ⟨g,rfl⟩
 ·have:=eqF_one h2 g.2.2.1; cases this
 ·rcases g with ⟨q,_⟩ | ⟨_,⟨q,_⟩ | ⟨_,⟨_,q⟩ | ⟨s',q,_⟩⟩⟩
  ·have:=formR_one h1 q; cases this
  ·rw [hp] at q; cases q
  ·subst q; exact ⟨rfl,rfl⟩
  ·have:=eqF_one h2 q; cases this
theorem unify_arg {m:Nat} (h1:∃ d o,formR s m = some (some (d,o))) (hp:preU s a b = false):CallsT P 23 [.sl (s.map tyC),tyA a,tyA b] [] (Ret [] (.tup [.sl [],IC 1])):=by
 obtain ⟨n,h,hx,r,hr⟩:=unifyN hl hs ha hb hda hdb
 obtain ⟨d,o,h1⟩:=h1
 refine CallsT.imp h ?_
 rintro Mo c ⟨rfl,r,e,hu,rfl⟩
 rcases hu with ⟨s',g,_⟩ | ⟨g,rfl⟩
 ·rw [g.2.1] at hp; cases hp
 ·rcases g with ⟨q,_⟩ | ⟨_,⟨_,q⟩ | ⟨q,_⟩⟩
  ·have:=formR_one h1 q; cases this
  ·subst q; exact ⟨rfl,rfl⟩
  ·rw [q] at hp; cases hp
theorem unify_ok {m:Nat} (s' r:List Ty) (d:DM) (o:OM) (k:Int) (h1:∃ d o,formR s m = some (some (d,o))) (hp:preU s a b = true) (h2:eqF m s a b = some (some s')) (h3:formR s' m = some (some (d,o))) (h4:∃ d' o',deepF s' m a d o = some (some (k,d',o'))) (hk:k ≤ 8) (h5:canonF s' m = some r) :
  CallsT P 23 [.sl (s.map tyC),tyA a,tyA b] [] (Ret [] (.tup [.sl (r.map tyC),IC 0])):=by
 obtain ⟨n,h,hx,r',hr⟩:=unifyN hl hs ha hb hda hdb
 obtain ⟨d1,o1,h1⟩:=h1
 obtain ⟨d2,o2,h4⟩:=h4
 refine CallsT.imp h ?_
 rintro Mo c ⟨rfl,r'',e,hu,rfl⟩
 rcases hu with ⟨s'',g,hc,rfl⟩ | ⟨g,rfl⟩
 ·have e1:=eqF_one h2 g.2.2.1
  injection e1 with e1
  subst e1
  rw [canon_one hc h5]
  exact ⟨rfl,rfl⟩
 ·rcases g with ⟨q,_⟩ | ⟨_,⟨q,_⟩ | ⟨_,⟨q,_⟩ | ⟨s'',q,_,q2⟩⟩⟩
  ·have:=formR_one h1 q; cases this
  ·rw [hp] at q; cases q
  ·have:=eqF_one h2 q; cases this
  ·have e1:=eqF_one h2 q
   injection e1 with e1
   subst e1
   rcases q2 with q2 | ⟨d',o',q2,q3⟩
   ·have:=formR_one h3 q2; cases this
   ·have e2:=formR_one h3 q2
    injection e2 with e2
    injection e2 with e2 e3
    subst e2 e3
    rcases q3 with q3 | ⟨k',d'',o'',q3,q4⟩
    ·have:=deep_one h4 q3; cases this
    ·have e4:=deep_one h4 q3
     injection e4 with e4
     injection e4 with e4
     omega
end
def zT:Ty:=.mk 0 0 []
def iT:Ty:=.mk 1 0 []
def bx (t:Ty):Ty:=.mk 3 0 [t]
def two:List Ty:=[zT,zT]
theorem tb_small {t:Ty} (h:decide (cnt t ≤ 100) = true):TyB t:=cnt_TyB t (by have:=of_decide_eq_true h; omega)
theorem dp_small {t:Ty} (h:decide (dpt t ≤ 100) = true):dpt t ≤ 2 ^ 40:=by have:=of_decide_eq_true h; omega
theorem two_B:∀ x ∈ two,TyB x:=fun x hx => by
 rcases List.mem_cons.1 hx with rfl | hx
 ·exact tb_small rfl
 ·rw [List.mem_singleton.1 hx]; exact tb_small rfl
theorem two_F:∃ d o,formR two 10 = some (some (d,o)):=⟨_,_,rfl⟩
theorem u1:CallsT P 23 [.sl (two.map tyC),tyA (bx (vr 0)),tyA (bx iT)] [] (Ret [] (.tup [.sl ([iT,zT].map tyC),IC 0])) :=
 unify_ok (by decide) two_B (tb_small rfl) (tb_small rfl) (dp_small rfl) (dp_small rfl) (m:=10) [iT,zT] [iT,zT] [(0,1)] [(0,true)] 2 two_F rfl rfl rfl ⟨_,_,rfl⟩ (by decide) rfl
theorem u2:CallsT P 23 [.sl (two.map tyC),tyA (vr 0),tyA (vr 1)] [] (Ret [] (.tup [.sl ([zT,vr 0].map tyC),IC 0])) :=
 unify_ok (by decide) two_B (tb_small rfl) (tb_small rfl) (dp_small rfl) (dp_small rfl) (m:=10) [zT,vr 0] [zT,vr 0] [(1,1)] [(1,true)] 1 two_F rfl rfl rfl ⟨_,_,rfl⟩ (by decide) rfl
theorem u3:CallsT P 23 [.sl (two.map tyC),tyA (bx (vr 0)),tyA (.mk 4 0 [vr 0])] [] (Ret [] (.tup [.sl [],IC 8])) :=
 unify_no (by decide) two_B (tb_small rfl) (tb_small rfl) (dp_small rfl) (dp_small rfl) (m:=10) two_F rfl rfl
theorem u4:CallsT P 23 [.sl (two.map tyC),tyA (vr 0),tyA (bx (vr 0))] [] (Ret [] (.tup [.sl [],IC 8])) :=
 unify_no (by decide) two_B (tb_small rfl) (tb_small rfl) (dp_small rfl) (dp_small rfl) (m:=10) two_F rfl rfl
theorem u5:CallsT P 23 [.sl (two.map tyC),tyA (vr 2),tyA iT] [] (Ret [] (.tup [.sl [],IC 1])) :=
 unify_arg (by decide) two_B (tb_small rfl) (tb_small rfl) (dp_small rfl) (dp_small rfl) (m:=10) two_F rfl
theorem a1:CallsT P 22 [.sl ([iT,zT].map tyC),tyA (bx (vr 0))] [] (Ret [] (tyA (bx iT))) :=
 apply [iT,zT] 10 (bx (vr 0)) (bx iT) [(0,1)] [(0,true)] rfl (fun x hx => by
  rcases List.mem_cons.1 hx with rfl | hx
  ·exact tb_small rfl
  ·rw [List.mem_singleton.1 hx]; exact tb_small rfl) (tb_small rfl) rfl
theorem m1h:CallsT P 24 [tyA (bx (.mk 5 0 [])),tyA (bx (bx iT)),IC 1] [] (Ret [] (.tup [.sl ([bx iT].map tyC),.bool true])):=t24 (bx (.mk 5 0 [])) (bx (bx iT)) 1 (by decide)
theorem m2h:CallsT P 24 [tyA (bx (.mk 5 0 [])),tyA iT,IC 1] [] (Ret [] (.tup [.sl [],.bool false])):=t24 (bx (.mk 5 0 [])) iT 1 (by decide)
theorem same45 (a:List Ty):CallsT P 45 [.sl (a.map tyC),.sl (a.map tyC)] [] (Ret [] (.bool true)):=by
 have:=t45 a a
 rw [EqOk,← tru_yes (rfl:a = a)] at this
 exact this
theorem same15 (a:Ty):CallsT P 15 [tyA a,tyA a] [] (Ret [] (.bool true)):=by
 have:=t15 a a
 rw [EqOk,← tru_yes (rfl:a = a)] at this
 exact this
def dP:Prog:=⟨[],[],[⟨⟨#[]⟩,0,1,[],0⟩],[],[],[],[],0⟩
theorem v14 {pa:Int} {t:Ty} {b:Bool} (hd:decide (dpt t ≤ 100) = true) (h:validB dP pa t = b):CallsT P 14 [.agg (progC dP),IC pa,tyA t] [] (Ret [] (.bool b)):=by
 have:=t14 pa dP t (dp_small hd)
 rw [h] at this
 exact this
set_option maxRecDepth 100000 in
theorem t11:CallsT P 11 [] [] (Ret [] (.bool true)):=by
 refine callsT_facts Try.func11 facts11 rfl fun hw _ => ?_
 refine callP t42 rfl fun _ => ?_
 refine MakePt.mk (by decide) (by decide) (by decide) (by decide) ?_
 refine callPD (t27 0) rfl fun _ => ?_
 refine callPD (t43 (vr 0)) rfl fun _ => ?_
 refine callPD (t43 iT) rfl fun _ => ?_
 refine callPD u1 rfl fun _ => ?_
 refine callP (t27 0) rfl fun _ => ?_
 refine callP (t27 1) rfl fun _ => ?_
 refine callP u2 rfl fun _ => ?_
 refine callP (t27 0) rfl fun _ => ?_
 refine callP (t43 (vr 0)) rfl fun _ => ?_
 refine callP (t27 0) rfl fun _ => ?_
 refine callP (t44 4 (vr 0)) rfl fun _ => ?_
 refine callP u3 rfl fun _ => ?_
 refine callP (t27 0) rfl fun _ => ?_
 refine callP (t27 0) rfl fun _ => ?_
 refine callP (t43 (vr 0)) rfl fun _ => ?_
 refine callP u4 rfl fun _ => ?_
 refine callPD (t27 2) rfl fun _ => ?_
 refine callPD u5 rfl fun _ => ?_
 refine callPD (t13 0) rfl fun _ => ?_
 refine callPD (t43 (.mk 5 0 [])) rfl fun _ => ?_
 refine callPD (t43 iT) rfl fun _ => ?_
 refine callPD (t43 (bx iT)) rfl fun _ => ?_
 refine callPD m1h rfl fun _ => ?_
 refine callPD (t13 0) rfl fun _ => ?_
 refine callPD (t43 (.mk 5 0 [])) rfl fun _ => ?_
 refine callPD m2h rfl fun _ => ?_
 refine callP (same45 [iT,zT]) rfl fun _ => ?_
 refine callP (t27 0) rfl fun _ => ?_
 refine callP (same45 [zT,vr 0]) rfl fun _ => ?_
 refine callP (t43 iT) rfl fun _ => ?_
 refine callP (same45 [bx iT]) rfl fun _ => ?_
 refine callPD (v14 (pa:=0) (t:=.mk 2 0 [iT]) (b:=true) rfl rfl) rfl fun _ => ?_
 refine callPD (t13 0) rfl fun _ => ?_
 refine callPD (v14 (pa:=0) (t:=.mk 5 0 []) (b:=false) rfl rfl) rfl fun _ => ?_
 refine callPD (t13 0) rfl fun _ => ?_
 refine callPD (t44 7 (.mk 5 0 [])) rfl fun _ => ?_
 refine callPD (v14 (pa:=1) (t:=.mk 7 0 [.mk 5 0 []]) (b:=true) rfl rfl) rfl fun _ => ?_
 refine callPD (t13 0) rfl fun _ => ?_
 refine callPD (t44 7 (.mk 5 0 [])) rfl fun _ => ?_
 refine callPD (t43 (.mk 7 0 [.mk 5 0 []])) rfl fun _ => ?_
 refine callPD (v14 (pa:=1) (t:=bx (.mk 7 0 [.mk 5 0 []])) (b:=false) rfl rfl) rfl fun _ => ?_
 refine callPD (t13 0) rfl fun _ => ?_
 refine callPD (t43 (.mk 5 0 [])) rfl fun _ => ?_
 refine callPD (t16 [iT] (bx (.mk 5 0 [])) (tb_small rfl)) rfl fun _ => ?_
 refine callPD (t43 iT) rfl fun _ => ?_
 refine callPD (same15 (bx iT)) rfl fun _ => ?_
 refine callPD (t27 0) rfl fun _ => ?_
 refine callPD (t43 (vr 0)) rfl fun _ => ?_
 refine callPD a1 rfl fun _ => ?_
 refine callPD (t43 iT) rfl fun _ => ?_
 refine callPD (same15 (bx iT)) rfl fun _ => ?_
 exact retP rfl rfl
theorem subst_B {a:List Ty} (ha:∀ x ∈ a,TyB x ∧ dpt x ≤ 30):∀ t:Ty,TyB t → TyB (subst a t) ∧ dpt (subst a t) ≤ dpt t + 30:=tyInd fun t ih hb => by
 rw [subst_eq]
 have hb:=(tyB_eq t).1 hb
 split
 ·rename_i h
  obtain ⟨x,hx⟩:=get_of (l:=a) (k:=t.id.toNat) (by omega)
  rw [hx]
  have:=ha x (List.mem_of_getElem? hx)
  exact ⟨this.1,by show dpt x ≤ _; omega⟩
 ·refine ⟨(tyB_eq _).2 ⟨by show (t.args.map _).length ≤ _; rw [List.length_map]; exact hb.1,fun y hy => ?_⟩,?_⟩
  ·obtain ⟨x,hx,rfl⟩:=List.mem_map.1 (show y ∈ t.args.map (subst a) from hy)
   exact (ih x hx (hb.2 x hx)).1
  ·rw [dpt_eq,dpt_eq t]
   have:dpts (t.args.map (subst a)) ≤ dpts t.args + 30:=dpts_le fun y hy => by
    obtain ⟨x,hx,rfl⟩:=List.mem_map.1 hy
    have:=(ih x hx (hb.2 x hx)).2
    have:=dpt_mem hx
    omega
   show dpts (t.args.map (subst a)) + 1 ≤ _
   omega
def four:List Ty:=[.mk 5 0 [],.mk 5 1 [],.mk 5 2 [],.mk 5 3 []]
structure PL (p:Prog) (one two:List Ty) (t:Ty) (pa:Int) (V:Int → Ty → Bool) (S:List Ty → Ty → Ty):Prop where
 h14:∀ pa t,dpt t ≤ 2 ^ 40 → CallsT P 14 [.agg (progC p),IC pa,tyA t] [] (Ret [] (.bool (V pa t)))
 h16:∀ a t,TyB t → CallsT P 16 [.sl (a.map tyC),tyA t] [] (Ret [] (tyA (S a t)))
 h1:V 4 t = true → S four t = t
 h2:V one.length t = true → S two (S one t) = S (one.map (S two)) t
 h3:V one.length t = true → one.all (fun x => stoB x && V pa x) = true → ¬ pa < 0 → ¬ pa > 4 → V pa (S one t) = decide ((dpt (S one t):Int) ≤ 8)
 h4:(∀ x ∈ one,TyB x ∧ dpt x ≤ 30) → TyB t → TyB (S one t) ∧ dpt (S one t) ≤ dpt t + 30
theorem same_yes {a b:Ty} (h:a = b):CallsT P 15 [tyA a,tyA b] [] (Ret [] (.bool true)):=by subst h; exact same15 a
theorem all_snoc {α:Type} {f:α → Bool} {l:List α} {k:Nat} {x:α} (hx:l[k]? = some x):(l.take (k + 1)).all f = ((l.take k).all f && f x):=by
 rw [take_snoc hx,List.all_append]; simp
theorem t12one (t:Ty):CallsT P 12 [.sl [tyB' t]] [] (Ret [] (.bool (smallL [t]))):=by
 have:=t12 [t]
 rw [List.map_cons,List.map_nil,tyC_eq] at this
 exact this
theorem t12two (a b:Ty):CallsT P 12 [.sl [tyB' a,tyB' b]] [] (Ret [] (.bool (smallL [a,b]))):=by
 have:=t12 [a,b]
 rw [List.map_cons,List.map_cons,List.map_nil,tyC_eq,tyC_eq] at this
 exact this
theorem map_snoc' {α β:Type} {f:α → β} {l:List α} {k:Nat} {x:α} (hx:l[k]? = some x):(l.take (k + 1)).map f = (l.take k).map f ++ [f x]:=by rw [take_snoc hx,List.map_append]; rfl
set_option maxRecDepth 100000 in
theorem t3o (p:Prog) (one two:List Ty) (t:Ty) (pa:Int) (V:Int → Ty → Bool) (S:List Ty → Ty → Ty) (X:PL p one two t pa V S):CallsT P 3 [.agg (progC p),.sl (one.map tyC),.sl (two.map tyC),tyA t,IC pa] [] (Ret [] (.bool true)):=by
 obtain ⟨h14,h16,h1,h2,h3,h4⟩:=X
 have s1:=t12 one
 have s2:=t12 two
 have s3:=t12one t
 have d1:=@small_all one
 have d3:=@small_all [t]
 have h17:=t17
 generalize hsm:smallL = sm at s1 s2 s3 d1 d3
 have h18:=t18
 generalize hdpt:dpt = D at h14 h3 h4 d1 d3 h18
 generalize hsto:stoB = sto at h3 h17
 refine callsT_facts Try.func3 facts3 rfl fun hw _ => ?_
 refine callP t11 rfl fun _ => ?_
 refine callP s1 rfl fun _ => ?_
 refine brn_split (fun q1 => ?_) (fun q1 => ?_)
 ·exact retP rfl rfl
 refine callP s2 rfl fun _ => ?_
 refine brn_split (fun q2 => ?_) (fun q2 => ?_)
 ·exact retP rfl rfl
 refine callP s3 rfl fun _ => ?_
 refine brn_split (fun q3 => ?_) (fun q3 => ?_)
 ·exact retP rfl rfl
 refine brn_p (fun _ => ?_) (fun _ => ?_)
 ·exact retP rfl rfl
 have e1:sm one = true:=by simpa using q1
 have e3:sm [t] = true:=by simpa using q3
 have f1:=d1 e1
 have f3:=(d3 e3).2 t (by simp)
 have hdt:D t ≤ 2 ^ 40:=by omega
 have g4:=h4 f1.2 f3.1
 have hdf:D (S one t) ≤ 2 ^ 40:=by omega
 refine callP (t13 0) rfl fun _ => ?_
 refine callP (t13 1) rfl fun _ => ?_
 refine callP (t13 2) rfl fun _ => ?_
 refine callP (t13 3) rfl fun _ => ?_
 refine callPD (h14 4 t hdt) rfl fun _ => ?_
 refine brn_split (fun q4 => callPD (h16 four t f3.1) rfl fun _ => callPD (same_yes (h1 q4)) rfl fun _ => ?_) (fun q4 => ?_)
 all_goals
  refine callP (h14 one.length t hdt) (by rw [List.length_map]; rfl) fun _ => ?_
  refine brn_split (fun q5 => ?_) (fun q5 => ?_)
  ·exact retP rfl rfl
  have e5:V one.length t = true:=by simpa using q5
  refine callP (h16 one t f3.1) rfl fun _ => ?_
  refine loopN one.length 17 [15,16] (([],true):List Ty × Bool) (fun x => [.rw 82,.bool x.2]) (fun x => [(14,.box 32 (tyB' (S one t))),(82,.row 32 3 (x.1.map tyC))]) (fun k x => x.1 = (one.take k).map (S two) ∧ x.2 = (one.take k).all (fun x => sto x && V pa x)) ⟨rfl,rfl⟩ (same_keys rfl) ⟨.inr (.inr (.inr (.inl ⟨rfl,82,32,3,rfl,rfl,rfl⟩))),same_keys rfl,trivial⟩
   ⟨.inl ⟨_,rfl,.inl ⟨rfl,rfl⟩⟩,.inr ⟨rfl,32,3,rfl⟩,trivial⟩ (fun _ => rfl) (fun _ => rfl) ?_
  rintro k ⟨l,b⟩ hk ⟨hl,hb⟩ _ _ hk2
  have hl:l = (one.take k).map (S two):=hl
  have hb:b = (one.take k).all (fun x => sto x && V pa x):=hb
  have hlk:l.length = k:=by rw [hl,List.length_map,List.length_take]; omega
  have hlc:(l.map tyC).length = k:=by rw [List.length_map]; exact hlk
  have hom:(one.map tyC).length = one.length:=List.length_map _
  refine brn_p (fun hlt => ?_) (fun hge => ?_)
  ·have hlt:k < one.length:=by rw [← hom]; omega
   refine withGet hlt fun x hx hxm => ?_
   have hxf:=f1.2 x hxm
   refine idxTy hx ?_
   refine callP (h16 two x hxf.1) rfl fun _ => ?_
   refine app1' k rfl hlc (by decide) (by omega) ?_
   refine brn_split (fun q6 => idxTy hx <| callPD (h17 x) rfl fun _ => brn_split (fun q7 => idxTy hx <| callPD (h14 pa x (by omega)) rfl fun _ => ?_) (fun q7 => ?_)) (fun q6 => ?_)
   all_goals refine Fit.in64 (by omega) (by omega) ?_
   ·exact ⟨(k + 1,(l ++ [S two x],V pa x)),⟨hlt,by rw [hl]; exact (map_snoc' hx).symm,by rw [all_snoc hx,← hb,show b = true from q6,q7]; rfl⟩,⟨nextI,same_keys rfl,same_keys rfl,trivial⟩,⟨.inl ⟨_,rfl,.inl ⟨rfl,rfl⟩⟩,.inl ⟨_,rfl,.inl ⟨rowG (rowT (f:=S two x)),rfl⟩⟩,trivial⟩,nextM hlt⟩
   ·exact ⟨(k + 1,(l ++ [S two x],false)),⟨hlt,by rw [hl]; exact (map_snoc' hx).symm,by rw [all_snoc hx,← hb,show b = true from q6,q7]; rfl⟩,⟨nextI,same_keys rfl,same_keys rfl,trivial⟩,⟨.inl ⟨_,rfl,.inl ⟨rfl,rfl⟩⟩,.inl ⟨_,rfl,.inl ⟨rowG (rowT (f:=S two x)),rfl⟩⟩,trivial⟩,nextM hlt⟩
   ·exact ⟨(k + 1,(l ++ [S two x],false)),⟨hlt,by rw [hl]; exact (map_snoc' hx).symm,by rw [all_snoc hx,← hb,show b = false from q6]; rfl⟩,⟨nextI,same_keys rfl,same_keys rfl,trivial⟩,⟨.inl ⟨_,rfl,.inl ⟨rfl,rfl⟩⟩,.inl ⟨_,rfl,.inl ⟨rowG (rowT (f:=S two x)),rfl⟩⟩,trivial⟩,nextM hlt⟩
  ·have hk3:k = one.length:=by rw [hom] at hge; omega
   have hl2:l = one.map (S two):=by rw [hl,hk3,List.take_length]
   have hb2:b = one.all (fun x => sto x && V pa x):=by rw [hb,hk3,List.take_length]
   refine callPD (h16 two (S one t) g4.1) rfl fun _ => ?_
   refine callPD (h16 l t f3.1) rfl fun _ => ?_
   refine callPD (same_yes (by rw [hl2]; exact h2 e5)) rfl fun _ => ?_
   refine brn_split (fun q6 => ?_) (fun q6 => ?_)
   ·exact retP rfl rfl
   have hb3:b = true:=by simpa using q6
   refine brn_p (fun q7 => ?_) (fun q7 => ?_)
   ·exact retP rfl rfl
   refine brn_p (fun q8 => ?_) (fun q8 => ?_)
   ·exact retP rfl rfl
   refine callPD (h14 pa (S one t) hdf) rfl fun _ => ?_
   refine callPD (h18 (S one t) hdf) rfl fun _ => ?_
   have e:=h3 e5 (by rw [← hb2]; exact hb3) q7 q8
   exact retP rfl (congrArg C.bool (decide_eq_true (show V pa (S one t) = decide ((D (S one t):Int) ≤ 8) from e)))
theorem t3 (p:Prog) (one two:List Ty) (t:Ty) (pa:Int):CallsT P 3 [.agg (progC p),.sl (one.map tyC),.sl (two.map tyC),tyA t,IC pa] [] (Ret [] (.bool true)):=by
 have hv:∀ {pa:Int} {t:Ty},validB p pa t = true → ¬ (pa < 0 ∨ pa > 4 ∨ dpt t > 8) ∧ fmB p.datas pa t = true:=fun {pa t} h => by
  unfold validB at h
  split at h
  ·cases h
  ·rename_i q; exact ⟨q,h⟩
 refine t3o p one two t pa (validB p) subst ⟨fun pa t h => t14 pa p t h,fun a t h => t16 a t h,fun h => ?_,fun h => ?_,fun h ha h0 h4 => ?_,fun h hb => subst_B h t hb⟩
 ·exact subst_self p.datas t (hv h).2
 ·exact subst_subst p.datas one two t (hv h).2
 ·have h1:=(hv h).2
  have h2:∀ x ∈ one,stoB x = true ∧ fmB p.datas pa x = true:=fun x hx => by
   have:=(List.all_eq_true.1 ha) x hx
   rw [Bool.and_eq_true] at this
   exact ⟨this.1,(hv this.2).2⟩
  have h3:=(fm_subst p.datas pa one h2 t h1).1
  unfold validB
  by_cases hd:dpt (subst one t) > 8
  ·rw [if_pos (.inr (.inr hd)),decide_eq_false (by omega)]
  ·rw [if_neg (by omega),decide_eq_true (by omega),h3]
theorem fitZ_cons {n:Int} {x y:Ty} {l l':List Ty} {m m':TM} (h:fitZ n (x :: l) (y :: l') m = (m',true)):∃ m1,fitM n x y m = (m1,true) ∧ fitZ n l l' m1 = (m',true):=by
 rw [fitZ] at h
 cases hf:fitM n x y m with
 | mk m1 b =>
  rw [hf] at h
  cases b with
  | true => exact ⟨m1,rfl,h⟩
  | false => cases h
def MLe (m m':TM):Prop:=∀ i x,mget m i = some x → mget m' i = some x
theorem MLe.set {m:TM} {i:Int} {x:Ty} (h:mget m i = none):MLe m (mset m i x):=fun j y hj => by
 rw [mget_set]
 split
 ·rename_i e; rw [e,h] at hj; cases hj
 ·exact hj
theorem fit_grow (n:Int):∀ (p t:Ty) (m m':TM),fitM n p t m = (m',true) → MLe m m':=fun p => tyInd (p:=fun p => ∀ (t:Ty) (m m':TM),fitM n p t m = (m',true) → MLe m m') (fun p ih t m m' h => by
 have hz:∀ (l:List Ty),(∀ x ∈ l,∀ (t:Ty) (m m':TM),fitM n x t m = (m',true) → MLe m m') → ∀ (l':List Ty) (m m':TM),fitZ n l l' m = (m',true) → MLe m m':=by
  intro l
  induction l with
  | nil => intro _ l' m m' h; rw [fitZ] at h; injection h with h _; subst h; exact fun i x h => h
  | cons x l ihl =>
   intro hx l' m m' h
   cases l' with
   | nil => rw [fitZ] at h; injection h with _ h; cases h
   | cons y l' =>
    obtain ⟨m1,h1,h2⟩:=fitZ_cons h
    exact fun i z hz => ihl (fun z hz => hx z (by simp [hz])) l' m1 m' h2 i z (hx x (by simp) y m m1 h1 i z hz)
 rw [fitM_eq,fitP] at h
 split at h
 ·split at h
  ·cases h
  ·split at h
   ·injection h with h _; subst h; exact fun i x h => h
   ·rename_i hm
    injection h with h _; subst h; exact MLe.set hm
 ·split at h
  ·split at h
   ·exact hz p.args ih t.args m m' h
   ·cases h
  ·cases h) p
theorem fit_subst (n:Nat) (out:List Ty) (ho:out.length = n):∀ (p t:Ty) (m m':TM),fitM n p t m = (m',true) → (∀ (i:Int) (x:Ty),0 ≤ i → mget m' i = some x → out[i.toNat]? = some x) → subst out p = t:=fun p => tyInd (p:=fun p => ∀ (t:Ty) (m m':TM),fitM n p t m = (m',true) → (∀ (i:Int) (x:Ty),0 ≤ i → mget m' i = some x → out[i.toNat]? = some x) → subst out p = t) (fun p ih t m m' h hm => by
 have hz:∀ (l:List Ty),(∀ x ∈ l,∀ (t:Ty) (m m':TM),fitM n x t m = (m',true) → (∀ (i:Int) (x:Ty),0 ≤ i → mget m' i = some x → out[i.toNat]? = some x) → subst out x = t) → ∀ (l':List Ty) (m m':TM),l.length = l'.length → fitZ n l l' m = (m',true) → (∀ (i:Int) (x:Ty),0 ≤ i → mget m' i = some x → out[i.toNat]? = some x) → l.map (subst out) = l':=by
  intro l
  induction l with
  | nil => intro _ l' m m' hl h hm; exact (List.eq_nil_of_length_eq_zero hl.symm).symm
  | cons x l ihl =>
   intro hx l' m m' hl h hm
   cases l' with
   | nil => cases hl
   | cons y l' =>
    obtain ⟨m1,h1,h2⟩:=fitZ_cons h
    have hle:MLe m1 m':=by
     have hzg:∀ (l l':List Ty) (m m':TM),fitZ n l l' m = (m',true) → MLe m m':=by
      intro l
      induction l with
      | nil => intro l' m m' h; rw [fitZ] at h; injection h with h _; subst h; exact fun i x h => h
      | cons x l ihl =>
       intro l' m m' h
       cases l' with
       | nil => rw [fitZ] at h; injection h with _ h; cases h
       | cons y l' =>
        obtain ⟨m1,h1,h2⟩:=fitZ_cons h
        exact fun i z hz => ihl l' m1 m' h2 i z (fit_grow n x y m m1 h1 i z hz)
     exact hzg l l' m1 m' h2
    rw [List.map_cons,hx x (by simp) y m m1 h1 (fun i z h0 hz => hm i z h0 (hle i z hz)),ihl (fun z hz => hx z (by simp [hz])) l' m1 m' (by simpa using hl) h2 hm]
 rw [fitM_eq,fitP] at h
 rw [subst_eq]
 split at h
 ·rename_i h5
  split at h
  ·cases h
  ·rename_i hr
   rw [if_pos ⟨h5,by omega,by omega⟩]
   split at h
   ·rename_i x hx
    injection h with h1 h2
    subst h1
    rw [hm _ _ (by omega) hx]
    exact (eqB_iff x t).1 h2
   ·injection h with h1 h2
    subst h1
    rw [hm p.id t (by omega) (by rw [mget_set,if_pos rfl])]
    rfl
 ·rename_i h5
  rw [if_neg fun q => h5 q.1]
  split at h
  ·rename_i he
   split at h
   ·rename_i hl
    exact ty_eq he.1 he.2 (hz p.args ih t.args m m' hl h hm)
   ·cases h
  ·cases h) p
theorem bareB_par {n:Int} {p:Ty} (h:bareB n p = true) (h5:p.kind = 5):0 ≤ p.id ∧ p.id < n ∧ p.args = []:=by
 rw [bareB_eq,if_pos h5] at h
 simp only [Bool.and_eq_true,decide_eq_true_eq] at h
 exact ⟨h.1.1,h.1.2,List.eq_nil_of_length_eq_zero h.2⟩
theorem bareB_arg {n:Int} {p:Ty} (h:bareB n p = true) (h5:¬ p.kind = 5):∀ x ∈ p.args,bareB n x = true:=by
 rw [bareB_eq,if_neg h5,List.all_eq_true] at h
 exact h
def Fr (l:List Ty) (m:TM):Prop:=∀ (i:Int) (x:Ty),mget m i = some x → l[i.toNat]? = some x
def Kn (m m':TM) (q:Int → Bool):Prop:=∀ i,mget m' i ≠ none ↔ (mget m i ≠ none ∨ q i = true)
theorem fit_bare (l:List Ty):∀ p:Ty,bareB l.length p = true → ∀ m,Fr l m → ∃ m',fitM l.length p (subst l p) m = (m',true) ∧ Fr l m' ∧ Kn m m' (fun i => hasB i p):=tyInd fun p ih hb m hm => by
 have hz:∀ (a:List Ty),(∀ x ∈ a,∀ m,Fr l m → ∃ m',fitM l.length x (subst l x) m = (m',true) ∧ Fr l m' ∧ Kn m m' (fun i => hasB i x)) → ∀ m,Fr l m → ∃ m',fitZ l.length a (a.map (subst l)) m = (m',true) ∧ Fr l m' ∧ Kn m m' (fun i => a.any (hasB i)):=by
  intro a
  induction a with
  | nil => exact fun _ m hm => ⟨m,by rw [fitZ],hm,fun i => by simp⟩
  | cons x a iha =>
   intro hx m hm
   obtain ⟨m1,h1,h2,h3⟩:=hx x (by simp) m hm
   obtain ⟨m2,h4,h5,h6⟩:=iha (fun z hz => hx z (by simp [hz])) m1 h2
   refine ⟨m2,by rw [List.map_cons,fitZ,h1]; exact h4,h5,fun i => ?_⟩
   have a6:mget m2 i ≠ none ↔ (mget m1 i ≠ none ∨ a.any (hasB i) = true):=h6 i
   have a3:mget m1 i ≠ none ↔ (mget m i ≠ none ∨ hasB i x = true):=h3 i
   show mget m2 i ≠ none ↔ (mget m i ≠ none ∨ (x :: a).any (hasB i) = true)
   rw [a6,a3,List.any_cons,Bool.or_eq_true,or_assoc]
 rw [fitM_eq,fitP]
 by_cases h5:p.kind = 5
 ·obtain ⟨b1,b2,b3⟩:=bareB_par hb h5
  obtain ⟨x,hx⟩:=get_of (l:=l) (k:=p.id.toNat) (by omega)
  have hsub:subst l p = x:=by rw [subst_eq,if_pos ⟨h5,b1,b2⟩,hx]; rfl
  have hhas:∀ i,hasB i p = decide (p.id = i):=fun i => by
   rw [hasB_eq,b3,List.any_nil]
   by_cases e:p.id = i
   ·rw [if_pos ⟨h5,e⟩,decide_eq_true e]
   ·rw [if_neg fun q => e q.2,decide_eq_false e]
  rw [if_pos h5,if_neg (by omega),hsub]
  cases hg:mget m p.id with
  | some y =>
   have e:=hm _ _ hg
   rw [hx] at e
   injection e with e
   subst e
   refine ⟨m,by simp only; rw [(eqB_iff x x).2 rfl],hm,fun i => ?_⟩
   show mget m i ≠ none ↔ (mget m i ≠ none ∨ hasB i p = true)
   rw [hhas]
   constructor
   ·exact fun q => .inl q
   ·rintro (q | q)
    ·exact q
    ·have q:=of_decide_eq_true q
     rw [← q,hg]; simp
  | none =>
   refine ⟨mset m p.id x,rfl,fun i y hy => ?_,fun i => ?_⟩
   ·rw [mget_set] at hy
    split at hy
    ·rename_i e; injection hy with hy; rw [e,← hy]; exact hx
    ·exact hm i y hy
   ·show mget (mset m p.id x) i ≠ none ↔ (mget m i ≠ none ∨ hasB i p = true)
    rw [hhas,mget_set]
    by_cases e:i = p.id
    ·rw [if_pos e,decide_eq_true e.symm]; simp
    ·rw [if_neg e,decide_eq_false (fun q => e q.symm)]; simp
 ·have hsub:subst l p = .mk p.kind p.id (p.args.map (subst l)):=by rw [subst_eq,if_neg fun q => h5 q.1]
  obtain ⟨m',h1,h2,h3⟩:=hz p.args (fun x hx => ih x hx (bareB_arg hb h5 x hx)) m hm
  refine ⟨m',?_,h2,fun i => ?_⟩
  ·rw [if_neg h5,hsub,if_pos ⟨rfl,rfl⟩,if_pos (by show p.args.length = (p.args.map _).length; rw [List.length_map])]
   exact h1
  ·have a3:mget m' i ≠ none ↔ (mget m i ≠ none ∨ p.args.any (hasB i) = true):=h3 i
   show mget m' i ≠ none ↔ (mget m i ≠ none ∨ hasB i p = true)
   rw [a3,hasB_eq,if_neg fun q => h5 q.1]
theorem outM_get {n:Nat} {m:TM} {i:Nat} (h:i < n):(outM n m)[i]? = some ((mget m (i:Int)).getD zTy):=by
 rw [outM,List.getElem?_map,List.getElem?_range h]; rfl
theorem match_right {n:Nat} {p t:Ty} {m:TM} (h:fitM n p t [] = (m,true)):(outM n m).length = n ∧ subst (outM n m) p = t:=by
 have hl:(outM n m).length = n:=by simp [outM]
 refine ⟨hl,fit_subst n _ hl p t [] m h fun i x h0 hx => ?_⟩
 have hk:=fit_keys n p t [] ⟨by simp,by simp⟩
 rw [h] at hk
 have hr:=hk.1 _ (mget_mem hx)
 rw [outM_get (by omega),show ((i.toNat:Nat):Int) = i by omega,hx]
 rfl
theorem match_finds {l:List Ty} {p:Ty} (h:bareB l.length p = true):∃ m,fitM l.length p (subst l p) [] = (m,true) ∧ ∀ i < l.length,(hasB i p = true → (outM l.length m)[i]? = l[i]?) ∧ (hasB i p = false → (outM l.length m)[i]? = some zTy):=by
 obtain ⟨m,h1,h2,h3⟩:=fit_bare l p h [] fun i x q => by cases q
 refine ⟨m,h1,fun i hi => ⟨fun hq => ?_,fun hq => ?_⟩⟩
 ·have:=(h3 i).2 (.inr hq)
  cases hg:mget m (i:Int) with
  | none => exact absurd hg this
  | some x =>
   rw [outM_get hi,hg]
   have:=h2 _ _ hg
   rw [show ((i:Int)).toNat = i by omega] at this
   rw [this]; rfl
 ·have:¬ mget m (i:Int) ≠ none:=fun q => by
   rcases (h3 i).1 q with q | q
   ·exact q rfl
   ·have q:hasB (i:Int) p = true:=q
    rw [hq] at q; cases q
  rw [outM_get hi]
  cases hg:mget m (i:Int) with
  | none => rfl
  | some x => rw [hg] at this; exact absurd (by simp) this
structure ML5 (p t:Ty) (l:List Ty) (S:List Ty → Ty → Ty) (R:Ty → Ty → List Ty × Bool) (Br:Bool) (Hs:Int → Bool):Prop where
 h24:l.length ≤ 4 → ∀ p t,CallsT P 24 [tyA p,tyA t,IC l.length] [] (Ret [] (.tup [.sl ((R p t).1.map tyC),.bool (R p t).2]))
 h16:∀ a t,TyB t → CallsT P 16 [.sl (a.map tyC),tyA t] [] (Ret [] (tyA (S a t)))
 h25:CallsT P 25 [tyA p,IC l.length] [] (Ret [] (.bool Br))
 h26:∀ i:Int,CallsT P 26 [tyA p,IC i] [] (Ret [] (.bool (Hs i)))
 h1:(R p t).2 = true → (R p t).1.length = l.length ∧ S (R p t).1 p = t
 h2:Br = true → (R p (S l p)).2 = true ∧ (R p (S l p)).1.length = l.length
 h3:Br = true → ∀ (i:Nat) (x y:Ty),(R p (S l p)).1[i]? = some x → l[i]? = some y → (Hs i = true → x = y) ∧ (Hs i = false → x.kind = 0)
set_option maxRecDepth 100000 in
theorem t5o (p t:Ty) (l:List Ty) (S:List Ty → Ty → Ty) (R:Ty → Ty → List Ty × Bool) (Br:Bool) (Hs:Int → Bool) (X:ML5 p t l S R Br Hs):CallsT P 5 [tyA p,tyA t,.sl (l.map tyC)] [] (Ret [] (.bool true)):=by
 obtain ⟨h24,h16,h25,h26,h1,h2,h3⟩:=X
 have s1:=t12 l
 have s2:=t12two p t
 have d1:=@small_all l
 have d2:=@small_two p t
 generalize hsm:smallL = sm at s1 s2 d1 d2
 have hlm:(l.map tyC).length = l.length:=List.length_map _
 have m1:=fun h => h24 h p t
 generalize hr1:R p t = r1 at h1 m1
 have m2:=fun h => h24 h p (S l p)
 generalize hr2:R p (S l p) = r2 at h2 h3 m2
 obtain ⟨q1,b1⟩:=r1
 obtain ⟨q2,b2⟩:=r2
 have hq1:(q1.map tyC).length = q1.length:=List.length_map _
 have hq2:(q2.map tyC).length = q2.length:=List.length_map _
 refine callsT_facts Try.func5 facts5 rfl fun hw _ => ?_
 have hlen:l.length ≤ 9223372036854775807:=wf_lenT hw.2.2.1
 refine callP t11 rfl fun _ => ?_
 refine callP s1 rfl fun _ => ?_
 refine brn_split (fun q => ?_) (fun e1 => ?_)
 ·exact retP rfl rfl
 refine callP s2 rfl fun _ => ?_
 refine brn_split (fun q => ?_) (fun e2 => ?_)
 ·exact retP rfl rfl
 refine brn_p (fun q => ?_) (fun e3 => ?_)
 ·exact retP rfl rfl
 have hl4:l.length ≤ 4:=by rw [← hlm]; omega
 have hB:=d2 (by simpa using e2)
 refine callP (m1 hl4) (by rw [hlm]; rfl) fun _ => ?_
 refine brn_split (fun e4 => brn_n (fun q => absurd (by rw [hq1,hlm,(h1 e4).1]) q) fun _ => callPD (h16 q1 p hB.1.1) rfl fun _ => callPD (same_yes (h1 e4).2) rfl fun _ => ?_) (fun e4 => ?_)
 all_goals
  refine callP h25 (by rw [hlm]; rfl) fun _ => ?_
  refine brn_split (fun e5 => ?_) (fun e5 => ?_)
  ·exact retP rfl rfl
  have e5:Br = true:=by simpa using e5
  have k2:=h2 e5
  have k3:=h3 e5
  refine callP (h16 l p hB.1.1) rfl fun _ => ?_
  refine callP (m2 hl4) (by rw [hlm]; rfl) fun _ => ?_
  refine brn_split (fun e6 => absurd (show (!b2) = true from e6) (by rw [show b2 = true from k2.1]; exact Bool.false_ne_true)) (fun e6 => ?_)
  refine brn_n (fun q => absurd (by rw [hq2,hlm,k2.2]) q) fun _ => ?_
  refine loopN l.length 13 [] () (fun _ => []) (fun _ => [(10,.box 32 (tyB' (S l p)))]) (fun _ _ => True) trivial (same_keys rfl) trivial ⟨.inl ⟨_,rfl,.inl ⟨rfl,rfl⟩⟩,trivial⟩ (fun _ => rfl) (fun _ => rfl) ?_
  rintro k _ hk _ _ _ hk2
  refine brn_p (fun hlt => ?_) (fun hge => ?_)
  ·have hlt:k < l.length:=by rw [← hlm]; omega
   refine withGet hlt fun y hy _ => ?_
   have hql:q2.length = l.length:=k2.2
   refine withGet (l:=q2) (k:=k) (by omega) fun x hx _ => ?_
   have k4:=k3 k x y hx hy
   refine callPD (h26 k) rfl fun _ => ?_
   refine brn_split (fun e7 => idxTy hx <| idxTy hy <| callPD (same_yes (k4.1 e7)) rfl fun _ => ?_) (fun e7 => ?_)
   ·refine callPD (h26 k) rfl fun _ => ?_
    refine brn_split (fun e8 => absurd (show (!Hs k) = true from e8) (by rw [show Hs k = true from e7]; exact Bool.false_ne_true)) (fun e8 => ?_)
    refine Fit.in64 (by omega) (by omega) ?_
    exact ⟨(k + 1,()),⟨hlt,trivial⟩,⟨nextI,trivial⟩,⟨.inl ⟨_,rfl,.inl ⟨rfl,rfl⟩⟩,trivial⟩,nextM hlt⟩
   ·refine callPD (h26 k) rfl fun _ => ?_
    refine brn_split (fun e8 => ?_) (fun e8 => absurd (show (!Hs k) = false from e8) (by rw [show Hs k = false from e7]; exact Bool.noConfusion))
    refine idxTy hx ?_
    refine brn_n (fun q => absurd (k4.2 e7) q) (fun _ => ?_)
    refine Fit.in64 (by omega) (by omega) ?_
    exact ⟨(k + 1,()),⟨hlt,trivial⟩,⟨nextI,trivial⟩,⟨.inl ⟨_,rfl,.inl ⟨rfl,rfl⟩⟩,trivial⟩,nextM hlt⟩
  ·exact retP rfl rfl
theorem t5 (p t:Ty) (l:List Ty):CallsT P 5 [tyA p,tyA t,.sl (l.map tyC)] [] (Ret [] (.bool true)):=by
 refine t5o p t l subst (matchR l.length) (bareB l.length p) (fun i => hasB i p) ⟨fun h p t => t24 p t l.length h,fun a t h => t16 a t h,t25 l.length p,fun i => t26 i p,fun h => ?_,fun h => ?_,fun h i x y hx hy => ?_⟩
 ·unfold matchR at h ⊢
  cases hf:fitM l.length p t [] with
  | mk m b =>
   rw [hf] at h
   cases b with
   | false => cases h
   | true => exact match_right hf
 ·obtain ⟨m,h1,_⟩:=match_finds h
  unfold matchR
  rw [h1]
  exact ⟨rfl,by simp [outM]⟩
 ·obtain ⟨m,h1,h2⟩:=match_finds h
  unfold matchR at hx
  rw [h1] at hx
  have hi:i < l.length:=(List.getElem?_eq_some_iff.1 hy).1
  obtain ⟨h3,h4⟩:=h2 i hi
  have hx:(outM l.length m)[i]? = some x:=hx
  refine ⟨fun q => ?_,fun q => ?_⟩
  ·rw [h3 q,hy] at hx; exact (Option.some.inj hx).symm
  ·rw [h4 q] at hx; rw [← Option.some.inj hx]; rfl
end Go.Fr.Try
