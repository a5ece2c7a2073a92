/- Part of the proofs of the statements of this seat. -/
import Derived.Test.YtfkgdgfmkocloaaGreatDoorImP1G
import Derived.Test.YtfkgdgfmkocloaaGreatDoorImW3G
import Derived.Test.YtfkgdgfmkocloaaGreatDoorImT2G
import Derived.Test.YtfkgdgfmkocloaaGreatDoorFW3
set_option maxRecDepth 10000
set_option linter.unusedVariables false
set_option linter.unusedSimpArgs false
namespace Go.Fr.Tryz
open Go Go.RowKit Go.Proofs Go.Fr Go.Fr.T Go.Fr.Api
theorem one_rt {n:Int} {r:List UInt8} (h:(numsE [n]).2 = true):numD ((numsE [n]).1 ++ r) = some (n,r):=by
 have h1:(numE n).2 = true:=(andE_t.1 h).1
 have e:(numsE [n]).1 = (numE n).1:=by
  show (andE (numE n) okE).1 = _
  rw [andE_1 h1]; simp [okE]
 rw [e]
 exact num_rt.wr n r h1
theorem one_e {n:Int} (h:(numE n).2 = true):(numsE [n]).2 = true ∧ (numsE [n]).1 = (numE n).1:=by
 refine ⟨andE_t.2 ⟨h,rfl⟩,?_⟩
 show (andE (numE n) okE).1 = _
 rw [andE_1 h]; simp [okE]
theorem one_rd {l:List UInt8} {n:Int} {r:List UInt8} (h:numD l = some (n,r)):(numsE [n]).2 = true ∧ l = (numsE [n]).1 ++ r:=by
 obtain ⟨h1,h2⟩:=num_rt.rd l n r h
 obtain ⟨h3,h4⟩:=one_e h1
 exact ⟨h3,by rw [h4]; exact h2⟩
theorem bit_rt:RT bitD (fun b => numE (bitI b)):=by
 refine ⟨fun b r h => ?_,fun l b r h => ?_⟩
 ·have:=num_rt.wr (bitI b) r h
  simp only [bitD,this]
  cases b <;> rfl
 ·simp only [bitD] at h
  split at h
  ·rename_i n r1 e
   split at h
   ·rename_i hn
    injection h with h
    injection h with h1 h2
    subst h2
    obtain ⟨q1,q2⟩:=num_rt.rd l n r1 e
    have:bitI b = n:=by
     subst h1
     rcases hn with rfl | rfl <;> rfl
    rw [this]
    exact ⟨q1,q2⟩
   ·cases h
  ·cases h
theorem name_rt:RT nameD nameE:=by
 refine ⟨fun s r h => ?_,fun l s r h => ?_⟩
 ·have h1:=andE_t.1 h
  have h2:=(andE_t.1 h1.2).1
  have hs:s.size ≤ 200:=of_decide_eq_true h1.1
  have e:(nameE s).1 = (numsE [(s.size:Int)]).1 ++ s.data.toList:=by
   rw [nameE,andE_1 h1.1,andE_1 h2]; rfl
  rw [e,List.append_assoc]
  have hsz:s.data.toList.length = s.size:=by simp
  simp only [nameD,one_rt h2]
  rw [if_pos (by omega),takeD_pos (by omega) (by rw [List.length_append,hsz]; omega)]
  have e1:(s.data.toList ++ r).take (s.size:Int).toNat = s.data.toList:=by
   rw [show (s.size:Int).toNat = s.data.toList.length by rw [hsz]; rfl]; simp
  have e2:(s.data.toList ++ r).drop (s.size:Int).toNat = r:=by
   rw [show (s.size:Int).toNat = s.data.toList.length by rw [hsz]; rfl]; simp
  rw [e1,e2]
 ·simp only [nameD] at h
  split at h
  case h_2 => cases h
  rename_i n r1 e
  split at h
  case isFalse => cases h
  rename_i hn
  split at h
  case h_2 => cases h
  rename_i b r2 e2
  injection h with h
  injection h with h1 h2
  subst h1 h2
  obtain ⟨q1,q2⟩:=one_rd e
  unfold takeD at e2
  split at e2
  case isFalse => cases e2
  rename_i hb
  injection e2 with e2
  injection e2 with h1 h2
  have hlen:b.length = n.toNat:=by rw [← h1,List.length_take]; omega
  have hsz:(ByteArray.mk b.toArray).size = n.toNat:=by rw [← hlen]; simp [ByteArray.size]
  have hsn:((ByteArray.mk b.toArray).size:Int) = n:=by rw [hsz]; omega
  have c1:(chkE (decide ((ByteArray.mk b.toArray).size ≤ 200))).2 = true:=decide_eq_true (by omega)
  unfold nameE
  rw [hsn]
  refine ⟨andE_t.2 ⟨c1,andE_t.2 ⟨q1,rfl⟩⟩,?_⟩
  rw [andE_1 c1,andE_1 q1,q2,← h1,← h2]
  simp [chkE]
theorem rep_wr {α:Type} {d:Dec α} {e:α → Enc} (h:RT d e):∀ (l:List α) (r:List UInt8),(eachE e l).2 = true → repD d l.length ((eachE e l).1 ++ r) = some (l,r)
 | [],r,_ => rfl
 | x :: l,r,hk => by
  have h1:=andE_t.1 hk
  have e1:(eachE e (x :: l)).1 = (e x).1 ++ (eachE e l).1:=andE_1 h1.1
  rw [e1,List.append_assoc]
  simp only [List.length_cons,repD,h.wr x _ h1.1,rep_wr h l r h1.2]
theorem rep_rd {α:Type} {d:Dec α} {e:α → Enc} (h:RT d e):∀ (n:Nat) (l:List UInt8) (xs:List α) (r:List UInt8),repD d n l = some (xs,r) → (eachE e xs).2 = true ∧ l = (eachE e xs).1 ++ r ∧ xs.length = n
 | 0,l,xs,r,hk => by
  injection hk with hk
  injection hk with h1 h2
  subst h1 h2
  exact ⟨rfl,rfl,rfl⟩
 | n + 1,l,xs,r,hk => by
  simp only [repD] at hk
  split at hk
  case h_2 => cases hk
  rename_i x r1 e1
  split at hk
  case h_2 => cases hk
  rename_i ys r2 e2
  injection hk with hk
  injection hk with h1 h2
  subst h1 h2
  obtain ⟨q1,q2⟩:=h.rd l x r1 e1
  obtain ⟨p1,p2,p3⟩:=rep_rd h n r1 ys r2 e2
  refine ⟨andE_t.2 ⟨q1,p1⟩,?_,by simp [p3]⟩
  show l = (andE (e x) (eachE e ys)).1 ++ r2
  rw [andE_1 q1,q2,p2]
  simp
theorem list_rt {α:Type} {d:Dec α} {e:α → Enc} (h:RT d e):RT (listD d) (listE e):=by
 refine ⟨fun l r hk => ?_,fun bs l r hk => ?_⟩
 ·have h1:=andE_t.1 hk
  have h2:=andE_t.1 h1.2
  have hl:l.length ≤ 400:=of_decide_eq_true h1.1
  have e1:(listE e l).1 = (numsE [(l.length:Int)]).1 ++ (eachE e l).1:=by rw [listE,andE_1 h1.1,andE_1 h2.1]; rfl
  rw [e1,List.append_assoc]
  simp only [listD,one_rt h2.1]
  rw [if_pos (by omega)]
  exact rep_wr h l r h2.2
 ·simp only [listD] at hk
  split at hk
  case h_2 => cases hk
  rename_i n r1 e1
  split at hk
  case isFalse => cases hk
  rename_i hn
  obtain ⟨q1,q2⟩:=one_rd e1
  obtain ⟨p1,p2,p3⟩:=rep_rd h _ _ _ _ hk
  have hln:(l.length:Int) = n:=by omega
  have c1:(chkE (decide (l.length ≤ 400))).2 = true:=decide_eq_true (by omega)
  unfold listE
  rw [hln]
  refine ⟨andE_t.2 ⟨c1,andE_t.2 ⟨q1,p1⟩⟩,?_⟩
  rw [andE_1 c1,andE_1 q1,q2,p2]
  simp [chkE]
theorem int_rt:RT numD (fun n => numsE [n]):=⟨fun n r h => one_rt h,fun l n r h => one_rd h⟩
theorem ints_rt:RT (listD numD) intsE:=list_rt int_rt
theorem pre_ok {a:Enc}:andE a okE = a:=by
 obtain ⟨p,x⟩:=a
 cases x <;> simp [andE,okE]
theorem typ_rt:∀ d:Nat,RT (typD d) (typE d)
 | 0 => ⟨fun x r h => (by cases h),fun l x r h => (by cases h)⟩
 | d + 1 => by
  have ih:=list_rt (typ_rt d)
  refine ⟨fun x r h => ?_,fun l x r h => ?_⟩
  ·have h1:=andE_t.1 h
   have h2:=andE_t.1 h1.1
   have h3:=(andE_t.1 h2.2).1
   have e1:(typE (d + 1) x).1 = (numE x.kind).1 ++ ((numE x.id).1 ++ (listE (typE d) x.args).1):=by
    show (andE (andE (numE x.kind) (andE (numE x.id) okE)) _).1 = _
    rw [pre_ok,andE_assoc,andE_1 h2.1,andE_1 h3]
   rw [e1]
   simp only [List.append_assoc]
   cases x
   exact (andD_some (num_rt.wr _ _ h2.1)).trans <| (andD_some (num_rt.wr _ _ h3)).trans <| (andD_some (ih.wr _ _ h1.2)).trans rfl
  ·obtain ⟨k,r1,e1,h⟩:=andD_inv h
   obtain ⟨i,r2,e2,h⟩:=andD_inv h
   obtain ⟨a,r3,e3,h⟩:=andD_inv h
   injection h with h
   injection h with h1 h2
   subst h1 h2
   obtain ⟨p1,rfl⟩:=num_rt.rd _ _ _ e1
   obtain ⟨p2,rfl⟩:=num_rt.rd _ _ _ e2
   obtain ⟨p3,rfl⟩:=ih.rd _ _ _ e3
   have:typE (d + 1) (.mk k i a) = andE (numE k) (andE (numE i) (listE (typE d) a)):=by
    show andE (andE (numE k) (andE (numE i) okE)) _ = _
    rw [pre_ok,andE_assoc]; rfl
   rw [this]
   refine ⟨andE_t.2 ⟨p1,andE_t.2 ⟨p2,p3⟩⟩,?_⟩
   rw [andE_1 p1,andE_1 p2]
   simp
theorem full_rt:RT fullD fullE:=typ_rt 8
theorem types_rt:RT (listD fullD) typesE:=list_rt full_rt
theorem var_rt:RT varD varE:=by
 have hf:∀ x,varE x = andE (nameE x.name) (typesE x.fields):=fun x => by
  simp only [varE,eachE,andE_assoc,pre_ok]
 refine ⟨fun x r h => ?_,fun l x r h => ?_⟩
 ·rw [hf] at h ⊢
  have p0:=(andE_t.1 h).1
  have q0:=(andE_t.1 h).2
  rw [andE_1 p0]
  simp only [List.append_assoc]
  exact (andD_some (name_rt.wr _ _ p0)).trans <| (andD_some (types_rt.wr _ _ q0)).trans <| rfl
 ·obtain ⟨s,r0,e0,h⟩:=andD_inv h
  obtain ⟨f,r1,e1,h⟩:=andD_inv h
  injection h with h
  injection h with h1 h2
  subst h1 h2
  obtain ⟨p0,rfl⟩:=name_rt.rd _ _ _ e0
  obtain ⟨p1,rfl⟩:=types_rt.rd _ _ _ e1
  rw [hf]
  refine ⟨andE_t.2 ⟨p0,p1⟩,?_⟩
  rw [andE_1 p0]
  simp
theorem vars_rt:RT (listD varD) (listE varE):=list_rt var_rt
theorem data_rt:RT dataD dataE:=by
 have hf:∀ x,dataE x = andE (nameE x.name) (andE (numE x.module) (andE (numE x.params) (andE (numE x.drop) (listE varE x.variants)))):=fun x => by
  simp only [dataE,eachE,andE_assoc,pre_ok]
 refine ⟨fun x r h => ?_,fun l x r h => ?_⟩
 ·rw [hf] at h ⊢
  have p0:=(andE_t.1 h).1
  have q0:=(andE_t.1 h).2
  have p1:=(andE_t.1 q0).1
  have q1:=(andE_t.1 q0).2
  have p2:=(andE_t.1 q1).1
  have q2:=(andE_t.1 q1).2
  have p3:=(andE_t.1 q2).1
  have q3:=(andE_t.1 q2).2
  rw [andE_1 p0,andE_1 p1,andE_1 p2,andE_1 p3]
  simp only [List.append_assoc]
  exact (andD_some (name_rt.wr _ _ p0)).trans <| (andD_some (num_rt.wr _ _ p1)).trans <| (andD_some (num_rt.wr _ _ p2)).trans <| (andD_some (num_rt.wr _ _ p3)).trans <| (andD_some (vars_rt.wr _ _ q3)).trans <| rfl
 ·obtain ⟨s,r0,e0,h⟩:=andD_inv h
  obtain ⟨m,r1,e1,h⟩:=andD_inv h
  obtain ⟨p,r2,e2,h⟩:=andD_inv h
  obtain ⟨d,r3,e3,h⟩:=andD_inv h
  obtain ⟨v,r4,e4,h⟩:=andD_inv h
  injection h with h
  injection h with h1 h2
  subst h1 h2
  obtain ⟨p0,rfl⟩:=name_rt.rd _ _ _ e0
  obtain ⟨p1,rfl⟩:=num_rt.rd _ _ _ e1
  obtain ⟨p2,rfl⟩:=num_rt.rd _ _ _ e2
  obtain ⟨p3,rfl⟩:=num_rt.rd _ _ _ e3
  obtain ⟨p4,rfl⟩:=vars_rt.rd _ _ _ e4
  rw [hf]
  refine ⟨andE_t.2 ⟨p0,andE_t.2 ⟨p1,andE_t.2 ⟨p2,andE_t.2 ⟨p3,p4⟩⟩⟩⟩,?_⟩
  rw [andE_1 p0,andE_1 p1,andE_1 p2,andE_1 p3]
  simp
theorem ins_rt:RT insD insE:=by
 have hf:∀ x,insE x = andE (numE x.op) (andE (numE x.dst) (andE (numE x.a) (andE (numE x.b) (andE (numE x.n) (andE (intsE x.args) (typesE x.types)))))):=fun x => by
  simp only [insE,eachE,andE_assoc,pre_ok]
 refine ⟨fun x r h => ?_,fun l x r h => ?_⟩
 ·rw [hf] at h ⊢
  have p0:=(andE_t.1 h).1
  have q0:=(andE_t.1 h).2
  have p1:=(andE_t.1 q0).1
  have q1:=(andE_t.1 q0).2
  have p2:=(andE_t.1 q1).1
  have q2:=(andE_t.1 q1).2
  have p3:=(andE_t.1 q2).1
  have q3:=(andE_t.1 q2).2
  have p4:=(andE_t.1 q3).1
  have q4:=(andE_t.1 q3).2
  have p5:=(andE_t.1 q4).1
  have q5:=(andE_t.1 q4).2
  rw [andE_1 p0,andE_1 p1,andE_1 p2,andE_1 p3,andE_1 p4,andE_1 p5]
  simp only [List.append_assoc]
  exact (andD_some (num_rt.wr _ _ p0)).trans <| (andD_some (num_rt.wr _ _ p1)).trans <| (andD_some (num_rt.wr _ _ p2)).trans <| (andD_some (num_rt.wr _ _ p3)).trans <| (andD_some (num_rt.wr _ _ p4)).trans <| (andD_some (ints_rt.wr _ _ p5)).trans <| (andD_some (types_rt.wr _ _ q5)).trans <| rfl
 ·obtain ⟨o,r0,e0,h⟩:=andD_inv h
  obtain ⟨d,r1,e1,h⟩:=andD_inv h
  obtain ⟨a,r2,e2,h⟩:=andD_inv h
  obtain ⟨b,r3,e3,h⟩:=andD_inv h
  obtain ⟨n,r4,e4,h⟩:=andD_inv h
  obtain ⟨x,r5,e5,h⟩:=andD_inv h
  obtain ⟨t,r6,e6,h⟩:=andD_inv h
  injection h with h
  injection h with h1 h2
  subst h1 h2
  obtain ⟨p0,rfl⟩:=num_rt.rd _ _ _ e0
  obtain ⟨p1,rfl⟩:=num_rt.rd _ _ _ e1
  obtain ⟨p2,rfl⟩:=num_rt.rd _ _ _ e2
  obtain ⟨p3,rfl⟩:=num_rt.rd _ _ _ e3
  obtain ⟨p4,rfl⟩:=num_rt.rd _ _ _ e4
  obtain ⟨p5,rfl⟩:=ints_rt.rd _ _ _ e5
  obtain ⟨p6,rfl⟩:=types_rt.rd _ _ _ e6
  rw [hf]
  refine ⟨andE_t.2 ⟨p0,andE_t.2 ⟨p1,andE_t.2 ⟨p2,andE_t.2 ⟨p3,andE_t.2 ⟨p4,andE_t.2 ⟨p5,p6⟩⟩⟩⟩⟩⟩,?_⟩
  rw [andE_1 p0,andE_1 p1,andE_1 p2,andE_1 p3,andE_1 p4,andE_1 p5]
  simp
theorem inss_rt:RT (listD insD) (listE insE):=list_rt ins_rt
theorem block_rt:RT blockD blockE:=by
 have hf:∀ x,blockE x = andE (listE insE x.code) (andE (numE x.fin.kind) (andE (numE x.fin.a) (intsE x.fin.targets))):=fun x => by
  simp only [blockE,eachE,andE_assoc,pre_ok]
 refine ⟨fun x r h => ?_,fun l x r h => ?_⟩
 ·rw [hf] at h ⊢
  have p0:=(andE_t.1 h).1
  have q0:=(andE_t.1 h).2
  have p1:=(andE_t.1 q0).1
  have q1:=(andE_t.1 q0).2
  have p2:=(andE_t.1 q1).1
  have q2:=(andE_t.1 q1).2
  rw [andE_1 p0,andE_1 p1,andE_1 p2]
  simp only [List.append_assoc]
  exact (andD_some (inss_rt.wr _ _ p0)).trans <| (andD_some (num_rt.wr _ _ p1)).trans <| (andD_some (num_rt.wr _ _ p2)).trans <| (andD_some (ints_rt.wr _ _ q2)).trans <| rfl
 ·obtain ⟨c,r0,e0,h⟩:=andD_inv h
  obtain ⟨k,r1,e1,h⟩:=andD_inv h
  obtain ⟨a,r2,e2,h⟩:=andD_inv h
  obtain ⟨t,r3,e3,h⟩:=andD_inv h
  injection h with h
  injection h with h1 h2
  subst h1 h2
  obtain ⟨p0,rfl⟩:=inss_rt.rd _ _ _ e0
  obtain ⟨p1,rfl⟩:=num_rt.rd _ _ _ e1
  obtain ⟨p2,rfl⟩:=num_rt.rd _ _ _ e2
  obtain ⟨p3,rfl⟩:=ints_rt.rd _ _ _ e3
  rw [hf]
  refine ⟨andE_t.2 ⟨p0,andE_t.2 ⟨p1,andE_t.2 ⟨p2,p3⟩⟩⟩,?_⟩
  rw [andE_1 p0,andE_1 p1,andE_1 p2]
  simp
theorem lent_rt:RT lentD lentE:=by
 have hf:∀ x,lentE x = andE (numE x.slot) (andE (numE (bitI x.excl)) (numE (bitI x.re))):=fun x => by
  simp only [lentE,eachE,andE_assoc,pre_ok]
 refine ⟨fun x r h => ?_,fun l x r h => ?_⟩
 ·rw [hf] at h ⊢
  have p0:=(andE_t.1 h).1
  have q0:=(andE_t.1 h).2
  have p1:=(andE_t.1 q0).1
  have q1:=(andE_t.1 q0).2
  rw [andE_1 p0,andE_1 p1]
  simp only [List.append_assoc]
  exact (andD_some (num_rt.wr _ _ p0)).trans <| (andD_some (bit_rt.wr _ _ p1)).trans <| (andD_some (bit_rt.wr _ _ q1)).trans <| rfl
 ·obtain ⟨s,r0,e0,h⟩:=andD_inv h
  obtain ⟨e,r1,e1,h⟩:=andD_inv h
  obtain ⟨q,r2,e2,h⟩:=andD_inv h
  injection h with h
  injection h with h1 h2
  subst h1 h2
  obtain ⟨p0,rfl⟩:=num_rt.rd _ _ _ e0
  obtain ⟨p1,rfl⟩:=bit_rt.rd _ _ _ e1
  obtain ⟨p2,rfl⟩:=bit_rt.rd _ _ _ e2
  rw [hf]
  refine ⟨andE_t.2 ⟨p0,andE_t.2 ⟨p1,p2⟩⟩,?_⟩
  rw [andE_1 p0,andE_1 p1]
  simp
theorem lents_rt:RT (listD lentD) (listE lentE):=list_rt lent_rt
theorem slot_rt:RT slotD slotE:=by
 have hf:∀ x,slotE x = andE (numE x.state) (andE (fullE x.type) (andE (numE x.var) (andE (numE x.flag) (listE lentE x.lent)))):=fun x => by
  simp only [slotE,eachE,andE_assoc,pre_ok]
 refine ⟨fun x r h => ?_,fun l x r h => ?_⟩
 ·rw [hf] at h ⊢
  have p0:=(andE_t.1 h).1
  have q0:=(andE_t.1 h).2
  have p1:=(andE_t.1 q0).1
  have q1:=(andE_t.1 q0).2
  have p2:=(andE_t.1 q1).1
  have q2:=(andE_t.1 q1).2
  have p3:=(andE_t.1 q2).1
  have q3:=(andE_t.1 q2).2
  rw [andE_1 p0,andE_1 p1,andE_1 p2,andE_1 p3]
  simp only [List.append_assoc]
  exact (andD_some (num_rt.wr _ _ p0)).trans <| (andD_some (full_rt.wr _ _ p1)).trans <| (andD_some (num_rt.wr _ _ p2)).trans <| (andD_some (num_rt.wr _ _ p3)).trans <| (andD_some (lents_rt.wr _ _ q3)).trans <| rfl
 ·obtain ⟨s,r0,e0,h⟩:=andD_inv h
  obtain ⟨t,r1,e1,h⟩:=andD_inv h
  obtain ⟨v,r2,e2,h⟩:=andD_inv h
  obtain ⟨f,r3,e3,h⟩:=andD_inv h
  obtain ⟨q,r4,e4,h⟩:=andD_inv h
  injection h with h
  injection h with h1 h2
  subst h1 h2
  obtain ⟨p0,rfl⟩:=num_rt.rd _ _ _ e0
  obtain ⟨p1,rfl⟩:=full_rt.rd _ _ _ e1
  obtain ⟨p2,rfl⟩:=num_rt.rd _ _ _ e2
  obtain ⟨p3,rfl⟩:=num_rt.rd _ _ _ e3
  obtain ⟨p4,rfl⟩:=lents_rt.rd _ _ _ e4
  rw [hf]
  refine ⟨andE_t.2 ⟨p0,andE_t.2 ⟨p1,andE_t.2 ⟨p2,andE_t.2 ⟨p3,p4⟩⟩⟩⟩,?_⟩
  rw [andE_1 p0,andE_1 p1,andE_1 p2,andE_1 p3]
  simp
theorem slots_rt:RT slotsD slotsE:=list_rt slot_rt
theorem blocks_rt:RT (listD blockD) (listE blockE):=list_rt block_rt
theorem entry_rt:RT (listD slotsD) (listE slotsE):=list_rt slots_rt
theorem rout_rt:RT routD routE:=by
 have hf:∀ x,routE x = andE (nameE x.name) (andE (typesE x.params) (andE (fullE x.result) (andE (intsE x.ties) (andE (numE x.slots) (andE (listE blockE x.blocks) (listE slotsE x.entry)))))):=fun x => by
  simp only [routE,eachE,andE_assoc,pre_ok]
 refine ⟨fun x r h => ?_,fun l x r h => ?_⟩
 ·rw [hf] at h ⊢
  have p0:=(andE_t.1 h).1
  have q0:=(andE_t.1 h).2
  have p1:=(andE_t.1 q0).1
  have q1:=(andE_t.1 q0).2
  have p2:=(andE_t.1 q1).1
  have q2:=(andE_t.1 q1).2
  have p3:=(andE_t.1 q2).1
  have q3:=(andE_t.1 q2).2
  have p4:=(andE_t.1 q3).1
  have q4:=(andE_t.1 q3).2
  have p5:=(andE_t.1 q4).1
  have q5:=(andE_t.1 q4).2
  rw [andE_1 p0,andE_1 p1,andE_1 p2,andE_1 p3,andE_1 p4,andE_1 p5]
  simp only [List.append_assoc]
  exact (andD_some (name_rt.wr _ _ p0)).trans <| (andD_some (types_rt.wr _ _ p1)).trans <| (andD_some (full_rt.wr _ _ p2)).trans <| (andD_some (ints_rt.wr _ _ p3)).trans <| (andD_some (num_rt.wr _ _ p4)).trans <| (andD_some (blocks_rt.wr _ _ p5)).trans <| (andD_some (entry_rt.wr _ _ q5)).trans <| rfl
 ·obtain ⟨s,r0,e0,h⟩:=andD_inv h
  obtain ⟨p,r1,e1,h⟩:=andD_inv h
  obtain ⟨q,r2,e2,h⟩:=andD_inv h
  obtain ⟨t,r3,e3,h⟩:=andD_inv h
  obtain ⟨n,r4,e4,h⟩:=andD_inv h
  obtain ⟨b,r5,e5,h⟩:=andD_inv h
  obtain ⟨y,r6,e6,h⟩:=andD_inv h
  injection h with h
  injection h with h1 h2
  subst h1 h2
  obtain ⟨p0,rfl⟩:=name_rt.rd _ _ _ e0
  obtain ⟨p1,rfl⟩:=types_rt.rd _ _ _ e1
  obtain ⟨p2,rfl⟩:=full_rt.rd _ _ _ e2
  obtain ⟨p3,rfl⟩:=ints_rt.rd _ _ _ e3
  obtain ⟨p4,rfl⟩:=num_rt.rd _ _ _ e4
  obtain ⟨p5,rfl⟩:=blocks_rt.rd _ _ _ e5
  obtain ⟨p6,rfl⟩:=entry_rt.rd _ _ _ e6
  rw [hf]
  refine ⟨andE_t.2 ⟨p0,andE_t.2 ⟨p1,andE_t.2 ⟨p2,andE_t.2 ⟨p3,andE_t.2 ⟨p4,andE_t.2 ⟨p5,p6⟩⟩⟩⟩⟩⟩,?_⟩
  rw [andE_1 p0,andE_1 p1,andE_1 p2,andE_1 p3,andE_1 p4,andE_1 p5]
  simp
theorem datas_rt:RT (listD dataD) (listE dataE):=list_rt data_rt
theorem routs_rt:RT (listD routD) (listE routE):=list_rt rout_rt
theorem img_rt:RT imgD imgE:=by
 have hf:∀ x,imgE x = andE (listE dataE x.datas) (andE (listE routE x.routs) (numE x.main)):=fun x => by
  simp only [imgE,eachE,andE_assoc,pre_ok]
 refine ⟨fun x r h => ?_,fun l x r h => ?_⟩
 ·rw [hf] at h ⊢
  have p0:=(andE_t.1 h).1
  have q0:=(andE_t.1 h).2
  have p1:=(andE_t.1 q0).1
  have q1:=(andE_t.1 q0).2
  rw [andE_1 p0,andE_1 p1]
  simp only [List.append_assoc]
  exact (andD_some (datas_rt.wr _ _ p0)).trans <| (andD_some (routs_rt.wr _ _ p1)).trans <| (andD_some (num_rt.wr _ _ q1)).trans <| rfl
 ·obtain ⟨d,r0,e0,h⟩:=andD_inv h
  obtain ⟨q,r1,e1,h⟩:=andD_inv h
  obtain ⟨m,r2,e2,h⟩:=andD_inv h
  injection h with h
  injection h with h1 h2
  subst h1 h2
  obtain ⟨p0,rfl⟩:=datas_rt.rd _ _ _ e0
  obtain ⟨p1,rfl⟩:=routs_rt.rd _ _ _ e1
  obtain ⟨p2,rfl⟩:=num_rt.rd _ _ _ e2
  rw [hf]
  refine ⟨andE_t.2 ⟨p0,andE_t.2 ⟨p1,p2⟩⟩,?_⟩
  rw [andE_1 p0,andE_1 p1]
  simp
theorem t28 (g:Nat) (hc:∀ bs,RdOk 29 [adr g 0] (pin g 61) bs (dataD bs) (fun x => .agg (dataC x))) (bs:List UInt8):RdOk 28 [adr g 0,.fn 29 [adr g 0] []] (pin g 61) bs (listD dataD bs) (fun l => .sl (l.map dataC)):=by
 refine callsTX_facts Tryz.func28 facts28 rfl fun hw ho => ?_
 refine rdN (t32 g bs) rfl rfl (fun h => ⟨rfl,by simp only [listD,h]⟩) fun n r e _ => ?_
 refine brn_p (fun h0 => ?_) (fun h0 => ?_)
 ·refine chk (t33 (decide (n ≤ 400))) rfl (fun h => ⟨rfl,?_⟩) fun h => ?_
  ·have h:=of_decide_eq_false h
   simp only [listD,e]
   rw [if_neg (fun q => h q.2)]
  have h:=of_decide_eq_true h
  have hl:listD dataD bs = repO [] (repD dataD n.toNat r):=by
   simp only [listD,e]
   rw [if_pos ⟨h0,h⟩,repO_nil]
  refine loopN n.toNat 17 [6] (([],r):List (Api.Data) × List UInt8) (fun _ => [.rw 23]) (fun s => RdR 23 44 5 dataC g s) (fun k s => s.1.length = k ∧ repO s.1 (repD dataD (n.toNat - k) s.2) = listD dataD bs) ⟨rfl,hl.symm⟩ (same_keys rfl) ⟨nil_rw rfl rfl,trivial⟩
   ⟨.inr ⟨rfl,44,5,rfl⟩,.inl ⟨_,rfl,.inl ⟨rfl,rfl⟩⟩,trivial⟩ (fun _ => rfl) (fun _ => rfl) ?_
  rintro k ⟨a,l⟩ hk ⟨hak,hinv⟩ _ _ _
  refine brn_p (fun hlt => ?_) (fun hge => ?_)
  ·have hlt:k < n.toNat:=by omega
   have h6:n.toNat - k = (n.toNat - (k + 1)) + 1:=by omega
   refine rdN (hc l) rfl rfl (fun h => ⟨rfl,?_⟩) fun x r2 e2 _ => ?_
   ·rw [← hinv,h6,repO_none h]
   refine app1r k rfl (by simpa using hak) (by omega) (by omega) ?_
   refine Fit.in64 (by omega) (by omega) ?_
   refine ⟨(k + 1,(a ++ [x],r2)),⟨by omega,by simp [hak],?_⟩,⟨nextI,⟨same_keys rfl,trivial⟩⟩,⟨.inl ⟨_,rfl,.inl ⟨?_,rfl⟩⟩,.inl ⟨_,rfl,.inl ⟨rfl,rfl⟩⟩,trivial⟩,nextM hlt⟩
   ·rw [← hinv,h6,repO_step e2]
   ·exact congrArg (TO.row 44 5) (List.map_append (f:=dataC) (l₁:=a) (l₂:=[x])).symm
  ·have:n.toNat - k = 0:=by omega
   rw [this] at hinv
   refine retRF [23] [1000] ⟨_,_,rfl,rfl,rfl,?_⟩
   exact ⟨a,l,by rw [← hinv]; simp [repD,repO],rfl,rfl⟩
 ·refine chk (t33 false) rfl (fun h => ⟨rfl,?_⟩) fun h => by cases h
  simp only [listD,e]
  rw [if_neg (fun q => h0 q.1)]
theorem t30 (g:Nat) (hc:∀ bs,RdOk 31 [adr g 0] (pin g 61) bs (routD bs) (fun x => .agg (routC x))) (bs:List UInt8):RdOk 30 [adr g 0,.fn 31 [adr g 0] []] (pin g 61) bs (listD routD bs) (fun l => .sl (l.map routC)):=by
 refine callsTX_facts Tryz.func30 facts30 rfl fun hw ho => ?_
 refine rdN (t32 g bs) rfl rfl (fun h => ⟨rfl,by simp only [listD,h]⟩) fun n r e _ => ?_
 refine brn_p (fun h0 => ?_) (fun h0 => ?_)
 ·refine chk (t33 (decide (n ≤ 400))) rfl (fun h => ⟨rfl,?_⟩) fun h => ?_
  ·have h:=of_decide_eq_false h
   simp only [listD,e]
   rw [if_neg (fun q => h q.2)]
  have h:=of_decide_eq_true h
  have hl:listD routD bs = repO [] (repD routD n.toNat r):=by
   simp only [listD,e]
   rw [if_pos ⟨h0,h⟩,repO_nil]
  refine loopN n.toNat 17 [6] (([],r):List (Rout) × List UInt8) (fun _ => [.rw 23]) (fun s => RdR 23 56 9 routC g s) (fun k s => s.1.length = k ∧ repO s.1 (repD routD (n.toNat - k) s.2) = listD routD bs) ⟨rfl,hl.symm⟩ (same_keys rfl) ⟨nil_rw rfl rfl,trivial⟩
   ⟨.inr ⟨rfl,56,9,rfl⟩,.inl ⟨_,rfl,.inl ⟨rfl,rfl⟩⟩,trivial⟩ (fun _ => rfl) (fun _ => rfl) ?_
  rintro k ⟨a,l⟩ hk ⟨hak,hinv⟩ _ _ _
  refine brn_p (fun hlt => ?_) (fun hge => ?_)
  ·have hlt:k < n.toNat:=by omega
   have h6:n.toNat - k = (n.toNat - (k + 1)) + 1:=by omega
   refine rdN (hc l) rfl rfl (fun h => ⟨rfl,?_⟩) fun x r2 e2 _ => ?_
   ·rw [← hinv,h6,repO_none h]
   refine app1r k rfl (by simpa using hak) (by omega) (by omega) ?_
   refine Fit.in64 (by omega) (by omega) ?_
   refine ⟨(k + 1,(a ++ [x],r2)),⟨by omega,by simp [hak],?_⟩,⟨nextI,⟨same_keys rfl,trivial⟩⟩,⟨.inl ⟨_,rfl,.inl ⟨?_,rfl⟩⟩,.inl ⟨_,rfl,.inl ⟨rfl,rfl⟩⟩,trivial⟩,nextM hlt⟩
   ·rw [← hinv,h6,repO_step e2]
   ·exact congrArg (TO.row 56 9) (List.map_append (f:=routC) (l₁:=a) (l₂:=[x])).symm
  ·have:n.toNat - k = 0:=by omega
   rw [this] at hinv
   refine retRF [23] [1000] ⟨_,_,rfl,rfl,rfl,?_⟩
   exact ⟨a,l,by rw [← hinv]; simp [repD,repO],rfl,rfl⟩
 ·refine chk (t33 false) rfl (fun h => ⟨rfl,?_⟩) fun h => by cases h
  simp only [listD,e]
  rw [if_neg (fun q => h0 q.1)]
theorem t63 (g:Nat) (hc:∀ bs,RdOk 64 [.pt [adr g 0] 0] (pin g 61) bs (varD bs) (fun x => .agg (variantC x))) (bs:List UInt8):RdOk 63 [adr g 0,.fn 64 [] [.pt [adr g 0] 0]] (pin g 61) bs (listD varD bs) (fun l => .sl (l.map variantC)):=by
 refine callsTX_facts Tryz.func63 facts63 rfl fun hw ho => ?_
 refine rdN (t32 g bs) rfl rfl (fun h => ⟨rfl,by simp only [listD,h]⟩) fun n r e _ => ?_
 refine brn_p (fun h0 => ?_) (fun h0 => ?_)
 ·refine chk (t33 (decide (n ≤ 400))) rfl (fun h => ⟨rfl,?_⟩) fun h => ?_
  ·have h:=of_decide_eq_false h
   simp only [listD,e]
   rw [if_neg (fun q => h q.2)]
  have h:=of_decide_eq_true h
  have hl:listD varD bs = repO [] (repD varD n.toNat r):=by
   simp only [listD,e]
   rw [if_pos ⟨h0,h⟩,repO_nil]
  refine loopN n.toNat 17 [6] (([],r):List (Variant) × List UInt8) (fun _ => [.rw 23]) (fun s => RdR 23 48 2 variantC g s) (fun k s => s.1.length = k ∧ repO s.1 (repD varD (n.toNat - k) s.2) = listD varD bs) ⟨rfl,hl.symm⟩ (same_keys rfl) ⟨nil_rw rfl rfl,trivial⟩
   ⟨.inr ⟨rfl,48,2,rfl⟩,.inl ⟨_,rfl,.inl ⟨rfl,rfl⟩⟩,trivial⟩ (fun _ => rfl) (fun _ => rfl) ?_
  rintro k ⟨a,l⟩ hk ⟨hak,hinv⟩ _ _ _
  refine brn_p (fun hlt => ?_) (fun hge => ?_)
  ·have hlt:k < n.toNat:=by omega
   have h6:n.toNat - k = (n.toNat - (k + 1)) + 1:=by omega
   refine rdN (hc l) rfl rfl (fun h => ⟨rfl,?_⟩) fun x r2 e2 _ => ?_
   ·rw [← hinv,h6,repO_none h]
   refine app1r k rfl (by simpa using hak) (by omega) (by omega) ?_
   refine Fit.in64 (by omega) (by omega) ?_
   refine ⟨(k + 1,(a ++ [x],r2)),⟨by omega,by simp [hak],?_⟩,⟨nextI,⟨same_keys rfl,trivial⟩⟩,⟨.inl ⟨_,rfl,.inl ⟨?_,rfl⟩⟩,.inl ⟨_,rfl,.inl ⟨rfl,rfl⟩⟩,trivial⟩,nextM hlt⟩
   ·rw [← hinv,h6,repO_step e2]
   ·exact congrArg (TO.row 48 2) (List.map_append (f:=variantC) (l₁:=a) (l₂:=[x])).symm
  ·have:n.toNat - k = 0:=by omega
   rw [this] at hinv
   refine retRF [23] [1000] ⟨_,_,rfl,rfl,rfl,?_⟩
   exact ⟨a,l,by rw [← hinv]; simp [repD,repO],rfl,rfl⟩
 ·refine chk (t33 false) rfl (fun h => ⟨rfl,?_⟩) fun h => by cases h
  simp only [listD,e]
  rw [if_neg (fun q => h0 q.1)]
theorem t65 (g:Nat) (hc:∀ bs,RdOk 66 [adr g 0] (pin g 61) bs (fullD bs) tyA) (bs:List UInt8):RdOk 65 [adr g 0,.fn 66 [adr g 0] []] (pin g 61) bs (listD fullD bs) (fun l => .sl (l.map tyC)):=by
 refine callsTX_facts Tryz.func65 facts65 rfl fun hw ho => ?_
 refine rdN (t32 g bs) rfl rfl (fun h => ⟨rfl,by simp only [listD,h]⟩) fun n r e _ => ?_
 refine brn_p (fun h0 => ?_) (fun h0 => ?_)
 ·refine chk (t33 (decide (n ≤ 400))) rfl (fun h => ⟨rfl,?_⟩) fun h => ?_
  ·have h:=of_decide_eq_false h
   simp only [listD,e]
   rw [if_neg (fun q => h q.2)]
  have h:=of_decide_eq_true h
  have hl:listD fullD bs = repO [] (repD fullD n.toNat r):=by
   simp only [listD,e]
   rw [if_pos ⟨h0,h⟩,repO_nil]
  refine loopN n.toNat 17 [6] (([],r):List (Ty) × List UInt8) (fun _ => [.rw 23]) (fun s => RdR 23 51 3 (fun t => [IC t.kind,IC t.id,.sl (t.args.map tyC)]) g s) (fun k s => s.1.length = k ∧ repO s.1 (repD fullD (n.toNat - k) s.2) = listD fullD bs) ⟨rfl,hl.symm⟩ (same_keys rfl) ⟨nil_rw rfl rfl,trivial⟩
   ⟨.inr ⟨rfl,51,3,rfl⟩,.inl ⟨_,rfl,.inl ⟨rfl,rfl⟩⟩,trivial⟩ (fun _ => rfl) (fun _ => rfl) ?_
  rintro k ⟨a,l⟩ hk ⟨hak,hinv⟩ _ _ _
  refine brn_p (fun hlt => ?_) (fun hge => ?_)
  ·have hlt:k < n.toNat:=by omega
   have h6:n.toNat - k = (n.toNat - (k + 1)) + 1:=by omega
   refine rdN (hc l) rfl rfl (fun h => ⟨rfl,?_⟩) fun x r2 e2 _ => ?_
   ·rw [← hinv,h6,repO_none h]
   refine app1r k rfl (by simpa using hak) (by omega) (by omega) ?_
   refine Fit.in64 (by omega) (by omega) ?_
   refine ⟨(k + 1,(a ++ [x],r2)),⟨by omega,by simp [hak],?_⟩,⟨nextI,⟨same_keys rfl,trivial⟩⟩,⟨.inl ⟨_,rfl,.inl ⟨?_,rfl⟩⟩,.inl ⟨_,rfl,.inl ⟨rfl,rfl⟩⟩,trivial⟩,nextM hlt⟩
   ·rw [← hinv,h6,repO_step e2]
   ·exact congrArg (TO.row 51 3) (List.map_append (f:=(fun t => [IC t.kind,IC t.id,.sl (t.args.map tyC)])) (l₁:=a) (l₂:=[x])).symm
  ·have:n.toNat - k = 0:=by omega
   rw [this] at hinv
   refine retRF [23] [1000] ⟨_,_,rfl,rfl,rfl,?_⟩
   exact ⟨a,l,by rw [← hinv]; simp [repD,repO],rfl,congrArg C.sl (List.map_congr_left fun t _ => (tyC_eq t).symm)⟩
 ·refine chk (t33 false) rfl (fun h => ⟨rfl,?_⟩) fun h => by cases h
  simp only [listD,e]
  rw [if_neg (fun q => h0 q.1)]
theorem t65d (g:Nat) (m:Int) {D:Dec Ty} (hc:∀ bs,RdOk 149 [.pt [adr g 0] 0,.pt [IC m] 0] (pin g 61) bs (D bs) tyA) (bs:List UInt8):RdOk 65 [adr g 0,.fn 149 [] [.pt [adr g 0] 0,.pt [IC m] 0]] (pin g 61) bs (listD D bs) (fun l => .sl (l.map tyC)):=by
 refine callsTX_facts Tryz.func65 facts65 rfl fun hw ho => ?_
 refine rdN (t32 g bs) rfl rfl (fun h => ⟨rfl,by simp only [listD,h]⟩) fun n r e _ => ?_
 refine brn_p (fun h0 => ?_) (fun h0 => ?_)
 ·refine chk (t33 (decide (n ≤ 400))) rfl (fun h => ⟨rfl,?_⟩) fun h => ?_
  ·have h:=of_decide_eq_false h
   simp only [listD,e]
   rw [if_neg (fun q => h q.2)]
  have h:=of_decide_eq_true h
  have hl:listD D bs = repO [] (repD D n.toNat r):=by
   simp only [listD,e]
   rw [if_pos ⟨h0,h⟩,repO_nil]
  refine loopN n.toNat 17 [6] (([],r):List (Ty) × List UInt8) (fun _ => [.rw 23]) (fun s => RdR 23 51 3 (fun t => [IC t.kind,IC t.id,.sl (t.args.map tyC)]) g s) (fun k s => s.1.length = k ∧ repO s.1 (repD D (n.toNat - k) s.2) = listD D bs) ⟨rfl,hl.symm⟩ (same_keys rfl) ⟨nil_rw rfl rfl,trivial⟩
   ⟨.inr ⟨rfl,51,3,rfl⟩,.inl ⟨_,rfl,.inl ⟨rfl,rfl⟩⟩,trivial⟩ (fun _ => rfl) (fun _ => rfl) ?_
  rintro k ⟨a,l⟩ hk ⟨hak,hinv⟩ _ _ _
  refine brn_p (fun hlt => ?_) (fun hge => ?_)
  ·have hlt:k < n.toNat:=by omega
   have h6:n.toNat - k = (n.toNat - (k + 1)) + 1:=by omega
   refine rdN (hc l) rfl rfl (fun h => ⟨rfl,?_⟩) fun x r2 e2 _ => ?_
   ·rw [← hinv,h6,repO_none h]
   refine app1r k rfl (by simpa using hak) (by omega) (by omega) ?_
   refine Fit.in64 (by omega) (by omega) ?_
   refine ⟨(k + 1,(a ++ [x],r2)),⟨by omega,by simp [hak],?_⟩,⟨nextI,⟨same_keys rfl,trivial⟩⟩,⟨.inl ⟨_,rfl,.inl ⟨?_,rfl⟩⟩,.inl ⟨_,rfl,.inl ⟨rfl,rfl⟩⟩,trivial⟩,nextM hlt⟩
   ·rw [← hinv,h6,repO_step e2]
   ·exact congrArg (TO.row 51 3) (List.map_append (f:=(fun t => [IC t.kind,IC t.id,.sl (t.args.map tyC)])) (l₁:=a) (l₂:=[x])).symm
  ·have:n.toNat - k = 0:=by omega
   rw [this] at hinv
   refine retRF [23] [1000] ⟨_,_,rfl,rfl,rfl,?_⟩
   exact ⟨a,l,by rw [← hinv]; simp [repD,repO],rfl,congrArg C.sl (List.map_congr_left fun t _ => (tyC_eq t).symm)⟩
 ·refine chk (t33 false) rfl (fun h => ⟨rfl,?_⟩) fun h => by cases h
  simp only [listD,e]
  rw [if_neg (fun q => h0 q.1)]
theorem t68 (g:Nat) (hc:∀ bs,RdOk 69 [adr g 0] (pin g 61) bs (blockD bs) (fun x => .agg (blockC x))) (bs:List UInt8):RdOk 68 [adr g 0,.fn 69 [adr g 0] []] (pin g 61) bs (listD blockD bs) (fun l => .sl (l.map blockC)):=by
 refine callsTX_facts Tryz.func68 facts68 rfl fun hw ho => ?_
 refine rdN (t32 g bs) rfl rfl (fun h => ⟨rfl,by simp only [listD,h]⟩) fun n r e _ => ?_
 refine brn_p (fun h0 => ?_) (fun h0 => ?_)
 ·refine chk (t33 (decide (n ≤ 400))) rfl (fun h => ⟨rfl,?_⟩) fun h => ?_
  ·have h:=of_decide_eq_false h
   simp only [listD,e]
   rw [if_neg (fun q => h q.2)]
  have h:=of_decide_eq_true h
  have hl:listD blockD bs = repO [] (repD blockD n.toNat r):=by
   simp only [listD,e]
   rw [if_pos ⟨h0,h⟩,repO_nil]
  refine loopN n.toNat 17 [6] (([],r):List (Block) × List UInt8) (fun _ => [.rw 23]) (fun s => RdR 23 105 4 blockC g s) (fun k s => s.1.length = k ∧ repO s.1 (repD blockD (n.toNat - k) s.2) = listD blockD bs) ⟨rfl,hl.symm⟩ (same_keys rfl) ⟨nil_rw rfl rfl,trivial⟩
   ⟨.inr ⟨rfl,105,4,rfl⟩,.inl ⟨_,rfl,.inl ⟨rfl,rfl⟩⟩,trivial⟩ (fun _ => rfl) (fun _ => rfl) ?_
  rintro k ⟨a,l⟩ hk ⟨hak,hinv⟩ _ _ _
  refine brn_p (fun hlt => ?_) (fun hge => ?_)
  ·have hlt:k < n.toNat:=by omega
   have h6:n.toNat - k = (n.toNat - (k + 1)) + 1:=by omega
   refine rdN (hc l) rfl rfl (fun h => ⟨rfl,?_⟩) fun x r2 e2 _ => ?_
   ·rw [← hinv,h6,repO_none h]
   refine app1r k rfl (by simpa using hak) (by omega) (by omega) ?_
   refine Fit.in64 (by omega) (by omega) ?_
   refine ⟨(k + 1,(a ++ [x],r2)),⟨by omega,by simp [hak],?_⟩,⟨nextI,⟨same_keys rfl,trivial⟩⟩,⟨.inl ⟨_,rfl,.inl ⟨?_,rfl⟩⟩,.inl ⟨_,rfl,.inl ⟨rfl,rfl⟩⟩,trivial⟩,nextM hlt⟩
   ·rw [← hinv,h6,repO_step e2]
   ·exact congrArg (TO.row 105 4) (List.map_append (f:=blockC) (l₁:=a) (l₂:=[x])).symm
  ·have:n.toNat - k = 0:=by omega
   rw [this] at hinv
   refine retRF [23] [1000] ⟨_,_,rfl,rfl,rfl,?_⟩
   exact ⟨a,l,by rw [← hinv]; simp [repD,repO],rfl,rfl⟩
 ·refine chk (t33 false) rfl (fun h => ⟨rfl,?_⟩) fun h => by cases h
  simp only [listD,e]
  rw [if_neg (fun q => h0 q.1)]
theorem t70 (g:Nat) (hc:∀ bs,RdOk 71 [adr g 0] (pin g 61) bs (slotsD bs) (fun l => .sl (l.map slotC))) (bs:List UInt8):RdOk 70 [adr g 0,.fn 71 [adr g 0] []] (pin g 61) bs (listD slotsD bs) (fun l => .sl (l.map slotsC)):=by
 refine callsTX_facts Tryz.func70 facts70 rfl fun hw ho => ?_
 refine rdN (t32 g bs) rfl rfl (fun h => ⟨rfl,by simp only [listD,h]⟩) fun n r e _ => ?_
 refine brn_p (fun h0 => ?_) (fun h0 => ?_)
 ·refine chk (t33 (decide (n ≤ 400))) rfl (fun h => ⟨rfl,?_⟩) fun h => ?_
  ·have h:=of_decide_eq_false h
   simp only [listD,e]
   rw [if_neg (fun q => h q.2)]
  have h:=of_decide_eq_true h
  have hl:listD slotsD bs = repO [] (repD slotsD n.toNat r):=by
   simp only [listD,e]
   rw [if_pos ⟨h0,h⟩,repO_nil]
  refine loopN n.toNat 17 [6] (([],r):List (List Slot) × List UInt8) (fun _ => [.rw 23]) (fun s => RdR 23 109 1 slotsC g s) (fun k s => s.1.length = k ∧ repO s.1 (repD slotsD (n.toNat - k) s.2) = listD slotsD bs) ⟨rfl,hl.symm⟩ (same_keys rfl) ⟨nil_rw rfl rfl,trivial⟩
   ⟨.inr ⟨rfl,109,1,rfl⟩,.inl ⟨_,rfl,.inl ⟨rfl,rfl⟩⟩,trivial⟩ (fun _ => rfl) (fun _ => rfl) ?_
  rintro k ⟨a,l⟩ hk ⟨hak,hinv⟩ _ _ _
  refine brn_p (fun hlt => ?_) (fun hge => ?_)
  ·have hlt:k < n.toNat:=by omega
   have h6:n.toNat - k = (n.toNat - (k + 1)) + 1:=by omega
   refine rdN (hc l) rfl rfl (fun h => ⟨rfl,?_⟩) fun x r2 e2 _ => ?_
   ·rw [← hinv,h6,repO_none h]
   refine app1r k rfl (by simpa using hak) (by omega) (by omega) ?_
   refine Fit.in64 (by omega) (by omega) ?_
   refine ⟨(k + 1,(a ++ [x],r2)),⟨by omega,by simp [hak],?_⟩,⟨nextI,⟨same_keys rfl,trivial⟩⟩,⟨.inl ⟨_,rfl,.inl ⟨?_,rfl⟩⟩,.inl ⟨_,rfl,.inl ⟨rfl,rfl⟩⟩,trivial⟩,nextM hlt⟩
   ·rw [← hinv,h6,repO_step e2]
   ·exact congrArg (TO.row 109 1) (List.map_append (f:=slotsC) (l₁:=a) (l₂:=[x])).symm
  ·have:n.toNat - k = 0:=by omega
   rw [this] at hinv
   refine retRF [23] [1000] ⟨_,_,rfl,rfl,rfl,?_⟩
   exact ⟨a,l,by rw [← hinv]; simp [repD,repO],rfl,rfl⟩
 ·refine chk (t33 false) rfl (fun h => ⟨rfl,?_⟩) fun h => by cases h
  simp only [listD,e]
  rw [if_neg (fun q => h0 q.1)]
theorem t115 (g:Nat) (hc:∀ bs,RdOk 116 [.pt [adr g 0] 0] (pin g 61) bs (insD bs) (fun x => .agg (insC x))) (bs:List UInt8):RdOk 115 [adr g 0,.fn 116 [] [.pt [adr g 0] 0]] (pin g 61) bs (listD insD bs) (fun l => .sl (l.map insC)):=by
 refine callsTX_facts Tryz.func115 facts115 rfl fun hw ho => ?_
 refine rdN (t32 g bs) rfl rfl (fun h => ⟨rfl,by simp only [listD,h]⟩) fun n r e _ => ?_
 refine brn_p (fun h0 => ?_) (fun h0 => ?_)
 ·refine chk (t33 (decide (n ≤ 400))) rfl (fun h => ⟨rfl,?_⟩) fun h => ?_
  ·have h:=of_decide_eq_false h
   simp only [listD,e]
   rw [if_neg (fun q => h q.2)]
  have h:=of_decide_eq_true h
  have hl:listD insD bs = repO [] (repD insD n.toNat r):=by
   simp only [listD,e]
   rw [if_pos ⟨h0,h⟩,repO_nil]
  refine loopN n.toNat 17 [6] (([],r):List (Ins) × List UInt8) (fun _ => [.rw 23]) (fun s => RdR 23 100 7 insC g s) (fun k s => s.1.length = k ∧ repO s.1 (repD insD (n.toNat - k) s.2) = listD insD bs) ⟨rfl,hl.symm⟩ (same_keys rfl) ⟨nil_rw rfl rfl,trivial⟩
   ⟨.inr ⟨rfl,100,7,rfl⟩,.inl ⟨_,rfl,.inl ⟨rfl,rfl⟩⟩,trivial⟩ (fun _ => rfl) (fun _ => rfl) ?_
  rintro k ⟨a,l⟩ hk ⟨hak,hinv⟩ _ _ _
  refine brn_p (fun hlt => ?_) (fun hge => ?_)
  ·have hlt:k < n.toNat:=by omega
   have h6:n.toNat - k = (n.toNat - (k + 1)) + 1:=by omega
   refine rdN (hc l) rfl rfl (fun h => ⟨rfl,?_⟩) fun x r2 e2 _ => ?_
   ·rw [← hinv,h6,repO_none h]
   refine app1r k rfl (by simpa using hak) (by omega) (by omega) ?_
   refine Fit.in64 (by omega) (by omega) ?_
   refine ⟨(k + 1,(a ++ [x],r2)),⟨by omega,by simp [hak],?_⟩,⟨nextI,⟨same_keys rfl,trivial⟩⟩,⟨.inl ⟨_,rfl,.inl ⟨?_,rfl⟩⟩,.inl ⟨_,rfl,.inl ⟨rfl,rfl⟩⟩,trivial⟩,nextM hlt⟩
   ·rw [← hinv,h6,repO_step e2]
   ·exact congrArg (TO.row 100 7) (List.map_append (f:=insC) (l₁:=a) (l₂:=[x])).symm
  ·have:n.toNat - k = 0:=by omega
   rw [this] at hinv
   refine retRF [23] [1000] ⟨_,_,rfl,rfl,rfl,?_⟩
   exact ⟨a,l,by rw [← hinv]; simp [repD,repO],rfl,rfl⟩
 ·refine chk (t33 false) rfl (fun h => ⟨rfl,?_⟩) fun h => by cases h
  simp only [listD,e]
  rw [if_neg (fun q => h0 q.1)]
theorem t117 (g:Nat) (hc:∀ bs,RdOk 118 [.pt [adr g 0] 0] (pin g 61) bs (slotD bs) (fun x => .agg (slotC x))) (bs:List UInt8):RdOk 117 [adr g 0,.fn 118 [] [.pt [adr g 0] 0]] (pin g 61) bs (listD slotD bs) (fun l => .sl (l.map slotC)):=by
 refine callsTX_facts Tryz.func117 facts117 rfl fun hw ho => ?_
 refine rdN (t32 g bs) rfl rfl (fun h => ⟨rfl,by simp only [listD,h]⟩) fun n r e _ => ?_
 refine brn_p (fun h0 => ?_) (fun h0 => ?_)
 ·refine chk (t33 (decide (n ≤ 400))) rfl (fun h => ⟨rfl,?_⟩) fun h => ?_
  ·have h:=of_decide_eq_false h
   simp only [listD,e]
   rw [if_neg (fun q => h q.2)]
  have h:=of_decide_eq_true h
  have hl:listD slotD bs = repO [] (repD slotD n.toNat r):=by
   simp only [listD,e]
   rw [if_pos ⟨h0,h⟩,repO_nil]
  refine loopN n.toNat 17 [6] (([],r):List (Slot) × List UInt8) (fun _ => [.rw 23]) (fun s => RdR 23 108 7 slotC g s) (fun k s => s.1.length = k ∧ repO s.1 (repD slotD (n.toNat - k) s.2) = listD slotD bs) ⟨rfl,hl.symm⟩ (same_keys rfl) ⟨nil_rw rfl rfl,trivial⟩
   ⟨.inr ⟨rfl,108,7,rfl⟩,.inl ⟨_,rfl,.inl ⟨rfl,rfl⟩⟩,trivial⟩ (fun _ => rfl) (fun _ => rfl) ?_
  rintro k ⟨a,l⟩ hk ⟨hak,hinv⟩ _ _ _
  refine brn_p (fun hlt => ?_) (fun hge => ?_)
  ·have hlt:k < n.toNat:=by omega
   have h6:n.toNat - k = (n.toNat - (k + 1)) + 1:=by omega
   refine rdN (hc l) rfl rfl (fun h => ⟨rfl,?_⟩) fun x r2 e2 _ => ?_
   ·rw [← hinv,h6,repO_none h]
   refine app1r k rfl (by simpa using hak) (by omega) (by omega) ?_
   refine Fit.in64 (by omega) (by omega) ?_
   refine ⟨(k + 1,(a ++ [x],r2)),⟨by omega,by simp [hak],?_⟩,⟨nextI,⟨same_keys rfl,trivial⟩⟩,⟨.inl ⟨_,rfl,.inl ⟨?_,rfl⟩⟩,.inl ⟨_,rfl,.inl ⟨rfl,rfl⟩⟩,trivial⟩,nextM hlt⟩
   ·rw [← hinv,h6,repO_step e2]
   ·exact congrArg (TO.row 108 7) (List.map_append (f:=slotC) (l₁:=a) (l₂:=[x])).symm
  ·have:n.toNat - k = 0:=by omega
   rw [this] at hinv
   refine retRF [23] [1000] ⟨_,_,rfl,rfl,rfl,?_⟩
   exact ⟨a,l,by rw [← hinv]; simp [repD,repO],rfl,rfl⟩
 ·refine chk (t33 false) rfl (fun h => ⟨rfl,?_⟩) fun h => by cases h
  simp only [listD,e]
  rw [if_neg (fun q => h0 q.1)]
theorem t119 (g:Nat) (hc:∀ bs,RdOk 120 [.pt [adr g 0] 0] (pin g 61) bs (lentD bs) (fun x => .agg (lentC x))) (bs:List UInt8):RdOk 119 [adr g 0,.fn 120 [] [.pt [adr g 0] 0]] (pin g 61) bs (listD lentD bs) (fun l => .sl (l.map lentC)):=by
 refine callsTX_facts Tryz.func119 facts119 rfl fun hw ho => ?_
 refine rdN (t32 g bs) rfl rfl (fun h => ⟨rfl,by simp only [listD,h]⟩) fun n r e _ => ?_
 refine brn_p (fun h0 => ?_) (fun h0 => ?_)
 ·refine chk (t33 (decide (n ≤ 400))) rfl (fun h => ⟨rfl,?_⟩) fun h => ?_
  ·have h:=of_decide_eq_false h
   simp only [listD,e]
   rw [if_neg (fun q => h q.2)]
  have h:=of_decide_eq_true h
  have hl:listD lentD bs = repO [] (repD lentD n.toNat r):=by
   simp only [listD,e]
   rw [if_pos ⟨h0,h⟩,repO_nil]
  refine loopN n.toNat 17 [6] (([],r):List (Lent) × List UInt8) (fun _ => [.rw 23]) (fun s => RdR 23 158 3 lentC g s) (fun k s => s.1.length = k ∧ repO s.1 (repD lentD (n.toNat - k) s.2) = listD lentD bs) ⟨rfl,hl.symm⟩ (same_keys rfl) ⟨nil_rw rfl rfl,trivial⟩
   ⟨.inr ⟨rfl,158,3,rfl⟩,.inl ⟨_,rfl,.inl ⟨rfl,rfl⟩⟩,trivial⟩ (fun _ => rfl) (fun _ => rfl) ?_
  rintro k ⟨a,l⟩ hk ⟨hak,hinv⟩ _ _ _
  refine brn_p (fun hlt => ?_) (fun hge => ?_)
  ·have hlt:k < n.toNat:=by omega
   have h6:n.toNat - k = (n.toNat - (k + 1)) + 1:=by omega
   refine rdN (hc l) rfl rfl (fun h => ⟨rfl,?_⟩) fun x r2 e2 _ => ?_
   ·rw [← hinv,h6,repO_none h]
   refine app1r k rfl (by simpa using hak) (by omega) (by omega) ?_
   refine Fit.in64 (by omega) (by omega) ?_
   refine ⟨(k + 1,(a ++ [x],r2)),⟨by omega,by simp [hak],?_⟩,⟨nextI,⟨same_keys rfl,trivial⟩⟩,⟨.inl ⟨_,rfl,.inl ⟨?_,rfl⟩⟩,.inl ⟨_,rfl,.inl ⟨rfl,rfl⟩⟩,trivial⟩,nextM hlt⟩
   ·rw [← hinv,h6,repO_step e2]
   ·exact congrArg (TO.row 158 3) (List.map_append (f:=lentC) (l₁:=a) (l₂:=[x])).symm
  ·have:n.toNat - k = 0:=by omega
   rw [this] at hinv
   refine retRF [23] [1000] ⟨_,_,rfl,rfl,rfl,?_⟩
   exact ⟨a,l,by rw [← hinv]; simp [repD,repO],rfl,rfl⟩
 ·refine chk (t33 false) rfl (fun h => ⟨rfl,?_⟩) fun h => by cases h
  simp only [listD,e]
  rw [if_neg (fun q => h0 q.1)]
theorem t149 (g:Nat) (m:Int) (hm:0 < m) {D:Dec Ty} (hc:∀ bs,RdOk 114 [adr g 0,IC (m - 1)] (pin g 61) bs (D bs) tyA) (bs:List UInt8):RdOk 149 [.pt [adr g 0] 0,.pt [IC m] 0] (pin g 61) bs (D bs) tyA:=by
 refine callsTX_facts Tryz.func149 facts149 rfl fun hw ho => ?_
 have hm2:m ≤ 9223372036854775807:=by
  have:=hw.2.1
  simp only [Wf,WfS] at this
  exact (wf_i64 this.1).2
 refine Fit.in64 (by omega) (by omega) ?_
 refine rdN (hc bs) rfl rfl (fun h => ⟨rfl,h⟩) fun y r e _ => ?_
 exact retR [1000] rfl rfl rfl rfl ⟨y,r,e,rfl,rfl⟩
theorem t114 (g:Nat):∀ (d:Nat) (m:Int),m.toNat = d → ∀ bs:List UInt8,RdOk 114 [adr g 0,IC m] (pin g 61) bs (typD d bs) tyA
 | 0,m,hm,bs => by
  refine callsTX_facts Tryz.func114 facts114 rfl fun hw ho => ?_
  refine chk (t33 (decide (0 < m))) rfl (fun h => ⟨rfl,rfl⟩) fun h => ?_
  have h:=of_decide_eq_true h
  exfalso
  omega
 | d + 1,m,hm,bs => by
  have ih:=t114 g d (m - 1) (by omega)
  refine callsTX_facts Tryz.func114 facts114 rfl fun hw ho => ?_
  refine chk (t33 (decide (0 < m))) rfl (fun h => by have h:=of_decide_eq_false h; exfalso; omega) fun _ => ?_
  refine rdD (t32 g bs) rfl rfl rfl (fun h => ⟨rfl,by simp only [typD,andD,h]⟩) fun k r1 e1 _ => ?_
  refine rdD (t32 g r1) rfl rfl rfl (fun h => ⟨rfl,by simp only [typD,andD,e1,h]⟩) fun i r2 e2 _ => ?_
  refine rdN (t65d g m (t149 g m (by omega) ih) r2) rfl rfl (fun h => ⟨rfl,by simp only [typD,andD,e1,e2,h]⟩) fun a r3 e3 _ => ?_
  refine retR [1000] rfl rfl rfl rfl ⟨.mk k i a,r3,by simp only [typD,andD,retD,e1,e2,e3],rfl,rfl⟩
theorem t66 (g:Nat) (bs:List UInt8):RdOk 66 [adr g 0] (pin g 61) bs (fullD bs) tyA:=by
 refine callsTX_facts Tryz.func66 facts66 rfl fun hw ho => ?_
 refine rdN (t114 g 8 8 rfl bs) rfl rfl (fun h => ⟨rfl,h⟩) fun y r e _ => ?_
 exact retR [1000] rfl rfl rfl rfl ⟨y,r,e,rfl,rfl⟩
theorem t64 (g:Nat) (bs:List UInt8):RdOk 64 [.pt [adr g 0] 0] (pin g 61) bs (varD bs) (fun x => .agg (variantC x)):=by
 refine callsTX_facts Tryz.func64 facts64 rfl fun hw ho => ?_
 refine rdD (t62 g bs) rfl rfl rfl (fun h => ⟨rfl,andD_none h⟩) fun s r1 e1 _ => ?_
 refine rdD (t65 g (t66 g) r1) rfl rfl rfl (fun h => ⟨rfl,(andD_some e1).trans <| andD_none h⟩) fun f r2 e2 _ => ?_
 exact retR [1000] rfl rfl rfl rfl ⟨⟨s,f⟩,r2,(andD_some e1).trans <| (andD_some e2).trans <| rfl,rfl,rfl⟩
theorem t29 (g:Nat) (bs:List UInt8):RdOk 29 [adr g 0] (pin g 61) bs (dataD bs) (fun x => .agg (dataC x)):=by
 refine callsTX_facts Tryz.func29 facts29 rfl fun hw ho => ?_
 refine rdD (t62 g bs) rfl rfl rfl (fun h => ⟨rfl,andD_none h⟩) fun s r1 e1 _ => ?_
 refine rdD (t32 g r1) rfl rfl rfl (fun h => ⟨rfl,(andD_some e1).trans <| andD_none h⟩) fun m r2 e2 _ => ?_
 refine rdD (t32 g r2) rfl rfl rfl (fun h => ⟨rfl,(andD_some e1).trans <| (andD_some e2).trans <| andD_none h⟩) fun p r3 e3 _ => ?_
 refine rdD (t32 g r3) rfl rfl rfl (fun h => ⟨rfl,(andD_some e1).trans <| (andD_some e2).trans <| (andD_some e3).trans <| andD_none h⟩) fun d r4 e4 _ => ?_
 refine rdD (t63 g (t64 g) r4) rfl rfl rfl (fun h => ⟨rfl,(andD_some e1).trans <| (andD_some e2).trans <| (andD_some e3).trans <| (andD_some e4).trans <| andD_none h⟩) fun v r5 e5 _ => ?_
 exact retR [1000] rfl rfl rfl rfl ⟨⟨s,m,p,v,d⟩,r5,(andD_some e1).trans <| (andD_some e2).trans <| (andD_some e3).trans <| (andD_some e4).trans <| (andD_some e5).trans <| rfl,rfl,rfl⟩
theorem t120 (g:Nat) (bs:List UInt8):RdOk 120 [.pt [adr g 0] 0] (pin g 61) bs (lentD bs) (fun x => .agg (lentC x)):=by
 refine callsTX_facts Tryz.func120 facts120 rfl fun hw ho => ?_
 refine rdD (t32 g bs) rfl rfl rfl (fun h => ⟨rfl,andD_none h⟩) fun s r1 e1 _ => ?_
 refine rdD (t121 g r1) rfl rfl rfl (fun h => ⟨rfl,(andD_some e1).trans <| andD_none h⟩) fun x r2 e2 _ => ?_
 refine rdD (t121 g r2) rfl rfl rfl (fun h => ⟨rfl,(andD_some e1).trans <| (andD_some e2).trans <| andD_none h⟩) fun y r3 e3 _ => ?_
 exact retR [1000] rfl rfl rfl rfl ⟨⟨s,x,y⟩,r3,(andD_some e1).trans <| (andD_some e2).trans <| (andD_some e3).trans <| rfl,rfl,rfl⟩
theorem t118 (g:Nat) (bs:List UInt8):RdOk 118 [.pt [adr g 0] 0] (pin g 61) bs (slotD bs) (fun x => .agg (slotC x)):=by
 refine callsTX_facts Tryz.func118 facts118 rfl fun hw ho => ?_
 refine rdD (t32 g bs) rfl rfl rfl (fun h => ⟨rfl,andD_none h⟩) fun s r1 e1 _ => ?_
 refine rdD (t66 g r1) rfl rfl rfl (fun h => ⟨rfl,(andD_some e1).trans <| andD_none h⟩) fun t r2 e2 _ => ?_
 refine rdD (t32 g r2) rfl rfl rfl (fun h => ⟨rfl,(andD_some e1).trans <| (andD_some e2).trans <| andD_none h⟩) fun v r3 e3 _ => ?_
 refine rdD (t32 g r3) rfl rfl rfl (fun h => ⟨rfl,(andD_some e1).trans <| (andD_some e2).trans <| (andD_some e3).trans <| andD_none h⟩) fun f r4 e4 _ => ?_
 refine rdD (t119 g (t120 g) r4) rfl rfl rfl (fun h => ⟨rfl,(andD_some e1).trans <| (andD_some e2).trans <| (andD_some e3).trans <| (andD_some e4).trans <| andD_none h⟩) fun l r5 e5 _ => ?_
 exact retR [1000] rfl rfl rfl rfl ⟨⟨s,t,v,f,l⟩,r5,(andD_some e1).trans <| (andD_some e2).trans <| (andD_some e3).trans <| (andD_some e4).trans <| (andD_some e5).trans <| rfl,rfl,rfl⟩
theorem t71 (g:Nat) (bs:List UInt8):RdOk 71 [adr g 0] (pin g 61) bs (slotsD bs) (fun l => .sl (l.map slotC)):=by
 refine callsTX_facts Tryz.func71 facts71 rfl fun hw ho => ?_
 refine rdN (t117 g (t118 g) bs) rfl rfl (fun h => ⟨rfl,h⟩) fun y r e _ => ?_
 exact retR [1000] rfl rfl rfl rfl ⟨y,r,e,rfl,rfl⟩
theorem t116 (g:Nat) (bs:List UInt8):RdOk 116 [.pt [adr g 0] 0] (pin g 61) bs (insD bs) (fun x => .agg (insC x)):=by
 refine callsTX_facts Tryz.func116 facts116 rfl fun hw ho => ?_
 refine rdD (t32 g bs) rfl rfl rfl (fun h => ⟨rfl,andD_none h⟩) fun o r1 e1 _ => ?_
 refine rdD (t32 g r1) rfl rfl rfl (fun h => ⟨rfl,(andD_some e1).trans <| andD_none h⟩) fun d r2 e2 _ => ?_
 refine rdD (t32 g r2) rfl rfl rfl (fun h => ⟨rfl,(andD_some e1).trans <| (andD_some e2).trans <| andD_none h⟩) fun a r3 e3 _ => ?_
 refine rdD (t32 g r3) rfl rfl rfl (fun h => ⟨rfl,(andD_some e1).trans <| (andD_some e2).trans <| (andD_some e3).trans <| andD_none h⟩) fun b r4 e4 _ => ?_
 refine rdD (t32 g r4) rfl rfl rfl (fun h => ⟨rfl,(andD_some e1).trans <| (andD_some e2).trans <| (andD_some e3).trans <| (andD_some e4).trans <| andD_none h⟩) fun n r5 e5 _ => ?_
 refine rdD (t67 g r5) rfl rfl rfl (fun h => ⟨rfl,(andD_some e1).trans <| (andD_some e2).trans <| (andD_some e3).trans <| (andD_some e4).trans <| (andD_some e5).trans <| andD_none h⟩) fun x r6 e6 _ => ?_
 refine rdD (t65 g (t66 g) r6) rfl rfl rfl (fun h => ⟨rfl,(andD_some e1).trans <| (andD_some e2).trans <| (andD_some e3).trans <| (andD_some e4).trans <| (andD_some e5).trans <| (andD_some e6).trans <| andD_none h⟩) fun t r7 e7 _ => ?_
 exact retR [1000] rfl rfl rfl rfl ⟨⟨o,d,a,b,n,x,t⟩,r7,(andD_some e1).trans <| (andD_some e2).trans <| (andD_some e3).trans <| (andD_some e4).trans <| (andD_some e5).trans <| (andD_some e6).trans <| (andD_some e7).trans <| rfl,rfl,rfl⟩
theorem t69 (g:Nat) (bs:List UInt8):RdOk 69 [adr g 0] (pin g 61) bs (blockD bs) (fun x => .agg (blockC x)):=by
 refine callsTX_facts Tryz.func69 facts69 rfl fun hw ho => ?_
 refine rdN (t115 g (t116 g) bs) rfl rfl (fun h => ⟨rfl,andD_none h⟩) fun c r1 e1 _ => ?_
 refine rdD (t32 g r1) rfl rfl rfl (fun h => ⟨rfl,(andD_some e1).trans <| andD_none h⟩) fun k r2 e2 _ => ?_
 refine rdD (t32 g r2) rfl rfl rfl (fun h => ⟨rfl,(andD_some e1).trans <| (andD_some e2).trans <| andD_none h⟩) fun a r3 e3 _ => ?_
 refine rdD (t67 g r3) rfl rfl rfl (fun h => ⟨rfl,(andD_some e1).trans <| (andD_some e2).trans <| (andD_some e3).trans <| andD_none h⟩) fun t r4 e4 _ => ?_
 exact retR [1000] rfl rfl rfl rfl ⟨⟨c,⟨k,a,t⟩⟩,r4,(andD_some e1).trans <| (andD_some e2).trans <| (andD_some e3).trans <| (andD_some e4).trans <| rfl,rfl,rfl⟩
theorem t31 (g:Nat) (bs:List UInt8):RdOk 31 [adr g 0] (pin g 61) bs (routD bs) (fun x => .agg (routC x)):=by
 refine callsTX_facts Tryz.func31 facts31 rfl fun hw ho => ?_
 refine rdN (t62 g bs) rfl rfl (fun h => ⟨rfl,andD_none h⟩) fun s r1 e1 _ => ?_
 refine rdN (t65 g (t66 g) r1) rfl rfl (fun h => ⟨rfl,(andD_some e1).trans <| andD_none h⟩) fun p r2 e2 _ => ?_
 refine rdN (t66 g r2) rfl rfl (fun h => ⟨rfl,(andD_some e1).trans <| (andD_some e2).trans <| andD_none h⟩) fun q r3 e3 _ => ?_
 refine rdN (t67 g r3) rfl rfl (fun h => ⟨rfl,(andD_some e1).trans <| (andD_some e2).trans <| (andD_some e3).trans <| andD_none h⟩) fun t r4 e4 _ => ?_
 refine rdN (t32 g r4) rfl rfl (fun h => ⟨rfl,(andD_some e1).trans <| (andD_some e2).trans <| (andD_some e3).trans <| (andD_some e4).trans <| andD_none h⟩) fun n r5 e5 _ => ?_
 refine rdN (t68 g (t69 g) r5) rfl rfl (fun h => ⟨rfl,(andD_some e1).trans <| (andD_some e2).trans <| (andD_some e3).trans <| (andD_some e4).trans <| (andD_some e5).trans <| andD_none h⟩) fun b r6 e6 _ => ?_
 refine rdN (t70 g (t71 g) r6) rfl rfl (fun h => ⟨rfl,(andD_some e1).trans <| (andD_some e2).trans <| (andD_some e3).trans <| (andD_some e4).trans <| (andD_some e5).trans <| (andD_some e6).trans <| andD_none h⟩) fun y r7 e7 _ => ?_
 exact retR [1000] rfl rfl rfl rfl ⟨⟨s,p,q,t,n,b,y⟩,r7,(andD_some e1).trans <| (andD_some e2).trans <| (andD_some e3).trans <| (andD_some e4).trans <| (andD_some e5).trans <| (andD_some e6).trans <| (andD_some e7).trans <| rfl,rfl,rfl⟩
theorem RdOk.own {α:Type} {f:Nat} {args:List C} {bs:List UInt8} {o:Option (α × List UInt8)} {cell:α → C} (h:∀ g,RdOk f (args.map (C.toAdr g)) (pin g 61) bs o cell):RdOk f args 61 bs o cell:=by
 refine CallsTX.unpinned (by omega) fun g => (h g).imp ?_ fun _ h => h
 rintro Mo c ⟨y,r,h1,rfl,h2⟩
 exact ⟨y,r,h1,rfl,h2⟩
def IR (bs:List UInt8) (cs:List C):List TO:=[.box 61 [.sl (bcells bs)],.box 59 [.own 1000 0],.box 25 cs]
theorem t28o (bs:List UInt8):RdOk 28 [.own 1000 0,.fn 29 [.own 1000 0] []] 61 bs (listD dataD bs) (fun l => .sl (l.map dataC)):=RdOk.own fun g => t28 g (t29 g) bs
theorem t30o (bs:List UInt8):RdOk 30 [.own 1000 0,.fn 31 [.own 1000 0] []] 61 bs (listD routD bs) (fun l => .sl (l.map routC)):=RdOk.own fun g => t30 g (t31 g) bs
theorem t32o (bs:List UInt8):RdOk 32 [.own 1000 0] 61 bs (numD bs) IC:=RdOk.own fun g => t32 g bs
def wholeD (bs:List UInt8):Option Img:=match imgD bs with
 | some (i,[]) => some i
 | _ => none
theorem t27 (bs:List UInt8):CallsTX PZ 27 [.own 1001 0,.own 1002 0] (IR bs [.nils,.nils,IC 0]) (fun Mo c => ∃ i,wholeD bs = some i ∧ Mo = IR [] (imgC i) ∧ c = .tup []) (fun v => v = failV ∧ wholeD bs = none):=by
 refine callsTX_facts Tryz.func27 facts27 rfl fun hw ho => ?_
 refine rdD (t28o bs) rfl rfl rfl (fun h => ⟨rfl,?_⟩) fun d r1 e1 _ => ?_
 ·rw [wholeD,show imgD bs = none from andD_none h]
 refine rdD (t30o r1) rfl rfl rfl (fun h => ⟨rfl,?_⟩) fun r r2 e2 _ => ?_
 ·rw [wholeD,show imgD bs = none from (andD_some e1).trans <| andD_none h]
 refine rdD (t32o r2) rfl rfl rfl (fun h => ⟨rfl,?_⟩) fun m r3 e3 _ => ?_
 ·rw [wholeD,show imgD bs = none from (andD_some e1).trans <| (andD_some e2).trans <| andD_none h]
 have hi:imgD bs = some (⟨d,r,m⟩,r3):=(andD_some e1).trans <| (andD_some e2).trans <| (andD_some e3).trans rfl
 refine chk (t33 (decide (((bcells r3).length:Int) = 0))) rfl (fun h => ⟨rfl,?_⟩) fun h => ?_
 ·have h:=of_decide_eq_false h
  rw [wholeD,hi]
  cases r3 with
  | nil => exact absurd rfl h
  | cons x l => rfl
 ·have h:=of_decide_eq_true h
  have h3:r3 = []:=by
   cases r3 with
   | nil => rfl
   | cons x l => simp [bcells] at h; omega
  subst h3
  exact retR [1000,1001,1002] rfl rfl rfl rfl ⟨⟨d,r,m⟩,by rw [wholeD,hi],rfl,rfl⟩
def stepN (h x:Int):Int:=(h * 1000003 + x + 1).tmod 2147483647
def foldN (l:List Int):Int:=l.foldl stepN 7
theorem stepN_bd {h x:Int} (h0:0 ≤ h) (hx:0 ≤ x):0 ≤ stepN h x ∧ stepN h x < 2147483647:=by
 have:0 ≤ h * 1000003 + x + 1:=by omega
 rw [stepN,Int.tmod_eq_emod_of_nonneg this]
 exact ⟨Int.emod_nonneg _ (by omega),Int.emod_lt_of_pos _ (by omega)⟩
def bytesN (bs:List UInt8):List Int:=bs.map fun b => (b.toNat:Int)
theorem foldN_bd:∀ (l:List Int) (h:Int),(∀ x ∈ l,0 ≤ x) → 0 ≤ h ∧ h < 2147483647 → 0 ≤ l.foldl stepN h ∧ l.foldl stepN h < 2147483647
 | [],h,_,hb => hb
 | x :: l,h,hl,hb => foldN_bd l _ (fun y hy => hl y (by simp [hy])) (stepN_bd hb.1 (hl x (by simp)))
def dig (bs:List UInt8):Int:=foldN (bytesN bs)
theorem dig_bd (bs:List UInt8):0 ≤ dig bs ∧ dig bs < 2147483647:=foldN_bd _ _ (fun x hx => by
 simp only [bytesN,List.mem_map] at hx
 obtain ⟨b,_,rfl⟩:=hx
 omega) (by omega)
theorem t57 (b:UInt8):CallsT PZ 57 [bcell b] [] (Ret [] (.int .i64 b.toNat)):=by
 refine callsT_facts Tryz.func57 facts57 rfl fun hw _ => ?_
 refine Fit.in64 (by omega) (by have:=b.toNat_lt; omega) ?_
 exact retP rfl rfl
theorem t56 (bs:List UInt8):CallsT PZ 56 [.sl (bcells bs),.fn 57 [] []] [] (Ret [] (IC (dig bs))):=by
 refine callsT_facts Tryz.func56 facts56 rfl fun hw _ => ?_
 have hn:=wf_lenB hw.1
 refine loopN bs.length 10 [5] 7 (fun h => [.int .i64 h]) (fun _ => []) (fun k h => 0 ≤ h ∧ h < 2147483647 ∧ (bytesN (bs.drop k)).foldl stepN h = dig bs) ⟨by omega,by omega,rfl⟩
  (same_keys rfl) ⟨same_keys rfl,trivial⟩ trivial (fun _ => rfl) (fun _ => rfl) ?_
 rintro k h hk ⟨h0,h1,hf⟩ hw1 _ hk64
 refine brn_p (fun hlt => ?_) (fun hge => ?_)
 ·have hlt:k < bs.length:=by simpa [bcells] using hlt
  obtain ⟨b,hb,hd⟩:=drop_cons hlt
  rw [hd] at hf
  obtain ⟨g1,g2⟩:=stepN_bd (x:=b.toNat) h0 (by omega)
  have hbl:=b.toNat_lt
  refine idxB hb ?_
  refine Fit.in64 (by omega) (by omega) ?_
  refine callP (t57 b) rfl fun _ => ?_
  refine Fit.in64 (by omega) (by omega) ?_
  refine Fit.in64 (by omega) (by omega) ?_
  refine NonZ.mk (by omega) ?_
  refine Fit.in64 (by omega) (by omega) ?_
  exact ⟨(k + 1,stepN h b.toNat),⟨hlt,g1,g2,hf⟩,⟨nextI,same_keys rfl,trivial⟩,trivial,nextM hlt⟩
 ·have hge:¬ k < bs.length:=by simpa [bcells] using hge
  rw [drop_end hge] at hf
  exact retP rfl (congrArg (C.int .i64) hf)
theorem t17 (bs:List UInt8):CallsT PZ 17 [.sl (bcells bs)] [] (Ret [] (IC (dig bs))):=by
 refine callsT_facts Tryz.func17 facts17 rfl fun hw _ => ?_
 refine callP (t56 bs) rfl fun _ => ?_
 exact retP rfl rfl
theorem t58 (bs:List UInt8):CallsT PZ 58 [.sl (bcells bs)] [] (Ret [] (IC (dig bs))):=by
 refine callsT_facts Tryz.func58 facts58 rfl fun hw _ => ?_
 have hlen:bs.length ≤ 9223372036854775807:=wf_lenB hw.1
 refine loopN bs.length 4 [3] (7:Int) (fun h => [IC h]) (fun _ => []) (fun k h => (bytesN (bs.drop k)).foldl stepN h = dig bs ∧ 0 ≤ h ∧ h < 2147483647) ⟨rfl,by omega,by omega⟩ (same_keys rfl) ⟨same_keys rfl,trivial⟩ trivial (fun _ => rfl) (fun _ => rfl) ?_
 rintro k h hk ⟨hinv,h0,h1⟩ _ _ _
 refine brn_p (fun hlt => ?_) (fun hge => ?_)
 ·have hlt:k < bs.length:=by simpa [bcells] using hlt
  refine withDrop hlt fun x hx hxm hd => ?_
  rw [hd] at hinv
  have hxb:=x.toNat_lt
  refine Fit.in64 (by omega) (by omega) ?_
  refine idxB hx ?_
  refine Fit.in64 (by omega) (by omega) ?_
  refine Fit.in64 (by omega) (by omega) ?_
  refine Fit.in64 (by omega) (by omega) ?_
  refine NonZ.mk (by omega) ?_
  have hs:=stepN_bd (x:=x.toNat) h0 (by omega)
  refine Fit.in64 (by omega) (by omega) ?_
  exact ⟨(k + 1,stepN h x.toNat),⟨hlt,hinv,hs.1,hs.2⟩,⟨nextI,same_keys rfl,trivial⟩,trivial,nextM hlt⟩
 ·have hge:¬ k < bs.length:=by simpa [bcells] using hge
  rw [drop_end hge] at hinv
  exact retP rfl (congrArg (C.int .i64) hinv)
theorem streq_bytes (a b:List UInt8):streq ⟨a.toArray⟩ ⟨b.toArray⟩ = decide (a = b):=by simp [streq]
theorem t24 (a b:List UInt8):CallsT PZ 24 [.sl (bcells a),.sl (bcells b)] [] (Ret [] (.bool (decide (a = b)))):=by
 refine callsT_facts Tryz.func24 facts24 rfl fun hw _ => ?_
 refine BytesT.mk ⟨a,rfl,?_⟩
 refine BytesT.mk ⟨b,rfl,?_⟩
 exact retP rfl (congrArg C.bool (streq_bytes a b))
def hasP (bs ps:List UInt8):Bool:=decide (ps.length ≤ bs.length ∧ bs.take ps.length = ps)
theorem t22 (bs ps:List UInt8):CallsT PZ 22 [.sl (bcells bs),.sl (bcells ps)] [] (Ret [] (.bool (hasP bs ps))):=by
 refine callsT_facts Tryz.func22 facts22 rfl fun hw _ => ?_
 refine brn_p (fun h => ?_) (fun h => ?_)
 ·have hl:ps.length ≤ bs.length:=by simpa [bcells] using h
  have e:bcells (bs.take ps.length) = ((bcells bs).drop 0).take (((bcells ps).length:Int).toNat - 0):=by rw [bcells_slice]; simp [bcells]
  refine SlcT.mk (Int.le_refl 0) (by omega) (by simp only [bcells_len]; omega) bcells_sz ?_
  refine callP (t24 (bs.take ps.length) ps) (by rw [e]; rfl) fun _ => ?_
  refine retP rfl (congrArg C.bool ?_)
  simp [hasP,hl]
 ·have hl:¬ ps.length ≤ bs.length:=by simpa [bcells] using h
  refine retP rfl (congrArg C.bool ?_)
  simp [hasP,hl]
theorem t23:CallsT PZ 23 [] [] (Ret [] (.sl (bcells [76,72,1]))):=by
 refine callsT_facts Tryz.func23 facts23 rfl fun hw _ => ?_
 exact retP rfl rfl
end Go.Fr.Tryz
