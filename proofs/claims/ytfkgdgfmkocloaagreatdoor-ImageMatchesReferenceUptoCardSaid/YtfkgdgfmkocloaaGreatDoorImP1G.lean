/- Part of the proofs of the statements of this seat. -/
import Derived.Test.YtfkgdgfmkocloaaGreatDoorImW3G
set_option maxRecDepth 10000
set_option linter.unusedVariables false
set_option linter.unusedSimpArgs false
namespace Go.Fr.Tryz
open Go Go.RowKit Go.Proofs Go.Fr Go.Fr.T Go.Fr.Api
theorem t40 (g:Nat) (dE:Api.Data → Enc) (hc:∀ bs x,WrB 41 [adr g 0,.agg (dataC x)] (pin g 79) bs (dE x)) (bs:List UInt8) (l:List (Api.Data)):WrB 40 [adr g 0,.sl (l.map dataC),.fn 41 [adr g 0] []] (pin g 79) bs (listE dE l):=fun hb h0 => by
 refine callsTX_facts Tryz.func40 facts40 rfl fun hw ho => ?_
 have hln:(l.map dataC).length = l.length:=by simp
 have hnm:l.length ≤ 9223372036854775807:=by have:=wf_len hw.2.1; rwa [hln] at this
 have hle:(((l.map dataC).length:Int) ≤ 400) ↔ l.length ≤ 400:=by rw [hln]; omega
 refine chk (t33 (decide (((l.map dataC).length:Int) ≤ 400))) rfl (fun h => ⟨rfl,?_⟩) fun h => ?_
 ·have h:=of_decide_eq_false h
  rw [hle] at h
  rw [listE,andE_no]
  all_goals exact decide_eq_false h
 have h:=hle.1 (of_decide_eq_true h)
 have e1:(chkE (decide (l.length ≤ 400))).2 = true:=decide_eq_true h
 have hb2:bs.length + (andE (numsE [(l.length:Int)]) (eachE dE l)).1.length ≤ 70368744177664:=by
  have:=andE_bd hb e1
  simpa [chkE] using this
 refine wrN (t44 g bs [(l.length:Int)] (andE_bd1 hb2) h0) rfl (by rw [← hln]; rfl) (fun h2 => ⟨rfl,?_⟩) fun e2 => ?_
 ·rw [listE,andE_ok e1,andE_no h2]; exact h2
 have hb3:=andE_bd hb2 e2
 have hall:listE dE l = preE (numsE [(l.length:Int)]).1 (eachE dE l):=by rw [listE,andE_ok e1,andE_ok e2]; simp [preE,chkE]
 rw [hall]
 have h1:0 < (bs ++ (numsE [(l.length:Int)]).1).length:=pos_app h0
 have hfin:∀ p,eachE dE l = preE p okE → (preE (numsE [(l.length:Int)]).1 (eachE dE l)).2 = true ∧ bs ++ (preE (numsE [(l.length:Int)]).1 (eachE dE l)).1 = (bs ++ (numsE [(l.length:Int)]).1) ++ p:=by
  intro p h
  rw [h]
  exact ⟨rfl,by simp [preE,okE]⟩
 have hno:∀ {x:Api.Data} {p:List UInt8} {r:List (Api.Data)},eachE dE l = preE p (eachE dE (x :: r)) → (dE x).2 = false → (preE (numsE [(l.length:Int)]).1 (eachE dE l)).2 = false:=by
  intro x p r h h2
  rw [h]
  simp only [preE,eachE,andE,h2,Bool.false_and]
 generalize (numsE [(l.length:Int)]).1 = q at *
 generalize bs ++ q = bs1 at *
 refine loopN l.length 19 [] bs1 (fun _ => []) (fun s => WBL (pin g 79) s) (fun k s => ∃ p,s = bs1 ++ p ∧ eachE dE l = preE p (eachE dE (l.drop k))) ⟨[],by simp,by simp [pre_nil]⟩ (same_keys rfl) trivial
  ⟨.inl ⟨_,rfl,.inl ⟨rfl,rfl⟩⟩,.inl ⟨_,rfl,.inl ⟨rfl,rfl⟩⟩,trivial⟩ (fun _ => rfl) (fun _ => rfl) ?_
 rintro k s hk ⟨p,hs,hinv⟩ _ _ _
 refine brn_p (fun hlt => ?_) (fun hge => ?_)
 ·have hlt:k < l.length:=by rw [hln] at hlt; omega
  obtain ⟨x,hx,hd⟩:=drop_cons hlt
  rw [hd] at hinv
  have hbx:s.length + (andE (dE x) (eachE dE (l.drop (k + 1)))).1.length ≤ 70368744177664:=by
   rw [hinv] at hb3
   rw [hs]
   simp only [preE,eachE,List.length_append] at hb3 ⊢
   omega
  refine idxT hx rfl rfl ?_
  refine wrN (hc s x (andE_bd1 hbx) (by rw [hs]; exact pos_app h1)) rfl rfl (fun h2 => ⟨rfl,hno hinv h2⟩) fun e3 => ?_
  refine Fit.in64 (by omega) (by omega) ?_
  refine ⟨(k + 1,s ++ (dE x).1),⟨hlt,p ++ (dE x).1,by rw [hs,List.append_assoc],?_⟩,⟨nextI,trivial⟩,⟨.inl ⟨_,rfl,.inl ⟨rfl,rfl⟩⟩,.inl ⟨_,rfl,.inl ⟨rfl,rfl⟩⟩,trivial⟩,nextM hlt⟩
  rw [hinv,eachE,andE_ok e3,pre_pre]
 ·have hge:¬ k < l.length:=by rw [hln] at hge; omega
  rw [drop_end hge] at hinv
  obtain ⟨f1,f2⟩:=hfin p hinv
  exact retR [1000,1001] rfl rfl rfl rfl ⟨f1,by rw [f2,hs]; rfl,rfl⟩
theorem t42 (g:Nat) (dE:Rout → Enc) (hc:∀ bs x,WrB 43 [adr g 0,.agg (routC x)] (pin g 79) bs (dE x)) (bs:List UInt8) (l:List (Rout)):WrB 42 [adr g 0,.sl (l.map routC),.fn 43 [adr g 0] []] (pin g 79) bs (listE dE l):=fun hb h0 => by
 refine callsTX_facts Tryz.func42 facts42 rfl fun hw ho => ?_
 have hln:(l.map routC).length = l.length:=by simp
 have hnm:l.length ≤ 9223372036854775807:=by have:=wf_len hw.2.1; rwa [hln] at this
 have hle:(((l.map routC).length:Int) ≤ 400) ↔ l.length ≤ 400:=by rw [hln]; omega
 refine chk (t33 (decide (((l.map routC).length:Int) ≤ 400))) rfl (fun h => ⟨rfl,?_⟩) fun h => ?_
 ·have h:=of_decide_eq_false h
  rw [hle] at h
  rw [listE,andE_no]
  all_goals exact decide_eq_false h
 have h:=hle.1 (of_decide_eq_true h)
 have e1:(chkE (decide (l.length ≤ 400))).2 = true:=decide_eq_true h
 have hb2:bs.length + (andE (numsE [(l.length:Int)]) (eachE dE l)).1.length ≤ 70368744177664:=by
  have:=andE_bd hb e1
  simpa [chkE] using this
 refine wrN (t44 g bs [(l.length:Int)] (andE_bd1 hb2) h0) rfl (by rw [← hln]; rfl) (fun h2 => ⟨rfl,?_⟩) fun e2 => ?_
 ·rw [listE,andE_ok e1,andE_no h2]; exact h2
 have hb3:=andE_bd hb2 e2
 have hall:listE dE l = preE (numsE [(l.length:Int)]).1 (eachE dE l):=by rw [listE,andE_ok e1,andE_ok e2]; simp [preE,chkE]
 rw [hall]
 have h1:0 < (bs ++ (numsE [(l.length:Int)]).1).length:=pos_app h0
 have hfin:∀ p,eachE dE l = preE p okE → (preE (numsE [(l.length:Int)]).1 (eachE dE l)).2 = true ∧ bs ++ (preE (numsE [(l.length:Int)]).1 (eachE dE l)).1 = (bs ++ (numsE [(l.length:Int)]).1) ++ p:=by
  intro p h
  rw [h]
  exact ⟨rfl,by simp [preE,okE]⟩
 have hno:∀ {x:Rout} {p:List UInt8} {r:List (Rout)},eachE dE l = preE p (eachE dE (x :: r)) → (dE x).2 = false → (preE (numsE [(l.length:Int)]).1 (eachE dE l)).2 = false:=by
  intro x p r h h2
  rw [h]
  simp only [preE,eachE,andE,h2,Bool.false_and]
 generalize (numsE [(l.length:Int)]).1 = q at *
 generalize bs ++ q = bs1 at *
 refine loopN l.length 19 [] bs1 (fun _ => []) (fun s => WBL (pin g 79) s) (fun k s => ∃ p,s = bs1 ++ p ∧ eachE dE l = preE p (eachE dE (l.drop k))) ⟨[],by simp,by simp [pre_nil]⟩ (same_keys rfl) trivial
  ⟨.inl ⟨_,rfl,.inl ⟨rfl,rfl⟩⟩,.inl ⟨_,rfl,.inl ⟨rfl,rfl⟩⟩,trivial⟩ (fun _ => rfl) (fun _ => rfl) ?_
 rintro k s hk ⟨p,hs,hinv⟩ _ _ _
 refine brn_p (fun hlt => ?_) (fun hge => ?_)
 ·have hlt:k < l.length:=by rw [hln] at hlt; omega
  obtain ⟨x,hx,hd⟩:=drop_cons hlt
  rw [hd] at hinv
  have hbx:s.length + (andE (dE x) (eachE dE (l.drop (k + 1)))).1.length ≤ 70368744177664:=by
   rw [hinv] at hb3
   rw [hs]
   simp only [preE,eachE,List.length_append] at hb3 ⊢
   omega
  refine idxT hx rfl rfl ?_
  refine wrN (hc s x (andE_bd1 hbx) (by rw [hs]; exact pos_app h1)) rfl rfl (fun h2 => ⟨rfl,hno hinv h2⟩) fun e3 => ?_
  refine Fit.in64 (by omega) (by omega) ?_
  refine ⟨(k + 1,s ++ (dE x).1),⟨hlt,p ++ (dE x).1,by rw [hs,List.append_assoc],?_⟩,⟨nextI,trivial⟩,⟨.inl ⟨_,rfl,.inl ⟨rfl,rfl⟩⟩,.inl ⟨_,rfl,.inl ⟨rfl,rfl⟩⟩,trivial⟩,nextM hlt⟩
  rw [hinv,eachE,andE_ok e3,pre_pre]
 ·have hge:¬ k < l.length:=by rw [hln] at hge; omega
  rw [drop_end hge] at hinv
  obtain ⟨f1,f2⟩:=hfin p hinv
  exact retR [1000,1001] rfl rfl rfl rfl ⟨f1,by rw [f2,hs]; rfl,rfl⟩
theorem t82 (g:Nat) (dE:Variant → Enc) (hc:∀ bs x,WrB 83 [.agg (variantC x),.pt [adr g 0] 0] (pin g 79) bs (dE x)) (bs:List UInt8) (l:List (Variant)):WrB 82 [adr g 0,.sl (l.map variantC),.fn 83 [] [.pt [adr g 0] 0]] (pin g 79) bs (listE dE l):=fun hb h0 => by
 refine callsTX_facts Tryz.func82 facts82 rfl fun hw ho => ?_
 have hln:(l.map variantC).length = l.length:=by simp
 have hnm:l.length ≤ 9223372036854775807:=by have:=wf_len hw.2.1; rwa [hln] at this
 have hle:(((l.map variantC).length:Int) ≤ 400) ↔ l.length ≤ 400:=by rw [hln]; omega
 refine chk (t33 (decide (((l.map variantC).length:Int) ≤ 400))) rfl (fun h => ⟨rfl,?_⟩) fun h => ?_
 ·have h:=of_decide_eq_false h
  rw [hle] at h
  rw [listE,andE_no]
  all_goals exact decide_eq_false h
 have h:=hle.1 (of_decide_eq_true h)
 have e1:(chkE (decide (l.length ≤ 400))).2 = true:=decide_eq_true h
 have hb2:bs.length + (andE (numsE [(l.length:Int)]) (eachE dE l)).1.length ≤ 70368744177664:=by
  have:=andE_bd hb e1
  simpa [chkE] using this
 refine wrN (t44 g bs [(l.length:Int)] (andE_bd1 hb2) h0) rfl (by rw [← hln]; rfl) (fun h2 => ⟨rfl,?_⟩) fun e2 => ?_
 ·rw [listE,andE_ok e1,andE_no h2]; exact h2
 have hb3:=andE_bd hb2 e2
 have hall:listE dE l = preE (numsE [(l.length:Int)]).1 (eachE dE l):=by rw [listE,andE_ok e1,andE_ok e2]; simp [preE,chkE]
 rw [hall]
 have h1:0 < (bs ++ (numsE [(l.length:Int)]).1).length:=pos_app h0
 have hfin:∀ p,eachE dE l = preE p okE → (preE (numsE [(l.length:Int)]).1 (eachE dE l)).2 = true ∧ bs ++ (preE (numsE [(l.length:Int)]).1 (eachE dE l)).1 = (bs ++ (numsE [(l.length:Int)]).1) ++ p:=by
  intro p h
  rw [h]
  exact ⟨rfl,by simp [preE,okE]⟩
 have hno:∀ {x:Variant} {p:List UInt8} {r:List (Variant)},eachE dE l = preE p (eachE dE (x :: r)) → (dE x).2 = false → (preE (numsE [(l.length:Int)]).1 (eachE dE l)).2 = false:=by
  intro x p r h h2
  rw [h]
  simp only [preE,eachE,andE,h2,Bool.false_and]
 generalize (numsE [(l.length:Int)]).1 = q at *
 generalize bs ++ q = bs1 at *
 refine loopN l.length 19 [] bs1 (fun _ => []) (fun s => WBL (pin g 79) s) (fun k s => ∃ p,s = bs1 ++ p ∧ eachE dE l = preE p (eachE dE (l.drop k))) ⟨[],by simp,by simp [pre_nil]⟩ (same_keys rfl) trivial
  ⟨.inl ⟨_,rfl,.inl ⟨rfl,rfl⟩⟩,.inl ⟨_,rfl,.inl ⟨rfl,rfl⟩⟩,trivial⟩ (fun _ => rfl) (fun _ => rfl) ?_
 rintro k s hk ⟨p,hs,hinv⟩ _ _ _
 refine brn_p (fun hlt => ?_) (fun hge => ?_)
 ·have hlt:k < l.length:=by rw [hln] at hlt; omega
  obtain ⟨x,hx,hd⟩:=drop_cons hlt
  rw [hd] at hinv
  have hbx:s.length + (andE (dE x) (eachE dE (l.drop (k + 1)))).1.length ≤ 70368744177664:=by
   rw [hinv] at hb3
   rw [hs]
   simp only [preE,eachE,List.length_append] at hb3 ⊢
   omega
  refine idxT hx rfl rfl ?_
  refine wrN (hc s x (andE_bd1 hbx) (by rw [hs]; exact pos_app h1)) rfl rfl (fun h2 => ⟨rfl,hno hinv h2⟩) fun e3 => ?_
  refine Fit.in64 (by omega) (by omega) ?_
  refine ⟨(k + 1,s ++ (dE x).1),⟨hlt,p ++ (dE x).1,by rw [hs,List.append_assoc],?_⟩,⟨nextI,trivial⟩,⟨.inl ⟨_,rfl,.inl ⟨rfl,rfl⟩⟩,.inl ⟨_,rfl,.inl ⟨rfl,rfl⟩⟩,trivial⟩,nextM hlt⟩
  rw [hinv,eachE,andE_ok e3,pre_pre]
 ·have hge:¬ k < l.length:=by rw [hln] at hge; omega
  rw [drop_end hge] at hinv
  obtain ⟨f1,f2⟩:=hfin p hinv
  exact retR [1000,1001] rfl rfl rfl rfl ⟨f1,by rw [f2,hs]; rfl,rfl⟩
theorem t126 (g:Nat) (dE:Ty → Enc) (hc:∀ bs x,WrB 127 [tyA x,.pt [adr g 0] 0] (pin g 79) bs (dE x)) (bs:List UInt8) (l:List (Ty)):WrB 126 [adr g 0,.sl (l.map tyC),.fn 127 [] [.pt [adr g 0] 0]] (pin g 79) bs (listE dE l):=fun hb h0 => by
 refine callsTX_facts Tryz.func126 facts126 rfl fun hw ho => ?_
 have hln:(l.map tyC).length = l.length:=by simp
 have hnm:l.length ≤ 9223372036854775807:=by have:=wf_len hw.2.1; rwa [hln] at this
 have hle:(((l.map tyC).length:Int) ≤ 400) ↔ l.length ≤ 400:=by rw [hln]; omega
 refine chk (t33 (decide (((l.map tyC).length:Int) ≤ 400))) rfl (fun h => ⟨rfl,?_⟩) fun h => ?_
 ·have h:=of_decide_eq_false h
  rw [hle] at h
  rw [listE,andE_no]
  all_goals exact decide_eq_false h
 have h:=hle.1 (of_decide_eq_true h)
 have e1:(chkE (decide (l.length ≤ 400))).2 = true:=decide_eq_true h
 have hb2:bs.length + (andE (numsE [(l.length:Int)]) (eachE dE l)).1.length ≤ 70368744177664:=by
  have:=andE_bd hb e1
  simpa [chkE] using this
 refine wrN (t44 g bs [(l.length:Int)] (andE_bd1 hb2) h0) rfl (by rw [← hln]; rfl) (fun h2 => ⟨rfl,?_⟩) fun e2 => ?_
 ·rw [listE,andE_ok e1,andE_no h2]; exact h2
 have hb3:=andE_bd hb2 e2
 have hall:listE dE l = preE (numsE [(l.length:Int)]).1 (eachE dE l):=by rw [listE,andE_ok e1,andE_ok e2]; simp [preE,chkE]
 rw [hall]
 have h1:0 < (bs ++ (numsE [(l.length:Int)]).1).length:=pos_app h0
 have hfin:∀ p,eachE dE l = preE p okE → (preE (numsE [(l.length:Int)]).1 (eachE dE l)).2 = true ∧ bs ++ (preE (numsE [(l.length:Int)]).1 (eachE dE l)).1 = (bs ++ (numsE [(l.length:Int)]).1) ++ p:=by
  intro p h
  rw [h]
  exact ⟨rfl,by simp [preE,okE]⟩
 have hno:∀ {x:Ty} {p:List UInt8} {r:List (Ty)},eachE dE l = preE p (eachE dE (x :: r)) → (dE x).2 = false → (preE (numsE [(l.length:Int)]).1 (eachE dE l)).2 = false:=by
  intro x p r h h2
  rw [h]
  simp only [preE,eachE,andE,h2,Bool.false_and]
 generalize (numsE [(l.length:Int)]).1 = q at *
 generalize bs ++ q = bs1 at *
 refine loopN l.length 19 [] bs1 (fun _ => []) (fun s => WBL (pin g 79) s) (fun k s => ∃ p,s = bs1 ++ p ∧ eachE dE l = preE p (eachE dE (l.drop k))) ⟨[],by simp,by simp [pre_nil]⟩ (same_keys rfl) trivial
  ⟨.inl ⟨_,rfl,.inl ⟨rfl,rfl⟩⟩,.inl ⟨_,rfl,.inl ⟨rfl,rfl⟩⟩,trivial⟩ (fun _ => rfl) (fun _ => rfl) ?_
 rintro k s hk ⟨p,hs,hinv⟩ _ _ _
 refine brn_p (fun hlt => ?_) (fun hge => ?_)
 ·have hlt:k < l.length:=by rw [hln] at hlt; omega
  obtain ⟨x,hx,hd⟩:=drop_cons hlt
  rw [hd] at hinv
  have hbx:s.length + (andE (dE x) (eachE dE (l.drop (k + 1)))).1.length ≤ 70368744177664:=by
   rw [hinv] at hb3
   rw [hs]
   simp only [preE,eachE,List.length_append] at hb3 ⊢
   omega
  refine idxTy hx ?_
  refine wrN (hc s x (andE_bd1 hbx) (by rw [hs]; exact pos_app h1)) rfl rfl (fun h2 => ⟨rfl,hno hinv h2⟩) fun e3 => ?_
  refine Fit.in64 (by omega) (by omega) ?_
  refine ⟨(k + 1,s ++ (dE x).1),⟨hlt,p ++ (dE x).1,by rw [hs,List.append_assoc],?_⟩,⟨nextI,trivial⟩,⟨.inl ⟨_,rfl,.inl ⟨rfl,rfl⟩⟩,.inl ⟨_,rfl,.inl ⟨rfl,rfl⟩⟩,trivial⟩,nextM hlt⟩
  rw [hinv,eachE,andE_ok e3,pre_pre]
 ·have hge:¬ k < l.length:=by rw [hln] at hge; omega
  rw [drop_end hge] at hinv
  obtain ⟨f1,f2⟩:=hfin p hinv
  exact retR [1000,1001] rfl rfl rfl rfl ⟨f1,by rw [f2,hs]; rfl,rfl⟩
theorem t126d (g:Nat) (m:Int) (dE:Ty → Enc) (hc:∀ bs x,WrB 128 [tyA x,.pt [adr g 0] 0,.pt [IC m] 0] (pin g 79) bs (dE x)) (bs:List UInt8) (l:List (Ty)):WrB 126 [adr g 0,.sl (l.map tyC),.fn 128 [] [.pt [adr g 0] 0,.pt [IC m] 0]] (pin g 79) bs (listE dE l):=fun hb h0 => by
 refine callsTX_facts Tryz.func126 facts126 rfl fun hw ho => ?_
 have hln:(l.map tyC).length = l.length:=by simp
 have hnm:l.length ≤ 9223372036854775807:=by have:=wf_len hw.2.1; rwa [hln] at this
 have hle:(((l.map tyC).length:Int) ≤ 400) ↔ l.length ≤ 400:=by rw [hln]; omega
 refine chk (t33 (decide (((l.map tyC).length:Int) ≤ 400))) rfl (fun h => ⟨rfl,?_⟩) fun h => ?_
 ·have h:=of_decide_eq_false h
  rw [hle] at h
  rw [listE,andE_no]
  all_goals exact decide_eq_false h
 have h:=hle.1 (of_decide_eq_true h)
 have e1:(chkE (decide (l.length ≤ 400))).2 = true:=decide_eq_true h
 have hb2:bs.length + (andE (numsE [(l.length:Int)]) (eachE dE l)).1.length ≤ 70368744177664:=by
  have:=andE_bd hb e1
  simpa [chkE] using this
 refine wrN (t44 g bs [(l.length:Int)] (andE_bd1 hb2) h0) rfl (by rw [← hln]; rfl) (fun h2 => ⟨rfl,?_⟩) fun e2 => ?_
 ·rw [listE,andE_ok e1,andE_no h2]; exact h2
 have hb3:=andE_bd hb2 e2
 have hall:listE dE l = preE (numsE [(l.length:Int)]).1 (eachE dE l):=by rw [listE,andE_ok e1,andE_ok e2]; simp [preE,chkE]
 rw [hall]
 have h1:0 < (bs ++ (numsE [(l.length:Int)]).1).length:=pos_app h0
 have hfin:∀ p,eachE dE l = preE p okE → (preE (numsE [(l.length:Int)]).1 (eachE dE l)).2 = true ∧ bs ++ (preE (numsE [(l.length:Int)]).1 (eachE dE l)).1 = (bs ++ (numsE [(l.length:Int)]).1) ++ p:=by
  intro p h
  rw [h]
  exact ⟨rfl,by simp [preE,okE]⟩
 have hno:∀ {x:Ty} {p:List UInt8} {r:List (Ty)},eachE dE l = preE p (eachE dE (x :: r)) → (dE x).2 = false → (preE (numsE [(l.length:Int)]).1 (eachE dE l)).2 = false:=by
  intro x p r h h2
  rw [h]
  simp only [preE,eachE,andE,h2,Bool.false_and]
 generalize (numsE [(l.length:Int)]).1 = q at *
 generalize bs ++ q = bs1 at *
 refine loopN l.length 19 [] bs1 (fun _ => []) (fun s => WBL (pin g 79) s) (fun k s => ∃ p,s = bs1 ++ p ∧ eachE dE l = preE p (eachE dE (l.drop k))) ⟨[],by simp,by simp [pre_nil]⟩ (same_keys rfl) trivial
  ⟨.inl ⟨_,rfl,.inl ⟨rfl,rfl⟩⟩,.inl ⟨_,rfl,.inl ⟨rfl,rfl⟩⟩,trivial⟩ (fun _ => rfl) (fun _ => rfl) ?_
 rintro k s hk ⟨p,hs,hinv⟩ _ _ _
 refine brn_p (fun hlt => ?_) (fun hge => ?_)
 ·have hlt:k < l.length:=by rw [hln] at hlt; omega
  obtain ⟨x,hx,hd⟩:=drop_cons hlt
  rw [hd] at hinv
  have hbx:s.length + (andE (dE x) (eachE dE (l.drop (k + 1)))).1.length ≤ 70368744177664:=by
   rw [hinv] at hb3
   rw [hs]
   simp only [preE,eachE,List.length_append] at hb3 ⊢
   omega
  refine idxTy hx ?_
  refine wrN (hc s x (andE_bd1 hbx) (by rw [hs]; exact pos_app h1)) rfl rfl (fun h2 => ⟨rfl,hno hinv h2⟩) fun e3 => ?_
  refine Fit.in64 (by omega) (by omega) ?_
  refine ⟨(k + 1,s ++ (dE x).1),⟨hlt,p ++ (dE x).1,by rw [hs,List.append_assoc],?_⟩,⟨nextI,trivial⟩,⟨.inl ⟨_,rfl,.inl ⟨rfl,rfl⟩⟩,.inl ⟨_,rfl,.inl ⟨rfl,rfl⟩⟩,trivial⟩,nextM hlt⟩
  rw [hinv,eachE,andE_ok e3,pre_pre]
 ·have hge:¬ k < l.length:=by rw [hln] at hge; omega
  rw [drop_end hge] at hinv
  obtain ⟨f1,f2⟩:=hfin p hinv
  exact retR [1000,1001] rfl rfl rfl rfl ⟨f1,by rw [f2,hs]; rfl,rfl⟩
theorem t129 (g:Nat) (dE:Int → Enc) (hc:∀ bs x,WrB 130 [IC x,.pt [adr g 0] 0] (pin g 79) bs (dE x)) (bs:List UInt8) (l:List (Int)):WrB 129 [adr g 0,.sl (ics l),.fn 130 [] [.pt [adr g 0] 0]] (pin g 79) bs (listE dE l):=fun hb h0 => by
 refine callsTX_facts Tryz.func129 facts129 rfl fun hw ho => ?_
 have hln:(ics l).length = l.length:=by simp [ics]
 have hnm:l.length ≤ 9223372036854775807:=by have:=wf_len hw.2.1; rwa [hln] at this
 have hle:(((ics l).length:Int) ≤ 400) ↔ l.length ≤ 400:=by rw [hln]; omega
 refine chk (t33 (decide (((ics l).length:Int) ≤ 400))) rfl (fun h => ⟨rfl,?_⟩) fun h => ?_
 ·have h:=of_decide_eq_false h
  rw [hle] at h
  rw [listE,andE_no]
  all_goals exact decide_eq_false h
 have h:=hle.1 (of_decide_eq_true h)
 have e1:(chkE (decide (l.length ≤ 400))).2 = true:=decide_eq_true h
 have hb2:bs.length + (andE (numsE [(l.length:Int)]) (eachE dE l)).1.length ≤ 70368744177664:=by
  have:=andE_bd hb e1
  simpa [chkE] using this
 refine wrN (t44 g bs [(l.length:Int)] (andE_bd1 hb2) h0) rfl (by rw [← hln]; rfl) (fun h2 => ⟨rfl,?_⟩) fun e2 => ?_
 ·rw [listE,andE_ok e1,andE_no h2]; exact h2
 have hb3:=andE_bd hb2 e2
 have hall:listE dE l = preE (numsE [(l.length:Int)]).1 (eachE dE l):=by rw [listE,andE_ok e1,andE_ok e2]; simp [preE,chkE]
 rw [hall]
 have h1:0 < (bs ++ (numsE [(l.length:Int)]).1).length:=pos_app h0
 have hfin:∀ p,eachE dE l = preE p okE → (preE (numsE [(l.length:Int)]).1 (eachE dE l)).2 = true ∧ bs ++ (preE (numsE [(l.length:Int)]).1 (eachE dE l)).1 = (bs ++ (numsE [(l.length:Int)]).1) ++ p:=by
  intro p h
  rw [h]
  exact ⟨rfl,by simp [preE,okE]⟩
 have hno:∀ {x:Int} {p:List UInt8} {r:List (Int)},eachE dE l = preE p (eachE dE (x :: r)) → (dE x).2 = false → (preE (numsE [(l.length:Int)]).1 (eachE dE l)).2 = false:=by
  intro x p r h h2
  rw [h]
  simp only [preE,eachE,andE,h2,Bool.false_and]
 generalize (numsE [(l.length:Int)]).1 = q at *
 generalize bs ++ q = bs1 at *
 refine loopN l.length 19 [] bs1 (fun _ => []) (fun s => WBL (pin g 79) s) (fun k s => ∃ p,s = bs1 ++ p ∧ eachE dE l = preE p (eachE dE (l.drop k))) ⟨[],by simp,by simp [pre_nil]⟩ (same_keys rfl) trivial
  ⟨.inl ⟨_,rfl,.inl ⟨rfl,rfl⟩⟩,.inl ⟨_,rfl,.inl ⟨rfl,rfl⟩⟩,trivial⟩ (fun _ => rfl) (fun _ => rfl) ?_
 rintro k s hk ⟨p,hs,hinv⟩ _ _ _
 refine brn_p (fun hlt => ?_) (fun hge => ?_)
 ·have hlt:k < l.length:=by rw [hln] at hlt; omega
  obtain ⟨x,hx,hd⟩:=drop_cons hlt
  rw [hd] at hinv
  have hbx:s.length + (andE (dE x) (eachE dE (l.drop (k + 1)))).1.length ≤ 70368744177664:=by
   rw [hinv] at hb3
   rw [hs]
   simp only [preE,eachE,List.length_append] at hb3 ⊢
   omega
  refine idxI hx ?_
  refine wrN (hc s x (andE_bd1 hbx) (by rw [hs]; exact pos_app h1)) rfl rfl (fun h2 => ⟨rfl,hno hinv h2⟩) fun e3 => ?_
  refine Fit.in64 (by omega) (by omega) ?_
  refine ⟨(k + 1,s ++ (dE x).1),⟨hlt,p ++ (dE x).1,by rw [hs,List.append_assoc],?_⟩,⟨nextI,trivial⟩,⟨.inl ⟨_,rfl,.inl ⟨rfl,rfl⟩⟩,.inl ⟨_,rfl,.inl ⟨rfl,rfl⟩⟩,trivial⟩,nextM hlt⟩
  rw [hinv,eachE,andE_ok e3,pre_pre]
 ·have hge:¬ k < l.length:=by rw [hln] at hge; omega
  rw [drop_end hge] at hinv
  obtain ⟨f1,f2⟩:=hfin p hinv
  exact retR [1000,1001] rfl rfl rfl rfl ⟨f1,by rw [f2,hs]; rfl,rfl⟩
theorem t131 (g:Nat) (dE:Ins → Enc) (hc:∀ bs x,WrB 132 [.agg (insC x),.pt [adr g 0] 0] (pin g 79) bs (dE x)) (bs:List UInt8) (l:List (Ins)):WrB 131 [adr g 0,.sl (l.map insC),.fn 132 [] [.pt [adr g 0] 0]] (pin g 79) bs (listE dE l):=fun hb h0 => by
 refine callsTX_facts Tryz.func131 facts131 rfl fun hw ho => ?_
 have hln:(l.map insC).length = l.length:=by simp
 have hnm:l.length ≤ 9223372036854775807:=by have:=wf_len hw.2.1; rwa [hln] at this
 have hle:(((l.map insC).length:Int) ≤ 400) ↔ l.length ≤ 400:=by rw [hln]; omega
 refine chk (t33 (decide (((l.map insC).length:Int) ≤ 400))) rfl (fun h => ⟨rfl,?_⟩) fun h => ?_
 ·have h:=of_decide_eq_false h
  rw [hle] at h
  rw [listE,andE_no]
  all_goals exact decide_eq_false h
 have h:=hle.1 (of_decide_eq_true h)
 have e1:(chkE (decide (l.length ≤ 400))).2 = true:=decide_eq_true h
 have hb2:bs.length + (andE (numsE [(l.length:Int)]) (eachE dE l)).1.length ≤ 70368744177664:=by
  have:=andE_bd hb e1
  simpa [chkE] using this
 refine wrN (t44 g bs [(l.length:Int)] (andE_bd1 hb2) h0) rfl (by rw [← hln]; rfl) (fun h2 => ⟨rfl,?_⟩) fun e2 => ?_
 ·rw [listE,andE_ok e1,andE_no h2]; exact h2
 have hb3:=andE_bd hb2 e2
 have hall:listE dE l = preE (numsE [(l.length:Int)]).1 (eachE dE l):=by rw [listE,andE_ok e1,andE_ok e2]; simp [preE,chkE]
 rw [hall]
 have h1:0 < (bs ++ (numsE [(l.length:Int)]).1).length:=pos_app h0
 have hfin:∀ p,eachE dE l = preE p okE → (preE (numsE [(l.length:Int)]).1 (eachE dE l)).2 = true ∧ bs ++ (preE (numsE [(l.length:Int)]).1 (eachE dE l)).1 = (bs ++ (numsE [(l.length:Int)]).1) ++ p:=by
  intro p h
  rw [h]
  exact ⟨rfl,by simp [preE,okE]⟩
 have hno:∀ {x:Ins} {p:List UInt8} {r:List (Ins)},eachE dE l = preE p (eachE dE (x :: r)) → (dE x).2 = false → (preE (numsE [(l.length:Int)]).1 (eachE dE l)).2 = false:=by
  intro x p r h h2
  rw [h]
  simp only [preE,eachE,andE,h2,Bool.false_and]
 generalize (numsE [(l.length:Int)]).1 = q at *
 generalize bs ++ q = bs1 at *
 refine loopN l.length 19 [] bs1 (fun _ => []) (fun s => WBL (pin g 79) s) (fun k s => ∃ p,s = bs1 ++ p ∧ eachE dE l = preE p (eachE dE (l.drop k))) ⟨[],by simp,by simp [pre_nil]⟩ (same_keys rfl) trivial
  ⟨.inl ⟨_,rfl,.inl ⟨rfl,rfl⟩⟩,.inl ⟨_,rfl,.inl ⟨rfl,rfl⟩⟩,trivial⟩ (fun _ => rfl) (fun _ => rfl) ?_
 rintro k s hk ⟨p,hs,hinv⟩ _ _ _
 refine brn_p (fun hlt => ?_) (fun hge => ?_)
 ·have hlt:k < l.length:=by rw [hln] at hlt; omega
  obtain ⟨x,hx,hd⟩:=drop_cons hlt
  rw [hd] at hinv
  have hbx:s.length + (andE (dE x) (eachE dE (l.drop (k + 1)))).1.length ≤ 70368744177664:=by
   rw [hinv] at hb3
   rw [hs]
   simp only [preE,eachE,List.length_append] at hb3 ⊢
   omega
  refine idxT hx rfl rfl ?_
  refine wrN (hc s x (andE_bd1 hbx) (by rw [hs]; exact pos_app h1)) rfl rfl (fun h2 => ⟨rfl,hno hinv h2⟩) fun e3 => ?_
  refine Fit.in64 (by omega) (by omega) ?_
  refine ⟨(k + 1,s ++ (dE x).1),⟨hlt,p ++ (dE x).1,by rw [hs,List.append_assoc],?_⟩,⟨nextI,trivial⟩,⟨.inl ⟨_,rfl,.inl ⟨rfl,rfl⟩⟩,.inl ⟨_,rfl,.inl ⟨rfl,rfl⟩⟩,trivial⟩,nextM hlt⟩
  rw [hinv,eachE,andE_ok e3,pre_pre]
 ·have hge:¬ k < l.length:=by rw [hln] at hge; omega
  rw [drop_end hge] at hinv
  obtain ⟨f1,f2⟩:=hfin p hinv
  exact retR [1000,1001] rfl rfl rfl rfl ⟨f1,by rw [f2,hs]; rfl,rfl⟩
theorem t87 (g:Nat) (dE:Block → Enc) (hc:∀ bs x,WrB 88 [adr g 0,.agg (blockC x)] (pin g 79) bs (dE x)) (bs:List UInt8) (l:List (Block)):WrB 87 [adr g 0,.sl (l.map blockC),.fn 88 [adr g 0] []] (pin g 79) bs (listE dE l):=fun hb h0 => by
 refine callsTX_facts Tryz.func87 facts87 rfl fun hw ho => ?_
 have hln:(l.map blockC).length = l.length:=by simp
 have hnm:l.length ≤ 9223372036854775807:=by have:=wf_len hw.2.1; rwa [hln] at this
 have hle:(((l.map blockC).length:Int) ≤ 400) ↔ l.length ≤ 400:=by rw [hln]; omega
 refine chk (t33 (decide (((l.map blockC).length:Int) ≤ 400))) rfl (fun h => ⟨rfl,?_⟩) fun h => ?_
 ·have h:=of_decide_eq_false h
  rw [hle] at h
  rw [listE,andE_no]
  all_goals exact decide_eq_false h
 have h:=hle.1 (of_decide_eq_true h)
 have e1:(chkE (decide (l.length ≤ 400))).2 = true:=decide_eq_true h
 have hb2:bs.length + (andE (numsE [(l.length:Int)]) (eachE dE l)).1.length ≤ 70368744177664:=by
  have:=andE_bd hb e1
  simpa [chkE] using this
 refine wrN (t44 g bs [(l.length:Int)] (andE_bd1 hb2) h0) rfl (by rw [← hln]; rfl) (fun h2 => ⟨rfl,?_⟩) fun e2 => ?_
 ·rw [listE,andE_ok e1,andE_no h2]; exact h2
 have hb3:=andE_bd hb2 e2
 have hall:listE dE l = preE (numsE [(l.length:Int)]).1 (eachE dE l):=by rw [listE,andE_ok e1,andE_ok e2]; simp [preE,chkE]
 rw [hall]
 have h1:0 < (bs ++ (numsE [(l.length:Int)]).1).length:=pos_app h0
 have hfin:∀ p,eachE dE l = preE p okE → (preE (numsE [(l.length:Int)]).1 (eachE dE l)).2 = true ∧ bs ++ (preE (numsE [(l.length:Int)]).1 (eachE dE l)).1 = (bs ++ (numsE [(l.length:Int)]).1) ++ p:=by
  intro p h
  rw [h]
  exact ⟨rfl,by simp [preE,okE]⟩
 have hno:∀ {x:Block} {p:List UInt8} {r:List (Block)},eachE dE l = preE p (eachE dE (x :: r)) → (dE x).2 = false → (preE (numsE [(l.length:Int)]).1 (eachE dE l)).2 = false:=by
  intro x p r h h2
  rw [h]
  simp only [preE,eachE,andE,h2,Bool.false_and]
 generalize (numsE [(l.length:Int)]).1 = q at *
 generalize bs ++ q = bs1 at *
 refine loopN l.length 19 [] bs1 (fun _ => []) (fun s => WBL (pin g 79) s) (fun k s => ∃ p,s = bs1 ++ p ∧ eachE dE l = preE p (eachE dE (l.drop k))) ⟨[],by simp,by simp [pre_nil]⟩ (same_keys rfl) trivial
  ⟨.inl ⟨_,rfl,.inl ⟨rfl,rfl⟩⟩,.inl ⟨_,rfl,.inl ⟨rfl,rfl⟩⟩,trivial⟩ (fun _ => rfl) (fun _ => rfl) ?_
 rintro k s hk ⟨p,hs,hinv⟩ _ _ _
 refine brn_p (fun hlt => ?_) (fun hge => ?_)
 ·have hlt:k < l.length:=by rw [hln] at hlt; omega
  obtain ⟨x,hx,hd⟩:=drop_cons hlt
  rw [hd] at hinv
  have hbx:s.length + (andE (dE x) (eachE dE (l.drop (k + 1)))).1.length ≤ 70368744177664:=by
   rw [hinv] at hb3
   rw [hs]
   simp only [preE,eachE,List.length_append] at hb3 ⊢
   omega
  refine idxT hx rfl rfl ?_
  refine wrN (hc s x (andE_bd1 hbx) (by rw [hs]; exact pos_app h1)) rfl rfl (fun h2 => ⟨rfl,hno hinv h2⟩) fun e3 => ?_
  refine Fit.in64 (by omega) (by omega) ?_
  refine ⟨(k + 1,s ++ (dE x).1),⟨hlt,p ++ (dE x).1,by rw [hs,List.append_assoc],?_⟩,⟨nextI,trivial⟩,⟨.inl ⟨_,rfl,.inl ⟨rfl,rfl⟩⟩,.inl ⟨_,rfl,.inl ⟨rfl,rfl⟩⟩,trivial⟩,nextM hlt⟩
  rw [hinv,eachE,andE_ok e3,pre_pre]
 ·have hge:¬ k < l.length:=by rw [hln] at hge; omega
  rw [drop_end hge] at hinv
  obtain ⟨f1,f2⟩:=hfin p hinv
  exact retR [1000,1001] rfl rfl rfl rfl ⟨f1,by rw [f2,hs]; rfl,rfl⟩
theorem t133 (g:Nat) (dE:Slot → Enc) (hc:∀ bs x,WrB 134 [.agg (slotC x),.pt [adr g 0] 0] (pin g 79) bs (dE x)) (bs:List UInt8) (l:List (Slot)):WrB 133 [adr g 0,.sl (l.map slotC),.fn 134 [] [.pt [adr g 0] 0]] (pin g 79) bs (listE dE l):=fun hb h0 => by
 refine callsTX_facts Tryz.func133 facts133 rfl fun hw ho => ?_
 have hln:(l.map slotC).length = l.length:=by simp
 have hnm:l.length ≤ 9223372036854775807:=by have:=wf_len hw.2.1; rwa [hln] at this
 have hle:(((l.map slotC).length:Int) ≤ 400) ↔ l.length ≤ 400:=by rw [hln]; omega
 refine chk (t33 (decide (((l.map slotC).length:Int) ≤ 400))) rfl (fun h => ⟨rfl,?_⟩) fun h => ?_
 ·have h:=of_decide_eq_false h
  rw [hle] at h
  rw [listE,andE_no]
  all_goals exact decide_eq_false h
 have h:=hle.1 (of_decide_eq_true h)
 have e1:(chkE (decide (l.length ≤ 400))).2 = true:=decide_eq_true h
 have hb2:bs.length + (andE (numsE [(l.length:Int)]) (eachE dE l)).1.length ≤ 70368744177664:=by
  have:=andE_bd hb e1
  simpa [chkE] using this
 refine wrN (t44 g bs [(l.length:Int)] (andE_bd1 hb2) h0) rfl (by rw [← hln]; rfl) (fun h2 => ⟨rfl,?_⟩) fun e2 => ?_
 ·rw [listE,andE_ok e1,andE_no h2]; exact h2
 have hb3:=andE_bd hb2 e2
 have hall:listE dE l = preE (numsE [(l.length:Int)]).1 (eachE dE l):=by rw [listE,andE_ok e1,andE_ok e2]; simp [preE,chkE]
 rw [hall]
 have h1:0 < (bs ++ (numsE [(l.length:Int)]).1).length:=pos_app h0
 have hfin:∀ p,eachE dE l = preE p okE → (preE (numsE [(l.length:Int)]).1 (eachE dE l)).2 = true ∧ bs ++ (preE (numsE [(l.length:Int)]).1 (eachE dE l)).1 = (bs ++ (numsE [(l.length:Int)]).1) ++ p:=by
  intro p h
  rw [h]
  exact ⟨rfl,by simp [preE,okE]⟩
 have hno:∀ {x:Slot} {p:List UInt8} {r:List (Slot)},eachE dE l = preE p (eachE dE (x :: r)) → (dE x).2 = false → (preE (numsE [(l.length:Int)]).1 (eachE dE l)).2 = false:=by
  intro x p r h h2
  rw [h]
  simp only [preE,eachE,andE,h2,Bool.false_and]
 generalize (numsE [(l.length:Int)]).1 = q at *
 generalize bs ++ q = bs1 at *
 refine loopN l.length 19 [] bs1 (fun _ => []) (fun s => WBL (pin g 79) s) (fun k s => ∃ p,s = bs1 ++ p ∧ eachE dE l = preE p (eachE dE (l.drop k))) ⟨[],by simp,by simp [pre_nil]⟩ (same_keys rfl) trivial
  ⟨.inl ⟨_,rfl,.inl ⟨rfl,rfl⟩⟩,.inl ⟨_,rfl,.inl ⟨rfl,rfl⟩⟩,trivial⟩ (fun _ => rfl) (fun _ => rfl) ?_
 rintro k s hk ⟨p,hs,hinv⟩ _ _ _
 refine brn_p (fun hlt => ?_) (fun hge => ?_)
 ·have hlt:k < l.length:=by rw [hln] at hlt; omega
  obtain ⟨x,hx,hd⟩:=drop_cons hlt
  rw [hd] at hinv
  have hbx:s.length + (andE (dE x) (eachE dE (l.drop (k + 1)))).1.length ≤ 70368744177664:=by
   rw [hinv] at hb3
   rw [hs]
   simp only [preE,eachE,List.length_append] at hb3 ⊢
   omega
  refine idxT hx rfl rfl ?_
  refine wrN (hc s x (andE_bd1 hbx) (by rw [hs]; exact pos_app h1)) rfl rfl (fun h2 => ⟨rfl,hno hinv h2⟩) fun e3 => ?_
  refine Fit.in64 (by omega) (by omega) ?_
  refine ⟨(k + 1,s ++ (dE x).1),⟨hlt,p ++ (dE x).1,by rw [hs,List.append_assoc],?_⟩,⟨nextI,trivial⟩,⟨.inl ⟨_,rfl,.inl ⟨rfl,rfl⟩⟩,.inl ⟨_,rfl,.inl ⟨rfl,rfl⟩⟩,trivial⟩,nextM hlt⟩
  rw [hinv,eachE,andE_ok e3,pre_pre]
 ·have hge:¬ k < l.length:=by rw [hln] at hge; omega
  rw [drop_end hge] at hinv
  obtain ⟨f1,f2⟩:=hfin p hinv
  exact retR [1000,1001] rfl rfl rfl rfl ⟨f1,by rw [f2,hs]; rfl,rfl⟩
theorem t89 (g:Nat) (dE:List Slot → Enc) (hc:∀ bs x,WrB 90 [adr g 0,.sl (x.map slotC)] (pin g 79) bs (dE x)) (bs:List UInt8) (l:List (List Slot)):WrB 89 [adr g 0,.sl (l.map slotsC),.fn 90 [adr g 0] []] (pin g 79) bs (listE dE l):=fun hb h0 => by
 refine callsTX_facts Tryz.func89 facts89 rfl fun hw ho => ?_
 have hln:(l.map slotsC).length = l.length:=by simp
 have hnm:l.length ≤ 9223372036854775807:=by have:=wf_len hw.2.1; rwa [hln] at this
 have hle:(((l.map slotsC).length:Int) ≤ 400) ↔ l.length ≤ 400:=by rw [hln]; omega
 refine chk (t33 (decide (((l.map slotsC).length:Int) ≤ 400))) rfl (fun h => ⟨rfl,?_⟩) fun h => ?_
 ·have h:=of_decide_eq_false h
  rw [hle] at h
  rw [listE,andE_no]
  all_goals exact decide_eq_false h
 have h:=hle.1 (of_decide_eq_true h)
 have e1:(chkE (decide (l.length ≤ 400))).2 = true:=decide_eq_true h
 have hb2:bs.length + (andE (numsE [(l.length:Int)]) (eachE dE l)).1.length ≤ 70368744177664:=by
  have:=andE_bd hb e1
  simpa [chkE] using this
 refine wrN (t44 g bs [(l.length:Int)] (andE_bd1 hb2) h0) rfl (by rw [← hln]; rfl) (fun h2 => ⟨rfl,?_⟩) fun e2 => ?_
 ·rw [listE,andE_ok e1,andE_no h2]; exact h2
 have hb3:=andE_bd hb2 e2
 have hall:listE dE l = preE (numsE [(l.length:Int)]).1 (eachE dE l):=by rw [listE,andE_ok e1,andE_ok e2]; simp [preE,chkE]
 rw [hall]
 have h1:0 < (bs ++ (numsE [(l.length:Int)]).1).length:=pos_app h0
 have hfin:∀ p,eachE dE l = preE p okE → (preE (numsE [(l.length:Int)]).1 (eachE dE l)).2 = true ∧ bs ++ (preE (numsE [(l.length:Int)]).1 (eachE dE l)).1 = (bs ++ (numsE [(l.length:Int)]).1) ++ p:=by
  intro p h
  rw [h]
  exact ⟨rfl,by simp [preE,okE]⟩
 have hno:∀ {x:List Slot} {p:List UInt8} {r:List (List Slot)},eachE dE l = preE p (eachE dE (x :: r)) → (dE x).2 = false → (preE (numsE [(l.length:Int)]).1 (eachE dE l)).2 = false:=by
  intro x p r h h2
  rw [h]
  simp only [preE,eachE,andE,h2,Bool.false_and]
 generalize (numsE [(l.length:Int)]).1 = q at *
 generalize bs ++ q = bs1 at *
 refine loopN l.length 19 [] bs1 (fun _ => []) (fun s => WBL (pin g 79) s) (fun k s => ∃ p,s = bs1 ++ p ∧ eachE dE l = preE p (eachE dE (l.drop k))) ⟨[],by simp,by simp [pre_nil]⟩ (same_keys rfl) trivial
  ⟨.inl ⟨_,rfl,.inl ⟨rfl,rfl⟩⟩,.inl ⟨_,rfl,.inl ⟨rfl,rfl⟩⟩,trivial⟩ (fun _ => rfl) (fun _ => rfl) ?_
 rintro k s hk ⟨p,hs,hinv⟩ _ _ _
 refine brn_p (fun hlt => ?_) (fun hge => ?_)
 ·have hlt:k < l.length:=by rw [hln] at hlt; omega
  obtain ⟨x,hx,hd⟩:=drop_cons hlt
  rw [hd] at hinv
  have hbx:s.length + (andE (dE x) (eachE dE (l.drop (k + 1)))).1.length ≤ 70368744177664:=by
   rw [hinv] at hb3
   rw [hs]
   simp only [preE,eachE,List.length_append] at hb3 ⊢
   omega
  refine idxT hx rfl rfl ?_
  refine wrN (hc s x (andE_bd1 hbx) (by rw [hs]; exact pos_app h1)) rfl rfl (fun h2 => ⟨rfl,hno hinv h2⟩) fun e3 => ?_
  refine Fit.in64 (by omega) (by omega) ?_
  refine ⟨(k + 1,s ++ (dE x).1),⟨hlt,p ++ (dE x).1,by rw [hs,List.append_assoc],?_⟩,⟨nextI,trivial⟩,⟨.inl ⟨_,rfl,.inl ⟨rfl,rfl⟩⟩,.inl ⟨_,rfl,.inl ⟨rfl,rfl⟩⟩,trivial⟩,nextM hlt⟩
  rw [hinv,eachE,andE_ok e3,pre_pre]
 ·have hge:¬ k < l.length:=by rw [hln] at hge; omega
  rw [drop_end hge] at hinv
  obtain ⟨f1,f2⟩:=hfin p hinv
  exact retR [1000,1001] rfl rfl rfl rfl ⟨f1,by rw [f2,hs]; rfl,rfl⟩
theorem t135 (g:Nat) (dE:Lent → Enc) (hc:∀ bs x,WrB 136 [.agg (lentC x),.pt [adr g 0] 0] (pin g 79) bs (dE x)) (bs:List UInt8) (l:List (Lent)):WrB 135 [adr g 0,.sl (l.map lentC),.fn 136 [] [.pt [adr g 0] 0]] (pin g 79) bs (listE dE l):=fun hb h0 => by
 refine callsTX_facts Tryz.func135 facts135 rfl fun hw ho => ?_
 have hln:(l.map lentC).length = l.length:=by simp
 have hnm:l.length ≤ 9223372036854775807:=by have:=wf_len hw.2.1; rwa [hln] at this
 have hle:(((l.map lentC).length:Int) ≤ 400) ↔ l.length ≤ 400:=by rw [hln]; omega
 refine chk (t33 (decide (((l.map lentC).length:Int) ≤ 400))) rfl (fun h => ⟨rfl,?_⟩) fun h => ?_
 ·have h:=of_decide_eq_false h
  rw [hle] at h
  rw [listE,andE_no]
  all_goals exact decide_eq_false h
 have h:=hle.1 (of_decide_eq_true h)
 have e1:(chkE (decide (l.length ≤ 400))).2 = true:=decide_eq_true h
 have hb2:bs.length + (andE (numsE [(l.length:Int)]) (eachE dE l)).1.length ≤ 70368744177664:=by
  have:=andE_bd hb e1
  simpa [chkE] using this
 refine wrN (t44 g bs [(l.length:Int)] (andE_bd1 hb2) h0) rfl (by rw [← hln]; rfl) (fun h2 => ⟨rfl,?_⟩) fun e2 => ?_
 ·rw [listE,andE_ok e1,andE_no h2]; exact h2
 have hb3:=andE_bd hb2 e2
 have hall:listE dE l = preE (numsE [(l.length:Int)]).1 (eachE dE l):=by rw [listE,andE_ok e1,andE_ok e2]; simp [preE,chkE]
 rw [hall]
 have h1:0 < (bs ++ (numsE [(l.length:Int)]).1).length:=pos_app h0
 have hfin:∀ p,eachE dE l = preE p okE → (preE (numsE [(l.length:Int)]).1 (eachE dE l)).2 = true ∧ bs ++ (preE (numsE [(l.length:Int)]).1 (eachE dE l)).1 = (bs ++ (numsE [(l.length:Int)]).1) ++ p:=by
  intro p h
  rw [h]
  exact ⟨rfl,by simp [preE,okE]⟩
 have hno:∀ {x:Lent} {p:List UInt8} {r:List (Lent)},eachE dE l = preE p (eachE dE (x :: r)) → (dE x).2 = false → (preE (numsE [(l.length:Int)]).1 (eachE dE l)).2 = false:=by
  intro x p r h h2
  rw [h]
  simp only [preE,eachE,andE,h2,Bool.false_and]
 generalize (numsE [(l.length:Int)]).1 = q at *
 generalize bs ++ q = bs1 at *
 refine loopN l.length 19 [] bs1 (fun _ => []) (fun s => WBL (pin g 79) s) (fun k s => ∃ p,s = bs1 ++ p ∧ eachE dE l = preE p (eachE dE (l.drop k))) ⟨[],by simp,by simp [pre_nil]⟩ (same_keys rfl) trivial
  ⟨.inl ⟨_,rfl,.inl ⟨rfl,rfl⟩⟩,.inl ⟨_,rfl,.inl ⟨rfl,rfl⟩⟩,trivial⟩ (fun _ => rfl) (fun _ => rfl) ?_
 rintro k s hk ⟨p,hs,hinv⟩ _ _ _
 refine brn_p (fun hlt => ?_) (fun hge => ?_)
 ·have hlt:k < l.length:=by rw [hln] at hlt; omega
  obtain ⟨x,hx,hd⟩:=drop_cons hlt
  rw [hd] at hinv
  have hbx:s.length + (andE (dE x) (eachE dE (l.drop (k + 1)))).1.length ≤ 70368744177664:=by
   rw [hinv] at hb3
   rw [hs]
   simp only [preE,eachE,List.length_append] at hb3 ⊢
   omega
  refine idxT hx rfl rfl ?_
  refine wrN (hc s x (andE_bd1 hbx) (by rw [hs]; exact pos_app h1)) rfl rfl (fun h2 => ⟨rfl,hno hinv h2⟩) fun e3 => ?_
  refine Fit.in64 (by omega) (by omega) ?_
  refine ⟨(k + 1,s ++ (dE x).1),⟨hlt,p ++ (dE x).1,by rw [hs,List.append_assoc],?_⟩,⟨nextI,trivial⟩,⟨.inl ⟨_,rfl,.inl ⟨rfl,rfl⟩⟩,.inl ⟨_,rfl,.inl ⟨rfl,rfl⟩⟩,trivial⟩,nextM hlt⟩
  rw [hinv,eachE,andE_ok e3,pre_pre]
 ·have hge:¬ k < l.length:=by rw [hln] at hge; omega
  rw [drop_end hge] at hinv
  obtain ⟨f1,f2⟩:=hfin p hinv
  exact retR [1000,1001] rfl rfl rfl rfl ⟨f1,by rw [f2,hs]; rfl,rfl⟩
def typE:Nat → Ty → Enc
 | 0,_ => chkE false
 | d + 1,t => andE (numsE [t.kind,t.id]) (listE (typE d) t.args)
def fullE (t:Ty):Enc:=typE 8 t
def intsE (l:List Int):Enc:=listE (fun n => numsE [n]) l
def typesE (l:List Ty):Enc:=listE fullE l
def varE (v:Variant):Enc:=andE (nameE v.name) (typesE v.fields)
def dataE (d:Api.Data):Enc:=andE (nameE d.name) (andE (numsE [d.module,d.params,d.drop]) (listE varE d.variants))
def insE (x:Ins):Enc:=andE (numsE [x.op,x.dst,x.a,x.b,x.n]) (andE (intsE x.args) (typesE x.types))
def blockE (b:Block):Enc:=andE (listE insE b.code) (andE (numsE [b.fin.kind,b.fin.a]) (intsE b.fin.targets))
def bitI (b:Bool):Int:=match b with | true => 1 | false => 0
def lentE (x:Lent):Enc:=numsE [x.slot,bitI x.excl,bitI x.re]
def slotE (s:Slot):Enc:=andE (numsE [s.state]) (andE (fullE s.type) (andE (numsE [s.var,s.flag]) (listE lentE s.lent)))
def slotsE (l:List Slot):Enc:=listE slotE l
def routE (r:Rout):Enc:=andE (nameE r.name) (andE (typesE r.params) (andE (fullE r.result) (andE (intsE r.ties) (andE (numsE [r.slots]) (andE (listE blockE r.blocks) (listE slotsE r.entry))))))
def imgE (i:Img):Enc:=andE (listE dataE i.datas) (andE (listE routE i.routs) (numsE [i.main]))
section
variable {L:TL} {ρ:TEnv}
theorem wrD {PS:Value → Prop} {fb:List Nat} {f:Nat} {args args':List C} {t:Nat} {bs:List UInt8} {e:Enc} {K:TL → TEnv → C → Prop} (h:WrOk f args' t bs e)
  (hs:L.sub [1000,1001] = some (WB t bs)) (hfb:disjB [1000,1001] fb = true) (ha:(args.map fun c => c.canA.ren (toIn [1000,1001] 1000)) = args') (hp:e.2 = false → PS failV)
  (k:e.2 = true → K (((L.dels [1000,1001]).kills (rowsOf L [1000,1001])).puts [1000,1001] (WB t (bs ++ e.1))) (killsE (rowsOf L [1000,1001]) ρ) (.tup [])):CallXDT PZ PS fb f args L ρ K:=by
 subst ha
 refine ⟨[1000,1001],_,_,_,hs,rfl,hfb,rfl,h,fun v ⟨e,h⟩ => e ▸ hp h,?_⟩
 rintro v Mo ⟨e1,rfl,rfl⟩ hw hwo
 exact ⟨rfl,k e1⟩
end
theorem and_no1 {a b:Enc} (h:a.2 = false):(andE a b).2 = false:=by simp only [andE,h,Bool.false_and]
theorem and_no2 {a b:Enc} (h:b.2 = false):(andE a b).2 = false:=by simp only [andE,h,Bool.and_false]
theorem and_fin {a b:Enc} {bs:List UInt8} {t:Nat} {Mo:List TO} (ha:a.2 = true) (h:b.2 = true ∧ Mo = WB t ((bs ++ a.1) ++ b.1)):(andE a b).2 = true ∧ Mo = WB t (bs ++ (andE a b).1):=by
 rw [andE_ok ha]
 refine ⟨h.1,?_⟩
 rw [h.2]
 simp [preE]
theorem t130 (g:Nat) (bs:List UInt8) (n:Int):WrB 130 [IC n,.pt [adr g 0] 0] (pin g 79) bs (numsE [n]):=by
 intro hb h0
 refine callsTX_facts Tryz.func130 facts130 rfl fun hw ho => ?_
 refine wrN (t44 g (_) [n] hb h0) rfl rfl (fun h => ⟨rfl,h⟩) fun e1 => ?_
 obtain ⟨q1,q2⟩:_ ∧ _:=(⟨e1,rfl⟩:_ ∧ WB (pin g 79) _ = _)
 exact retR [1000,1001] rfl rfl rfl rfl ⟨q1,q2,rfl⟩
theorem t86 (g:Nat) (bs:List UInt8) (l:List Int):WrB 86 [adr g 0,.sl (ics l)] (pin g 79) bs (intsE l):=by
 intro hb h0
 unfold intsE at hb ⊢
 refine callsTX_facts Tryz.func86 facts86 rfl fun hw ho => ?_
 refine wrN (t129 g _ (t130 g) (_) l hb h0) rfl rfl (fun h => ⟨rfl,h⟩) fun e1 => ?_
 obtain ⟨q1,q2⟩:_ ∧ _:=(⟨e1,rfl⟩:_ ∧ WB (pin g 79) _ = _)
 exact retR [1000,1001] rfl rfl rfl rfl ⟨q1,q2,rfl⟩
theorem t128 (g:Nat) (m:Int) (hm:0 < m) {D:Ty → Enc} (hc:∀ bs x,WrB 85 [adr g 0,tyA x,IC (m - 1)] (pin g 79) bs (D x)) (bs:List UInt8) (x:Ty):WrB 128 [tyA x,.pt [adr g 0] 0,.pt [IC m] 0] (pin g 79) bs (D x):=by
 intro hb h0
 refine callsTX_facts Tryz.func128 facts128 rfl fun hw ho => ?_
 have hm2:m ≤ 9223372036854775807:=by
  have:=hw.2.2.1
  simp only [Wf,WfS] at this
  exact (wf_i64 this.1).2
 refine Fit.in64 (by omega) (by omega) ?_
 refine wrN (hc bs x hb h0) rfl rfl (fun h => ⟨rfl,h⟩) fun e1 => ?_
 exact retR [1000,1001] rfl rfl rfl rfl ⟨e1,rfl,rfl⟩
theorem t85 (g:Nat):∀ (d:Nat) (m:Int),m.toNat = d → ∀ (bs:List UInt8) (x:Ty),WrB 85 [adr g 0,tyA x,IC m] (pin g 79) bs (typE d x)
 | 0,m,hm,bs,x => by
  intro hb h0
  refine callsTX_facts Tryz.func85 facts85 rfl fun hw ho => ?_
  refine chk (t33 (decide (0 < m))) rfl (fun h => ⟨rfl,rfl⟩) fun h => ?_
  have h:=of_decide_eq_true h
  exfalso
  omega
 | d + 1,m,hm,bs,x => by
  have ih:=t85 g d (m - 1) (by omega)
  intro hb h0
  unfold typE at hb ⊢
  refine callsTX_facts Tryz.func85 facts85 rfl fun hw ho => ?_
  refine chk (t33 (decide (0 < m))) rfl (fun h => by have h:=of_decide_eq_false h; exfalso; omega) fun _ => ?_
  refine wrN (t44 g bs [x.kind,x.id] (andE_bd1 hb) h0) rfl rfl (fun h => ⟨rfl,and_no1 h⟩) fun e1 => ?_
  refine wrN (t126d g m _ (t128 g m (by omega) ih) _ x.args (andE_bd hb e1) (pos_app h0)) rfl rfl (fun h => ⟨rfl,and_no2 h⟩) fun e2 => ?_
  obtain ⟨q1,q2⟩:_ ∧ _:=(and_fin e1 ⟨e2,rfl⟩:_ ∧ WB (pin g 79) _ = _)
  exact retR [1000,1001] rfl rfl rfl rfl ⟨q1,q2,rfl⟩
theorem t85f (g:Nat) (bs:List UInt8) (x:Ty):WrB 85 [adr g 0,tyA x,IC 8] (pin g 79) bs (fullE x):=t85 g 8 8 rfl bs x
theorem t127 (g:Nat) (bs:List UInt8) (x:Ty):WrB 127 [tyA x,.pt [adr g 0] 0] (pin g 79) bs (fullE x):=by
 intro hb h0
 refine callsTX_facts Tryz.func127 facts127 rfl fun hw ho => ?_
 refine wrN (t85f g (_) x hb h0) rfl rfl (fun h => ⟨rfl,h⟩) fun e1 => ?_
 obtain ⟨q1,q2⟩:_ ∧ _:=(⟨e1,rfl⟩:_ ∧ WB (pin g 79) _ = _)
 exact retR [1000,1001] rfl rfl rfl rfl ⟨q1,q2,rfl⟩
theorem t84 (g:Nat) (bs:List UInt8) (l:List Ty):WrB 84 [adr g 0,.sl (l.map tyC)] (pin g 79) bs (typesE l):=by
 intro hb h0
 unfold typesE at hb ⊢
 refine callsTX_facts Tryz.func84 facts84 rfl fun hw ho => ?_
 refine wrN (t126 g _ (t127 g) (_) l hb h0) rfl rfl (fun h => ⟨rfl,h⟩) fun e1 => ?_
 obtain ⟨q1,q2⟩:_ ∧ _:=(⟨e1,rfl⟩:_ ∧ WB (pin g 79) _ = _)
 exact retR [1000,1001] rfl rfl rfl rfl ⟨q1,q2,rfl⟩
theorem t83 (g:Nat) (bs:List UInt8) (x:Variant):WrB 83 [.agg (variantC x),.pt [adr g 0] 0] (pin g 79) bs (varE x):=by
 intro hb h0
 unfold varE at hb ⊢
 refine callsTX_facts Tryz.func83 facts83 rfl fun hw ho => ?_
 refine wrN (t81 g (_) x.name (andE_bd1 hb) h0) rfl rfl (fun h => ⟨rfl,and_no1 h⟩) fun e1 => ?_
 have hb1:=andE_bd hb e1
 refine wrN (t84 g (_) x.fields hb1 (pos_app h0)) rfl rfl (fun h => ⟨rfl,and_no2 (h)⟩) fun e2 => ?_
 obtain ⟨q1,q2⟩:_ ∧ _:=(and_fin e1 (⟨e2,rfl⟩):_ ∧ WB (pin g 79) _ = _)
 exact retR [1000,1001] rfl rfl rfl rfl ⟨q1,q2,rfl⟩
theorem t41 (g:Nat) (bs:List UInt8) (x:Api.Data):WrB 41 [adr g 0,.agg (dataC x)] (pin g 79) bs (dataE x):=by
 intro hb h0
 unfold dataE at hb ⊢
 refine callsTX_facts Tryz.func41 facts41 rfl fun hw ho => ?_
 refine wrN (t81 g (_) x.name (andE_bd1 hb) h0) rfl rfl (fun h => ⟨rfl,and_no1 h⟩) fun e1 => ?_
 have hb1:=andE_bd hb e1
 refine wrN (t44 g (_) [x.module,x.params,x.drop] (andE_bd1 hb1) (pos_app h0)) rfl rfl (fun h => ⟨rfl,and_no2 (and_no1 h)⟩) fun e2 => ?_
 have hb2:=andE_bd hb1 e2
 refine wrN (t82 g _ (t83 g) (_) x.variants hb2 (pos_app (pos_app h0))) rfl rfl (fun h => ⟨rfl,and_no2 (and_no2 (h))⟩) fun e3 => ?_
 obtain ⟨q1,q2⟩:_ ∧ _:=(and_fin e1 (and_fin e2 (⟨e3,rfl⟩)):_ ∧ WB (pin g 79) _ = _)
 exact retR [1000,1001] rfl rfl rfl rfl ⟨q1,q2,rfl⟩
theorem t132 (g:Nat) (bs:List UInt8) (x:Ins):WrB 132 [.agg (insC x),.pt [adr g 0] 0] (pin g 79) bs (insE x):=by
 intro hb h0
 unfold insE at hb ⊢
 refine callsTX_facts Tryz.func132 facts132 rfl fun hw ho => ?_
 refine wrN (t44 g (_) [x.op,x.dst,x.a,x.b,x.n] (andE_bd1 hb) h0) rfl rfl (fun h => ⟨rfl,and_no1 h⟩) fun e1 => ?_
 have hb1:=andE_bd hb e1
 refine wrN (t86 g (_) x.args (andE_bd1 hb1) (pos_app h0)) rfl rfl (fun h => ⟨rfl,and_no2 (and_no1 h)⟩) fun e2 => ?_
 have hb2:=andE_bd hb1 e2
 refine wrN (t84 g (_) x.types hb2 (pos_app (pos_app h0))) rfl rfl (fun h => ⟨rfl,and_no2 (and_no2 (h))⟩) fun e3 => ?_
 obtain ⟨q1,q2⟩:_ ∧ _:=(and_fin e1 (and_fin e2 (⟨e3,rfl⟩)):_ ∧ WB (pin g 79) _ = _)
 exact retR [1000,1001] rfl rfl rfl rfl ⟨q1,q2,rfl⟩
theorem t88 (g:Nat) (bs:List UInt8) (x:Block):WrB 88 [adr g 0,.agg (blockC x)] (pin g 79) bs (blockE x):=by
 intro hb h0
 unfold blockE at hb ⊢
 refine callsTX_facts Tryz.func88 facts88 rfl fun hw ho => ?_
 refine wrN (t131 g _ (t132 g) (_) x.code (andE_bd1 hb) h0) rfl rfl (fun h => ⟨rfl,and_no1 h⟩) fun e1 => ?_
 have hb1:=andE_bd hb e1
 refine wrN (t44 g (_) [x.fin.kind,x.fin.a] (andE_bd1 hb1) (pos_app h0)) rfl rfl (fun h => ⟨rfl,and_no2 (and_no1 h)⟩) fun e2 => ?_
 have hb2:=andE_bd hb1 e2
 refine wrN (t86 g (_) x.fin.targets hb2 (pos_app (pos_app h0))) rfl rfl (fun h => ⟨rfl,and_no2 (and_no2 (h))⟩) fun e3 => ?_
 obtain ⟨q1,q2⟩:_ ∧ _:=(and_fin e1 (and_fin e2 (⟨e3,rfl⟩)):_ ∧ WB (pin g 79) _ = _)
 exact retR [1000,1001] rfl rfl rfl rfl ⟨q1,q2,rfl⟩
theorem t137 (b:Bool):CallsT PZ 137 [.bool b] [] (Ret [] (IC (bitI b))):=by
 refine callsT_facts Tryz.func137 facts137 rfl fun _ _ => ?_
 cases b
 ·exact retP rfl rfl
 ·exact retP rfl rfl
theorem t136 (g:Nat) (bs:List UInt8) (x:Lent):WrB 136 [.agg (lentC x),.pt [adr g 0] 0] (pin g 79) bs (lentE x):=by
 intro hb h0
 unfold lentE at hb ⊢
 refine callsTX_facts Tryz.func136 facts136 rfl fun hw ho => ?_
 refine callPD (t137 x.excl) rfl fun _ => ?_
 refine callPD (t137 x.re) rfl fun _ => ?_
 refine wrD (t44 g (_) [x.slot,bitI x.excl,bitI x.re] hb h0) rfl rfl rfl (fun h => ⟨rfl,h⟩) fun e1 => ?_
 obtain ⟨q1,q2⟩:_ ∧ _:=(⟨e1,rfl⟩:_ ∧ WB (pin g 79) _ = _)
 exact retR [1000,1001] rfl rfl rfl rfl ⟨q1,q2,rfl⟩
theorem t134 (g:Nat) (bs:List UInt8) (x:Slot):WrB 134 [.agg (slotC x),.pt [adr g 0] 0] (pin g 79) bs (slotE x):=by
 intro hb h0
 unfold slotE at hb ⊢
 refine callsTX_facts Tryz.func134 facts134 rfl fun hw ho => ?_
 refine wrN (t44 g (_) [x.state] (andE_bd1 hb) h0) rfl rfl (fun h => ⟨rfl,and_no1 h⟩) fun e1 => ?_
 have hb1:=andE_bd hb e1
 refine wrN (t85f g (_) x.type (andE_bd1 hb1) (pos_app h0)) rfl rfl (fun h => ⟨rfl,and_no2 (and_no1 h)⟩) fun e2 => ?_
 have hb2:=andE_bd hb1 e2
 refine wrN (t44 g (_) [x.var,x.flag] (andE_bd1 hb2) (pos_app (pos_app h0))) rfl rfl (fun h => ⟨rfl,and_no2 (and_no2 (and_no1 h))⟩) fun e3 => ?_
 have hb3:=andE_bd hb2 e3
 refine wrN (t135 g _ (t136 g) (_) x.lent hb3 (pos_app (pos_app (pos_app h0)))) rfl rfl (fun h => ⟨rfl,and_no2 (and_no2 (and_no2 (h)))⟩) fun e4 => ?_
 obtain ⟨q1,q2⟩:_ ∧ _:=(and_fin e1 (and_fin e2 (and_fin e3 (⟨e4,rfl⟩))):_ ∧ WB (pin g 79) _ = _)
 exact retR [1000,1001] rfl rfl rfl rfl ⟨q1,q2,rfl⟩
theorem t90 (g:Nat) (bs:List UInt8) (l:List Slot):WrB 90 [adr g 0,.sl (l.map slotC)] (pin g 79) bs (slotsE l):=by
 intro hb h0
 unfold slotsE at hb ⊢
 refine callsTX_facts Tryz.func90 facts90 rfl fun hw ho => ?_
 refine wrN (t133 g _ (t134 g) (_) l hb h0) rfl rfl (fun h => ⟨rfl,h⟩) fun e1 => ?_
 obtain ⟨q1,q2⟩:_ ∧ _:=(⟨e1,rfl⟩:_ ∧ WB (pin g 79) _ = _)
 exact retR [1000,1001] rfl rfl rfl rfl ⟨q1,q2,rfl⟩
theorem t43 (g:Nat) (bs:List UInt8) (x:Rout):WrB 43 [adr g 0,.agg (routC x)] (pin g 79) bs (routE x):=by
 intro hb h0
 unfold routE at hb ⊢
 refine callsTX_facts Tryz.func43 facts43 rfl fun hw ho => ?_
 refine wrN (t81 g (_) x.name (andE_bd1 hb) h0) rfl rfl (fun h => ⟨rfl,and_no1 h⟩) fun e1 => ?_
 have hb1:=andE_bd hb e1
 refine wrN (t84 g (_) x.params (andE_bd1 hb1) (pos_app h0)) rfl rfl (fun h => ⟨rfl,and_no2 (and_no1 h)⟩) fun e2 => ?_
 have hb2:=andE_bd hb1 e2
 refine wrN (t85f g (_) x.result (andE_bd1 hb2) (pos_app (pos_app h0))) rfl rfl (fun h => ⟨rfl,and_no2 (and_no2 (and_no1 h))⟩) fun e3 => ?_
 have hb3:=andE_bd hb2 e3
 refine wrN (t86 g (_) x.ties (andE_bd1 hb3) (pos_app (pos_app (pos_app h0)))) rfl rfl (fun h => ⟨rfl,and_no2 (and_no2 (and_no2 (and_no1 h)))⟩) fun e4 => ?_
 have hb4:=andE_bd hb3 e4
 refine wrN (t44 g (_) [x.slots] (andE_bd1 hb4) (pos_app (pos_app (pos_app (pos_app h0))))) rfl rfl (fun h => ⟨rfl,and_no2 (and_no2 (and_no2 (and_no2 (and_no1 h))))⟩) fun e5 => ?_
 have hb5:=andE_bd hb4 e5
 refine wrN (t87 g _ (t88 g) (_) x.blocks (andE_bd1 hb5) (pos_app (pos_app (pos_app (pos_app (pos_app h0)))))) rfl rfl (fun h => ⟨rfl,and_no2 (and_no2 (and_no2 (and_no2 (and_no2 (and_no1 h)))))⟩) fun e6 => ?_
 have hb6:=andE_bd hb5 e6
 refine wrN (t89 g _ (t90 g) (_) x.entry hb6 (pos_app (pos_app (pos_app (pos_app (pos_app (pos_app h0))))))) rfl rfl (fun h => ⟨rfl,and_no2 (and_no2 (and_no2 (and_no2 (and_no2 (and_no2 (h))))))⟩) fun e7 => ?_
 obtain ⟨q1,q2⟩:_ ∧ _:=(and_fin e1 (and_fin e2 (and_fin e3 (and_fin e4 (and_fin e5 (and_fin e6 (⟨e7,rfl⟩)))))):_ ∧ WB (pin g 79) _ = _)
 exact retR [1000,1001] rfl rfl rfl rfl ⟨q1,q2,rfl⟩
structure RT {α:Type} (d:Dec α) (e:α → Enc):Prop where
 wr:∀ x r,(e x).2 = true → d ((e x).1 ++ r) = some (x,r)
 rd:∀ l x r,d l = some (x,r) → (e x).2 = true ∧ l = (e x).1 ++ r
theorem andE_t {a b:Enc}:(andE a b).2 = true ↔ a.2 = true ∧ b.2 = true:=by simp [andE]
theorem andE_1 {a b:Enc} (h:a.2 = true):(andE a b).1 = a.1 ++ b.1:=by rw [andE_ok h]; rfl
theorem andD_inv {α β:Type} {f:Dec α} {k:α → Dec β} {l r:List UInt8} {y:β} (h:andD f k l = some (y,r)):∃ x r1,f l = some (x,r1) ∧ k x r1 = some (y,r):=by
 unfold andD at h
 split at h
 ·cases h
 ·rename_i x r1 e
  exact ⟨x,r1,e,h⟩
theorem unz_zz (n:Int):unz (zz n) = n:=by
 unfold unz zz
 split
 ·split <;> omega
 ·split <;> omega
theorem zz_unz (z:Nat):zz (unz z) = z:=by
 unfold unz zz
 split
 ·split <;> omega
 ·split <;> omega
theorem u8_of {n:Nat} (h:n < 256):(UInt8.ofNat n).toNat = n:=by
 rw [UInt8.toNat_ofNat']; exact Nat.mod_eq_of_lt h
theorem numGo_wr:∀ (f k z w:Nat) (r:List UInt8),0 < f → w < 128 ^ f → (0 < w ∨ k = 0) → -bound ≤ unz (z + w * 128 ^ k) → unz (z + w * 128 ^ k) ≤ bound → numGo f k z (vint w ++ r) = some (unz (z + w * 128 ^ k),r)
 | 0,k,z,w,r,hf0,h,h0,h1,h2 => absurd hf0 (by omega)
 | f + 1,k,z,w,r,hf0,h,h0,h1,h2 => by
  rw [vint]
  split
  ·rename_i hw
   simp only [List.cons_append,List.nil_append,numGo]
   rw [u8_of (by omega),if_pos hw,if_pos h0,if_pos ⟨h1,h2⟩]
  ·rename_i hw
   have hm:w % 128 < 128:=Nat.mod_lt _ (by omega)
   simp only [List.cons_append,numGo]
   rw [u8_of (by omega),if_neg (by omega)]
   have e:z + (128 + w % 128 - 128) * 128 ^ k + w / 128 * 128 ^ (k + 1) = z + w * 128 ^ k:=by
    rw [Nat.add_sub_cancel_left,Nat.pow_succ,Nat.add_assoc,Nat.mul_comm (128 ^ k) 128,← Nat.mul_assoc,← Nat.add_mul]
    congr 2
    omega
   have hf:w / 128 < 128 ^ f:=by
    rw [Nat.pow_succ] at h
    exact Nat.div_lt_of_lt_mul (by rw [Nat.mul_comm]; exact h)
   have:=numGo_wr f (k + 1) (z + (128 + w % 128 - 128) * 128 ^ k) (w / 128) r (by
    rcases Nat.eq_zero_or_pos f with e0 | e0
    ·subst e0; simp at h; omega
    ·exact e0) hf (.inl (by omega)) (by rw [e]; exact h1) (by rw [e]; exact h2)
   rw [e] at this
   exact this
theorem numGo_rd:∀ (f k z:Nat) (l:List UInt8) (n:Int) (r:List UInt8),numGo f k z l = some (n,r) → ∃ w,l = vint w ++ r ∧ n = unz (z + w * 128 ^ k) ∧ -bound ≤ n ∧ n ≤ bound ∧ (0 < w ∨ k = 0)
 | 0,k,z,l,n,r,h => by cases h
 | f + 1,k,z,[],n,r,h => by cases h
 | f + 1,k,z,c :: l,n,r,h => by
  simp only [numGo] at h
  split at h
  ·rename_i hc
   split at h
   ·rename_i h0
    split at h
    ·rename_i hb
     injection h with h
     injection h with h1 h2
     subst h1 h2
     refine ⟨c.toNat,?_,rfl,hb.1,hb.2,h0⟩
     rw [vint,dif_pos hc]
     simp
    ·cases h
   ·cases h
  ·rename_i hc
   obtain ⟨w,rfl,h2,h3,h4,h5⟩:=numGo_rd f (k + 1) _ l n r h
   have hlt:=c.toNat_lt
   have hw:0 < w:=by rcases h5 with h5 | h5 <;> omega
   refine ⟨c.toNat - 128 + 128 * w,?_,?_,h3,h4,.inl (by omega)⟩
   ·have e1:(c.toNat - 128 + 128 * w) % 128 = c.toNat - 128:=by omega
    have e2:(c.toNat - 128 + 128 * w) / 128 = w:=by omega
    have e3:vint (c.toNat - 128 + 128 * w) = c :: vint w:=by
     rw [vint.eq_1 (c.toNat - 128 + 128 * w),dif_neg (by omega),e1,e2,show 128 + (c.toNat - 128) = c.toNat by omega]
     simp
    rw [e3]
    rfl
   ·rw [h2]
    congr 1
    rw [Nat.pow_succ,Nat.add_mul,Nat.add_assoc,Nat.mul_comm (128 ^ k) 128,← Nat.mul_assoc,Nat.mul_comm w 128]
theorem num_rt:RT numD numE:=by
 refine ⟨fun n r h => ?_,fun l n r h => ?_⟩
 ·unfold numE at h ⊢
  split at h
  case isFalse => cases h
  rename_i hb
  rw [if_pos hb]
  have h0:zz n < 128 ^ 6:=by unfold zz; split <;> omega
  have:=numGo_wr 6 0 0 (zz n) r (by omega) h0 (.inr rfl) (by simp only [Nat.zero_add,Nat.pow_zero,Nat.mul_one,unz_zz]; exact hb.1) (by simp only [Nat.zero_add,Nat.pow_zero,Nat.mul_one,unz_zz]; exact hb.2)
  simp only [Nat.zero_add,Nat.pow_zero,Nat.mul_one,unz_zz] at this
  exact this
 ·obtain ⟨w,rfl,h2,h3,h4,h5⟩:=numGo_rd 6 0 0 l n r h
  simp only [Nat.zero_add,Nat.pow_zero,Nat.mul_one] at h2
  subst h2
  unfold numE
  rw [if_pos ⟨h3,h4⟩,zz_unz]
  exact ⟨rfl,rfl⟩
end Go.Fr.Tryz
