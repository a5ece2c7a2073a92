/- Part of the proofs of the statements of this seat. -/
import Derived.Test.YtidbpicbmklccaaGreatDoorIzM3G
import Derived.Test.YtidbpicbmklccaaGreatDoorIzT6G
set_option maxRecDepth 10000
set_option linter.unusedVariables false
set_option linter.unusedSimpArgs false
namespace Go.Fr.Tryz
open Go Go.RowKit Go.Proofs Go.Fr Go.Fr.T Go.Fr.Api Go.Fr.Dm
def usesOf (q:Prog) (m:Int):List Int:=q.uses.getD m.toNat []
def inRange (q:Prog) (l:List Int):Bool:=l.all fun n => decide (0 ≤ n ∧ n < q.modules.length)
def mkOk (q:Prog) (m:Int) (ag:List Int):Bool:=decide (0 ≤ m) && (decide (m < q.modules.length) && (decide (m < q.uses.length) && (decide (ag.length = (usesOf q m).length) && inRange q (usesOf q m))))
def bodyOf (q:Prog) (m:Int):List UInt8:=encModule q (nm q.modules m) m
def mkI (q:Prog) (m:Int) (ag:List Int):Ifc × Int:=match mkOk q m ag with
 | true => (⟨nm q.modules m,(usesOf q m).map (nm q.modules),ag,dig (bodyOf q m),bodyOf q m⟩,0)
 | false => (zI,1)
theorem mkI_no {q:Prog} {m:Int} {ag:List Int} (h:¬ (0 ≤ m ∧ m < q.modules.length ∧ m < q.uses.length ∧ ag.length = (usesOf q m).length ∧ inRange q (usesOf q m) = true)):mkI q m ag = (zI,1):=by
 have:mkOk q m ag = false:=by
  cases hk:mkOk q m ag with
  | false => rfl
  | true =>
   simp only [mkOk,Bool.and_eq_true,decide_eq_true_eq] at hk
   exact absurd ⟨hk.1,hk.2.1,hk.2.2.1,hk.2.2.2.1,hk.2.2.2.2⟩ h
 simp only [mkI,this]
theorem mkI_yes {q:Prog} {m:Int} {ag:List Int} (h:0 ≤ m ∧ m < q.modules.length ∧ m < q.uses.length ∧ ag.length = (usesOf q m).length ∧ inRange q (usesOf q m) = true) :
  mkI q m ag = (⟨nm q.modules m,(usesOf q m).map (nm q.modules),ag,dig (bodyOf q m),bodyOf q m⟩,0):=by
 have:mkOk q m ag = true:=by
  simp only [mkOk,Bool.and_eq_true,decide_eq_true_eq]
  exact ⟨h.1,h.2.1,h.2.2.1,h.2.2.2.1,h.2.2.2.2⟩
 simp only [mkI,this]
theorem nm_at {l:List ByteArray} {i:Int} (h0:0 ≤ i) (h1:i < l.length):l[i.toNat]? = some (nm l i):=by
 have hlt:i.toNat < l.length:=by omega
 have e:elem l i = l[i.toNat]?:=by unfold elem; rw [if_neg (by omega)]
 rw [List.getElem?_eq_getElem hlt]
 simp only [nm,e,List.getElem?_eq_getElem hlt,Option.getD_some]
theorem uses_at {q:Prog} {m:Int} (h0:0 ≤ m) (h1:m < q.uses.length):q.uses[m.toNat]? = some (usesOf q m):=by
 have hlt:m.toNat < q.uses.length:=by omega
 rw [usesOf,List.getD_eq_getElem?_getD,List.getElem?_eq_getElem hlt]; rfl
theorem body_parts (q:Prog) (m:Int):bodyOf q m = encSs [nm q.modules m] ++ encL (encData (some q)) (q.datas.filter fun x => decide (x.module = m)) ++ encL (encImpl q) (q.impls.filter fun x => decide (x.module = m)) ++ encL (encSig (some q)) (q.funcs.filter fun x => decide (x.module = m)):=by
 simp [bodyOf,encModule]
def MkL (q:Prog) (m:Int) (ag:List Int) (s:List ByteArray):TL :=
 [(6,.box 42 [.str ⟨#[]⟩,.nils,.nils,IC 0,.nils]),(8,.box 42 [.str (nm q.modules m),.rw 73,.sl (ics ag),IC 0,.nils]),(73,.row 9 1 (strs s))]
set_option maxRecDepth 20000 in
theorem t8 (q:Prog) (m:Int) (ag:List Int) (hb:(bodyOf q m).length ≤ 2 ^ 46) (h1:q.datas.length ≤ 2 ^ 30) (h2:q.impls.length ≤ 2 ^ 30) (h3:q.funcs.length ≤ 2 ^ 30) (h4:ag.length ≤ 2 ^ 30) (h5:(usesOf q m).length ≤ 2 ^ 30) :
  CallsT PZ 8 [.agg (progC q),IC m,.sl (ics ag)] [] (Ret [] (.tup [.agg (ifC (mkI q m ag).1),IC (mkI q m ag).2])):=by
 have hml:(scs q.modules).length = q.modules.length:=by simp [scs]
 have hul:(q.uses.map fun l => [C.sl (ics l)]).length = q.uses.length:=by simp
 have hal:(ics ag).length = ag.length:=by simp [ics]
 have huu:(ics (usesOf q m)).length = (usesOf q m).length:=by simp [ics]
 refine callsT_facts Tryz.func8 facts8 rfl fun hw _ => ?_
 have hwm:=wf_len hw.1.1
 have hwu:=wf_len hw.1.2.1
 have hmn:(Lit.int .i64 (mn (q.uses.map fun l => [C.sl (ics l)]).length ((scs q.modules).length:Int))).wf = true:=mn_wf ((wf_iff _ _).2 ⟨by show (-9223372036854775808:Int) ≤ _; omega,by show _ ≤ (9223372036854775807:Int); omega⟩) hwu
 refine brn_p (fun h0 => ?_) (fun h0 => ?_)
 ·exact retP rfl (by rw [mkI_no (fun h => by omega)]; rfl)
 refine ⟨hmn,?_⟩
 refine brn_p (fun hm => ?_) (fun hm => ?_)
 ·have hm:mn (q.uses.map fun l => [C.sl (ics l)]).length ((scs q.modules).length:Int) ≤ m:=hm
  rw [hul,hml] at hm
  have hno:mkI q m ag = (zI,1):=mkI_no fun h => by
   unfold mn at hm
   split at hm <;> omega
  exact retP rfl (by rw [hno]; rfl)
 have hm:¬ mn (q.uses.map fun l => [C.sl (ics l)]).length ((scs q.modules).length:Int) ≤ m:=hm
 rw [hul,hml] at hm
 have hmm:m < q.modules.length ∧ m < q.uses.length:=by
  unfold mn at hm
  split at hm <;> omega
 have hux:=uses_at (q:=q) (by omega) hmm.2
 refine idxE (f:=fun l => [C.sl (ics l)]) h0 hux rfl rfl ?_
 refine brn_split (fun hl => ?_) (fun hl => ?_)
 ·have hl:(!decide (((ics ag).length:Int) = ((ics (usesOf q m)).length:Int))) = true:=hl
  rw [hal,huu] at hl
  have hl:¬ ((ag.length:Int) = (usesOf q m).length):=by simpa using hl
  have hno:mkI q m ag = (zI,1):=mkI_no fun h => hl (by rw [h.2.2.2.1])
  exact retP rfl (by rw [hno]; rfl)
 have hl:(!decide (((ics ag).length:Int) = ((ics (usesOf q m)).length:Int))) = false:=hl
 have hl:ag.length = (usesOf q m).length:=by
  rw [hal,huu] at hl
  have hl:(ag.length:Int) = (usesOf q m).length:=by simpa using hl
  omega
 have hmx:=nm_at (l:=q.modules) (i:=m) (by omega) (by omega)
 refine idxE (f:=fun s => [C.str s]) h0 hmx rfl rfl ?_
 refine callPD (t20 ag h4) rfl fun _ => ?_
 refine idxE (f:=fun l => [C.sl (ics l)]) h0 hux rfl rfl ?_
 refine loopN (usesOf q m).length 51 [] ([]:List ByteArray) (fun _ => []) (fun s => MkL q m ag s) (fun k s => s = ((usesOf q m).take k).map (nm q.modules) ∧ inRange q ((usesOf q m).take k) = true) ⟨rfl,rfl⟩
  (same_keys rfl) trivial ⟨.inl ⟨_,rfl,.inl ⟨rfl,rfl⟩⟩,.inl ⟨_,rfl,.inr ⟨42,_,_,rfl,rfl,_,_,rfl,same_keys rfl,_,_,rfl,nil_rw rfl rfl,_,_,rfl,same_keys rfl,_,_,rfl,same_keys rfl,_,_,rfl,same_keys rfl,rfl⟩⟩,.inr ⟨rfl,9,1,rfl⟩,trivial⟩ (fun _ => rfl) (fun _ => rfl) ?_
 rintro k s hk ⟨hs,hin⟩ _ _ _
 refine brn_p (fun hlt => ?_) (fun hge => ?_)
 ·have hlt:k < (usesOf q m).length:=by rw [huu] at hlt; omega
  refine withGet hlt fun n hn hnm => ?_
  refine idxI hn ?_
  have bad:¬ (0 ≤ n ∧ n < q.modules.length) → mkI q m ag = (zI,1):=fun hb => mkI_no fun h => hb (by
   have:=List.all_eq_true.1 h.2.2.2.2 n hnm
   exact of_decide_eq_true this)
  refine brn_p (fun hn0 => ?_) (fun hn0 => ?_)
  ·exact retP rfl (by rw [bad (by omega)]; rfl)
  refine brn_p (fun hn1 => ?_) (fun hn1 => ?_)
  ·have hn1:((scs q.modules).length:Int) ≤ n:=hn1
   exact retP rfl (by rw [bad (by omega)]; rfl)
  have hn1:¬ ((scs q.modules).length:Int) ≤ n:=hn1
  have hnx:=nm_at (l:=q.modules) (i:=n) (by omega) (by omega)
  refine idxE (f:=fun s => [C.str s]) hn0 hnx rfl rfl ?_
  have hsl:s.length = k:=by rw [hs,List.length_map,List.length_take]; omega
  refine app1r k rfl (by rw [strs_len]; exact hsl) (by omega) (by omega) ?_
  refine Fit.in64 (by omega) (by omega) ?_
  refine ⟨(k + 1,s ++ [nm q.modules n]),⟨hlt,?_,?_⟩,⟨nextI,trivial⟩,⟨.inl ⟨_,rfl,.inl ⟨rfl,rfl⟩⟩,.inl ⟨_,rfl,.inl ⟨rfl,rfl⟩⟩,.inl ⟨_,rfl,.inl ⟨?_,rfl⟩⟩,trivial⟩,nextM hlt⟩
  ·rw [List.take_add_one,hn,hs]; simp
  ·rw [inRange,List.take_add_one,hn,List.all_append]
   rw [Bool.and_eq_true]
   refine ⟨hin,?_⟩
   simp only [Option.toList,List.all_cons,List.all_nil,Bool.and_true]
   exact decide_eq_true ⟨by omega,by omega⟩
  ·exact congrArg (TO.row 9 1) (List.map_append (f:=fun n => [C.str n]) (l₁:=s) (l₂:=[_])).symm
 have hge:¬ k < (usesOf q m).length:=by rw [huu] at hge; omega
 rw [List.take_of_length_le (by omega)] at hs hin
 have hyes:=mkI_yes (q:=q) (m:=m) (ag:=ag) ⟨by omega,hmm.1,hmm.2,hl,hin⟩
 have hparts:=body_parts q m
 have hb0:=hb
 rw [hparts] at hb
 refine callG [(6,.box 42 [.str ⟨#[]⟩,.nils,.nils,IC 0,.nils]),(8,.box 42 [.str (nm q.modules m),.rw 73,.sl (ics ag),IC 0,.nils]),(73,.row 9 1 (strs s)),(78,.box 75 (.rw 150 :: IC 0 :: .int .i8 0 :: (pcQ q).cs)),(150,.row 5 1 [])] [78,150] [78,150]
  (w21 q [] [nm q.modules m] (by simp only [List.length_append,List.length_nil] at hb ⊢; omega))
  ⟨.inl ⟨_,rfl,.inl ⟨rfl,rfl⟩⟩,.inl ⟨_,rfl,.inl ⟨rfl,rfl⟩⟩,.inl ⟨_,rfl,.inl ⟨rfl,rfl⟩⟩,.inl ⟨_,rfl,.inr ⟨75,_,_,rfl,rfl,⟨_,_,rfl,nil_rw rfl rfl,⟨_,_,rfl,same_keys rfl,⟨_,_,rfl,same_keys rfl,⟨_,_,rfl,same_keys rfl,⟨_,_,rfl,same_keys rfl,⟨_,_,rfl,same_keys rfl,⟨_,_,rfl,same_keys rfl,⟨_,_,rfl,same_keys rfl,⟨_,_,rfl,same_keys rfl,⟨_,_,rfl,same_keys rfl,⟨_,_,rfl,same_keys rfl,rfl⟩⟩⟩⟩⟩⟩⟩⟩⟩⟩⟩⟩⟩,.inr ⟨rfl,5,1,rfl⟩,trivial⟩ rfl rfl rfl rfl rfl fun _ _ => ?_
 refine callP (t23 q.datas m h1) rfl fun _ => ?_
 refine callO [78,150] [78,150] (w22 q _ (q.datas.filter fun x => decide (x.module = m)) (encData (some q)) (fun x _ s hs => w25 q x s hs) (by simp only [List.length_append,List.length_nil] at hb ⊢; omega)) rfl rfl rfl rfl rfl fun _ _ => ?_
 refine callP (t27 q.impls m h2) rfl fun _ => ?_
 refine callO [78,150] [78,150] (w26 q _ (q.impls.filter fun x => decide (x.module = m)) (encImpl q) (fun x _ s hs => w29 q x s hs) (by simp only [List.length_append,List.length_nil] at hb ⊢; omega)) rfl rfl rfl rfl rfl fun _ _ => ?_
 refine callP (t31 q.funcs m h3) rfl fun _ => ?_
 refine callO [78,150] [78,150] (w30 q _ (q.funcs.filter fun x => decide (x.module = m)) (encSig (some q)) (fun x _ s hs => w33 q x s hs) (by simp only [List.length_append,List.length_nil] at hb ⊢; omega)) rfl rfl rfl rfl rfl fun _ _ => ?_
 have he:[] ++ encSs [nm q.modules m] ++ encL (encData (some q)) (q.datas.filter fun x => decide (x.module = m)) ++ encL (encImpl q) (q.impls.filter fun x => decide (x.module = m)) ++ encL (encSig (some q)) (q.funcs.filter fun x => decide (x.module = m)) = bodyOf q m:=by
  rw [hparts]; simp only [List.nil_append]
 refine callF [150] [78] [78] (t34T (pcQ q) 75 (bodyOf q m) 0) ⟨_,rfl,rfl,rfl,congrArg (fun z => [TO.box 75 (.sl (bcells z) :: IC 0 :: .int .i8 0 :: (pcQ q).cs)]) he,rfl,fun _ _ => ?_⟩
 refine callP (t15 (bodyOf q m)) rfl fun _ => ?_
 refine retF [73] [] ⟨_,_,rfl,rfl,rfl,rfl,?_⟩
 rw [hyes]
 subst hs
 rfl
end Go.Fr.Tryz
namespace Go.Fr.Try.Pure
def stp (h x:Int):Int:=(h * 1000003 + x + 1) % 2147483647
def run (h:Int) (l:List Int):Int:=l.foldl stp h
end Go.Fr.Try.Pure
namespace Go.Fr.Tryz
open Go Go.RowKit Go.Proofs Go.Fr Go.Fr.T Go.Fr.Api
open Go.Fr.Try Go.Fr.Dm
structure RT {α:Type} (d:Dec α) (e:α → List UInt8) (ok:α → Prop):Prop where
 wr:∀ x r,ok x → d (e x ++ r) = some (x,r)
 rd:∀ l x r,d l = some (x,r) → ok x ∧ l = e x ++ r
theorem andD_inv {α β:Type} {f:Dec α} {k:α → Dec β} {l r:List UInt8} {y:β} (h:andD f k l = some (y,r)):∃ x r1,f l = some (x,r1) ∧ k x r1 = some (y,r):=by
 unfold andD at h
 split at h
 ·cases h
 ·rename_i x r1 e
  exact ⟨x,r1,e,h⟩
theorem unz_zz (n:Int):unz (zz n) = n:=by
 unfold unz zz
 split
 ·split <;> omega
 ·split <;> omega
theorem zz_unz (z:Nat):zz (unz z) = z:=by
 unfold unz zz
 split
 ·split <;> omega
 ·split <;> omega
theorem u8_of {n:Nat} (h:n < 256):(UInt8.ofNat n).toNat = n:=by
 rw [UInt8.toNat_ofNat']; exact Nat.mod_eq_of_lt h
theorem numGo_wr:∀ (f k z w:Nat) (r:List UInt8),0 < f → w < 128 ^ f → (0 < w ∨ k = 0) → numGo f k z (vint w ++ r) = some (unz (z + w * 128 ^ k),r)
 | 0,k,z,w,r,hf0,h,h0 => absurd hf0 (by omega)
 | f + 1,k,z,w,r,hf0,h,h0 => by
  rw [vint]
  split
  ·rename_i hw
   simp only [List.cons_append,List.nil_append,numGo]
   rw [u8_of (by omega),if_pos hw,if_pos h0]
  ·rename_i hw
   have hm:w % 128 < 128:=Nat.mod_lt _ (by omega)
   simp only [List.cons_append,numGo]
   rw [u8_of (by omega),if_neg (by omega)]
   have e:z + (128 + w % 128 - 128) * 128 ^ k + w / 128 * 128 ^ (k + 1) = z + w * 128 ^ k:=by
    rw [Nat.add_sub_cancel_left,Nat.pow_succ,Nat.add_assoc,Nat.mul_comm (128 ^ k) 128,← Nat.mul_assoc,← Nat.add_mul]
    congr 2
    omega
   have hf:w / 128 < 128 ^ f:=by
    rw [Nat.pow_succ] at h
    exact Nat.div_lt_of_lt_mul (by rw [Nat.mul_comm]; exact h)
   have:=numGo_wr f (k + 1) (z + (128 + w % 128 - 128) * 128 ^ k) (w / 128) r (by
    rcases Nat.eq_zero_or_pos f with e0 | e0
    ·subst e0; simp at h; omega
    ·exact e0) hf (.inl (by omega))
   rw [e] at this
   exact this
theorem numGo_rd:∀ (f k z:Nat) (l:List UInt8) (n:Int) (r:List UInt8),numGo f k z l = some (n,r) → ∃ w,l = vint w ++ r ∧ n = unz (z + w * 128 ^ k) ∧ w < 128 ^ f ∧ (0 < w ∨ k = 0)
 | 0,k,z,l,n,r,h => by cases h
 | f + 1,k,z,[],n,r,h => by cases h
 | f + 1,k,z,c :: l,n,r,h => by
  simp only [numGo] at h
  split at h
  ·rename_i hc
   split at h
   ·rename_i h0
    injection h with h
    injection h with h1 h2
    subst h1 h2
    refine ⟨c.toNat,?_,rfl,?_,h0⟩
    ·rw [vint,dif_pos hc]
     simp
    ·have:0 < 128 ^ f:=Nat.pow_pos (by omega)
     rw [Nat.pow_succ]
     calc c.toNat < 1 * 128:=by omega
      _ ≤ 128 ^ f * 128:=Nat.mul_le_mul_right _ this
   ·cases h
  ·rename_i hc
   obtain ⟨w,rfl,h2,h3,h5⟩:=numGo_rd f (k + 1) _ l n r h
   have hlt:=c.toNat_lt
   have hw:0 < w:=by rcases h5 with h5 | h5 <;> omega
   refine ⟨c.toNat - 128 + 128 * w,?_,?_,?_,.inl (by omega)⟩
   ·have e1:(c.toNat - 128 + 128 * w) % 128 = c.toNat - 128:=by omega
    have e2:(c.toNat - 128 + 128 * w) / 128 = w:=by omega
    have e3:vint (c.toNat - 128 + 128 * w) = c :: vint w:=by
     rw [vint.eq_1 (c.toNat - 128 + 128 * w),dif_neg (by omega),e1,e2,show 128 + (c.toNat - 128) = c.toNat by omega]
     simp
    rw [e3]
    rfl
   ·rw [h2]
    congr 1
    rw [Nat.pow_succ,Nat.add_mul,Nat.add_assoc,Nat.mul_comm (128 ^ k) 128,← Nat.mul_assoc,Nat.mul_comm w 128]
   ·rw [Nat.pow_succ]
    omega
def okN (n:Int):Prop:=zz n < 9223372036854775808
theorem okN_of {n:Int} (h1:-4611686018427387904 ≤ n) (h2:n < 4611686018427387904):okN n:=by
 unfold okN zz
 split <;> omega
theorem num_rt:RT numD numB okN:=by
 refine ⟨fun n r h => ?_,fun l n r h => ?_⟩
 ·have:=numGo_wr 9 0 0 (zz n) r (by omega) h (.inr rfl)
  simp only [Nat.zero_add,Nat.pow_zero,Nat.mul_one,unz_zz] at this
  exact this
 ·obtain ⟨w,rfl,h2,h3,h5⟩:=numGo_rd 9 0 0 l n r h
  simp only [Nat.zero_add,Nat.pow_zero,Nat.mul_one] at h2
  subst h2
  unfold numB okN
  rw [zz_unz]
  exact ⟨h3,rfl⟩
def okL {α:Type} (l:List α):Prop:=l.length < 4611686018427387904
def bytesB (b:List UInt8):List UInt8:=numB b.length ++ b
theorem take_inv {n:Int} {l b r:List UInt8} (h:takeD n l = some (b,r)):0 ≤ n ∧ (b.length:Int) = n ∧ l = b ++ r:=by
 unfold takeD at h
 split at h
 ·rename_i h0
  injection h with h
  injection h with h1 h2
  subst h1 h2
  refine ⟨h0.1,?_,(List.take_append_drop _ _).symm⟩
  rw [List.length_take]
  omega
 ·cases h
theorem bytes_rt:RT bytesD bytesB okL:=by
 refine ⟨fun b r h => ?_,fun l b r h => ?_⟩
 ·unfold bytesD bytesB
  rw [List.append_assoc,num_rt.wr _ _ (okN_of (by omega) (by have:=h; unfold okL at this; omega))]
  simp only []
  rw [takeD_pos (by omega) (by simp; omega)]
  simp
 ·unfold bytesD at h
  split at h
  ·rename_i n r1 e
   obtain ⟨h1,h2⟩:=num_rt.rd _ _ _ e
   obtain ⟨h3,h4,h5⟩:=take_inv h
   refine ⟨?_,?_⟩
   ·unfold okN zz at h1
    unfold okL
    split at h1 <;> omega
   ·rw [h2,h5,← h4,bytesB,List.append_assoc]
  ·cases h
def okT (s:ByteArray):Prop:=s.size < 4611686018427387904
theorem text_rt:RT textD textB okT:=by
 refine ⟨fun s r h => ?_,fun l s r h => ?_⟩
 ·have:=bytes_rt.wr s.data.toList r (by show s.data.toList.length < _; have:=h; unfold okT at this; exact this)
  unfold textD
  have e:textB s = bytesB s.data.toList:=rfl
  rw [e,this]
 ·unfold textD at h
  split at h
  ·rename_i b r1 e
   injection h with h
   injection h with h1 h2
   subst h1 h2
   obtain ⟨k1,k2⟩:=bytes_rt.rd _ _ _ e
   exact ⟨by show b.toArray.size < _; simpa [okL] using k1,k2⟩
  ·cases h
theorem rep_wr {α:Type} {d:Dec α} {e:α → List UInt8} {ok:α → Prop} (h:RT d e ok):∀ (l:List α) (r:List UInt8),(∀ x ∈ l,ok x) → repD d l.length ((l.map e).flatten ++ r) = some (l,r)
 | [],r,_ => rfl
 | x :: l,r,hl => by
  simp only [List.length_cons,repD,List.map_cons,List.flatten_cons,List.append_assoc]
  rw [h.wr x _ (hl x (List.mem_cons_self ..))]
  simp only []
  rw [rep_wr h l r fun y hy => hl y (List.mem_cons_of_mem _ hy)]
theorem rep_rd {α:Type} {d:Dec α} {e:α → List UInt8} {ok:α → Prop} (h:RT d e ok):∀ (n:Nat) (l:List UInt8) (xs:List α) (r:List UInt8),repD d n l = some (xs,r) → (∀ x ∈ xs,ok x) ∧ l = (xs.map e).flatten ++ r ∧ xs.length = n
 | 0,l,xs,r,he => by
  simp only [repD,Option.some.injEq,Prod.mk.injEq] at he
  obtain ⟨rfl,rfl⟩:=he
  exact ⟨fun x hx => (by cases hx),rfl,rfl⟩
 | n + 1,l,xs,r,he => by
  simp only [repD] at he
  split at he
  case h_2 => cases he
  rename_i x r1 e1
  split at he
  case h_2 => cases he
  rename_i ys r2 e2
  simp only [Option.some.injEq,Prod.mk.injEq] at he
  obtain ⟨rfl,rfl⟩:=he
  obtain ⟨h1,h2⟩:=h.rd _ _ _ e1
  obtain ⟨h3,h4,h5⟩:=rep_rd h n _ _ _ e2
  refine ⟨fun y hy => ?_,?_,by simp [h5]⟩
  ·rcases List.mem_cons.1 hy with rfl | hy
   ·exact h1
   ·exact h3 y hy
  ·rw [h2,h4]
   simp
theorem flat_len {α:Type} {e:α → List UInt8} (h:∀ x,1 ≤ (e x).length):∀ l:List α,l.length ≤ (l.map e).flatten.length
 | [] => by simp
 | x :: l => by
  have:=h x
  have:=flat_len h l
  simp only [List.map_cons,List.flatten_cons,List.length_append,List.length_cons]
  omega
theorem list_rt {α:Type} {d:Dec α} {e:α → List UInt8} {ok:α → Prop} (he:∀ x,1 ≤ (e x).length) (h:RT d e ok):RT (listD d) (listB e) (fun l => okL l ∧ ∀ x ∈ l,ok x):=by
 refine ⟨fun l r hl => ?_,fun l xs r hr => ?_⟩
 ·unfold listD listB
  rw [List.append_assoc,num_rt.wr _ _ (okN_of (by omega) (by have:=hl.1; unfold okL at this; omega))]
  simp only []
  have:=flat_len he l
  rw [if_pos ⟨by omega,by rw [List.length_append]; omega⟩]
  exact rep_wr h l r hl.2
 ·unfold listD at hr
  split at hr
  case h_2 => cases hr
  rename_i n r1 e1
  obtain ⟨h1,h2⟩:=num_rt.rd _ _ _ e1
  split at hr
  case isFalse => cases hr
  rename_i h0
  obtain ⟨h3,h4,h5⟩:=rep_rd h _ _ _ _ hr
  have h6:(xs.length:Int) = n:=by omega
  refine ⟨⟨?_,h3⟩,?_⟩
  ·unfold okN zz at h1
   unfold okL
   split at h1 <;> omega
  ·rw [h2,h4,← h6,listB,List.append_assoc]
theorem num_ne (n:Int):1 ≤ (numB n).length:=vint_len _
theorem text_ne (s:ByteArray):1 ≤ (textB s).length:=by
 unfold textB
 have:=num_ne s.size
 rw [List.length_append]
 omega
def okI (i:Ifc):Prop:=okT i.module ∧ (okL i.uses ∧ ∀ x ∈ i.uses,okT x) ∧ (okL i.against ∧ ∀ n ∈ i.against,okN n) ∧ okN i.digest ∧ okL i.body
theorem if_rt:RT ifD encF okI:=by
 refine ⟨fun i r ⟨h1,h2,h3,h4,h5⟩ => ?_,fun l i r h => ?_⟩
 ·unfold ifD encF
  rw [List.append_assoc,andD_some (text_rt.wr _ _ h1),List.append_assoc,andD_some ((list_rt text_ne text_rt).wr _ _ h2),List.append_assoc,andD_some ((list_rt num_ne num_rt).wr _ _ h3),List.append_assoc,andD_some (num_rt.wr _ _ h4)]
  rw [show numB ↑i.body.length ++ i.body ++ r = bytesB i.body ++ r from rfl,andD_some (bytes_rt.wr _ _ h5)]
  rfl
 ·unfold ifD at h
  obtain ⟨m,r1,e1,h⟩:=andD_inv h
  obtain ⟨u,r2,e2,h⟩:=andD_inv h
  obtain ⟨a,r3,e3,h⟩:=andD_inv h
  obtain ⟨d,r4,e4,h⟩:=andD_inv h
  obtain ⟨b,r5,e5,h⟩:=andD_inv h
  simp only [retD,Option.some.injEq,Prod.mk.injEq] at h
  obtain ⟨rfl,rfl⟩:=h
  obtain ⟨a1,b1⟩:=text_rt.rd _ _ _ e1
  obtain ⟨a2,b2⟩:=(list_rt text_ne text_rt).rd _ _ _ e2
  obtain ⟨a3,b3⟩:=(list_rt num_ne num_rt).rd _ _ _ e3
  obtain ⟨a4,b4⟩:=num_rt.rd _ _ _ e4
  obtain ⟨a5,b5⟩:=bytes_rt.rd _ _ _ e5
  refine ⟨⟨a1,a2,a3,a4,a5⟩,?_⟩
  unfold encF
  rw [b1,b2,b3,b4,b5,bytesB]
  simp only [List.append_assoc]
theorem streq_self (a:ByteArray):streq a a = true:=by simp [streq]
theorem decL {α:Type} [DecidableEq α] (a:α):(!decide (a = a)) = false:=by simp
theorem loopL {body:TL → TEnv → TK → Prop} {asg:List Nat} {L:TL} {ρ:TEnv} (n ki:Nat) (hL:L = []) (hk:leC L [] (ρ ki) (.int .i64 0))
  (h:∀ k:Nat,k ≤ n → (k:Int) ≤ 9223372036854775807 → body [] (putsT [ki] [.int .i64 k] (headE asg ρ)) fun L' ρ' => ∃ x':Nat × Unit,(x'.1 ≤ n ∧ True) ∧ holdsT L' [] [ki] [.int .i64 x'.1] ρ' ∧ gives L' [] [] ∧ n - x'.1 < n - k):LoopT body asg L ρ:=by
 subst hL
 exact loopN n ki [] () (fun _ => []) (fun _ => []) (fun _ _ => True) trivial hk trivial trivial (fun _ => rfl) (fun _ => rfl) fun k _ hkn _ _ _ h64 => h k hkn h64
theorem t9 (a:Ifc):CallsT PZ 9 [.agg (ifC a),.agg (ifC a)] [] (Ret [] (.bool true)):=by
 refine callsT_facts Tryz.func9 facts9 rfl fun hw _ => ?_
 have hu:a.uses.length ≤ 9223372036854775807:=by
  have h:=hw.1
  simp only [Wf,ifC,WfS] at h
  have h2:=wf_len (els:=strs a.uses) ⟨h.2.1.1,h.2.1.2⟩
  rwa [strs_len] at h2
 have hg:a.against.length ≤ 9223372036854775807:=by
  have h:=hw.1
  simp only [Wf,ifC,WfS] at h
  have h2:=wf_len (els:=ics a.against) ⟨h.2.2.1.1,h.2.2.1.2⟩
  rwa [ics_len] at h2
 refine brn_split (fun h => ?_) (fun _ => ?_)
 ·rw [streq_self] at h; cases h
 refine brn_split (fun h => ?_) (fun _ => ?_)
 ·rw [decL] at h; cases h
 refine BytesT.mk ⟨a.body,rfl,?_⟩
 refine BytesT.mk ⟨a.body,rfl,?_⟩
 refine brn_split (fun h => ?_) (fun _ => ?_)
 ·rw [streq_self] at h; cases h
 refine brn_split (fun h => ?_) (fun _ => ?_)
 ·rw [decL] at h; cases h
 refine brn_split (fun h => ?_) (fun _ => ?_)
 ·rw [decL] at h; cases h
 refine loopL a.uses.length 5 rfl (same_keys rfl) fun k hk hk64 => ?_
 refine brn_p (fun hlt => ?_) (fun hge => ?_)
 ·have hlt:k < a.uses.length:=by rw [strs_len] at hlt; omega
  refine withGet hlt fun x hx _ => ?_
  refine idxS hx ?_
  refine idxS hx ?_
  refine brn_split (fun h => ?_) (fun _ => ?_)
  ·rw [streq_self] at h; cases h
  refine Fit.in64 (by omega) (by omega) ?_
  exact ⟨(k + 1,()),⟨by omega,trivial⟩,⟨nextI,trivial⟩,trivial,nextM hlt⟩
 refine loopL a.against.length 6 rfl (same_keys rfl) fun k hk hk64 => ?_
 refine brn_p (fun hlt => ?_) (fun hge => ?_)
 ·have hlt:k < a.against.length:=by rw [ics_len] at hlt; omega
  refine withGet hlt fun x hx _ => ?_
  refine idxI hx ?_
  refine idxI hx ?_
  refine brn_split (fun h => ?_) (fun _ => ?_)
  ·rw [decL] at h; cases h
  refine Fit.in64 (by omega) (by omega) ?_
  exact ⟨(k + 1,()),⟨by omega,trivial⟩,⟨nextI,trivial⟩,trivial,nextM hlt⟩
 exact retP rfl rfl
def RangedI (l:List Int):Prop:=∀ x ∈ l,-1073741824 ≤ x ∧ x ≤ 2147483647
def fitGo:List Ifc → List ByteArray → List Int → Bool
 | x :: l,u :: us,a :: ns => streq x.module u && (decide (x.digest = a) && fitGo l us ns)
 | _,_,_ => true
def fitsI (i:Ifc) (l:List Ifc):Bool:=validI i && (decide (l.length = i.uses.length) && fitGo l i.uses i.against)
theorem ifL_len {l:List Ifc}:(l.map ifC).length = l.length:=by simp
theorem t12 (i:Ifc) (l:List Ifc):CallsT PZ 12 [.agg (ifC i),.sl (l.map ifC)] [] (Ret [] (.bool (fitsI i l))):=by
 refine callsT_facts Tryz.func12 facts12 rfl fun hw _ => ?_
 have hl:l.length ≤ 9223372036854775807:=by
  have h2:=wf_len hw.2.1
  rwa [ifL_len] at h2
 refine callP (t60 i) rfl fun _ => ?_
 refine brn_split (fun h => ?_) (fun h => ?_)
 ·have h:validI i = false:=by simpa using h
  exact retP rfl (congrArg C.bool (by rw [fitsI,h]; rfl))
 have hv:validI i = true:=by simpa using h
 have e:(!decide (((l.map ifC).length:Int) = ((strs i.uses).length:Int))) = !decide (l.length = i.uses.length):=by
  rw [ifL_len,strs_len]; exact congrArg not (decide_eq_decide.2 Int.ofNat_inj)
 refine brn_split (fun h => ?_) (fun h => ?_)
 ·have h:¬ l.length = i.uses.length:=by have:=e.symm.trans h; simpa using this
  exact retP rfl (congrArg C.bool (by rw [fitsI,hv,decide_eq_false h]; rfl))
 have hlu:l.length = i.uses.length:=by have:=e.symm.trans h; simpa using this
 have hua:i.uses.length = i.against.length:=by
  simp only [validI,decide_eq_true_eq] at hv
  exact hv.1
 have hfit:fitsI i l = fitGo l i.uses i.against:=by rw [fitsI,hv,decide_eq_true hlu]; rfl
 refine loopN l.length 20 [] () (fun _ => []) (fun _ => []) (fun k _ => fitGo (l.drop k) (i.uses.drop k) (i.against.drop k) = fitGo l i.uses i.against) rfl (same_keys rfl) trivial trivial (fun _ => rfl) (fun _ => rfl) fun k _ hkn hinv _ _ h64 => ?_
 refine brn_p (fun hlt => ?_) (fun hge => ?_)
 ·have hlt:k < l.length:=by rw [ifL_len] at hlt; omega
  refine withDrop hlt fun x hx _ hd => ?_
  refine withDrop (show k < i.uses.length by omega) fun u hu _ hdu => ?_
  refine withDrop (show k < i.against.length by omega) fun a ha _ hda => ?_
  rw [hd,hdu,hda] at hinv
  simp only [fitGo] at hinv
  refine idxT hx rfl rfl ?_
  refine idxS hu ?_
  refine brn_split (fun h => ?_) (fun h => ?_)
  ·have h:streq x.module u = false:=by simpa using h
   rw [h] at hinv
   exact retP rfl (congrArg C.bool (by rw [hfit,← hinv]; rfl))
  have h1:streq x.module u = true:=by simpa using h
  refine idxI ha ?_
  refine brn_split (fun h => ?_) (fun h => ?_)
  ·have h:¬ x.digest = a:=by simpa using h
   rw [h1,decide_eq_false h] at hinv
   exact retP rfl (congrArg C.bool (by rw [hfit,← hinv]; rfl))
  have h2:x.digest = a:=by simpa using h
  rw [h1,decide_eq_true h2] at hinv
  refine Fit.in64 (by omega) (by omega) ?_
  exact ⟨(k + 1,()),⟨by omega,hinv⟩,⟨nextI,trivial⟩,trivial,nextM hlt⟩
 ·have hge:¬ k < l.length:=by rw [ifL_len] at hge; omega
  rw [drop_end hge] at hinv
  exact retP rfl (congrArg C.bool (by rw [hfit,← hinv]; rfl))
open Go.Fr.Try Go.Fr.Dm
theorem dig4_len (bs:List UInt8):(dig4 bs).length = 4:=rfl
theorem seal_len (b:List UInt8):(sealB b).length = b.length + 4:=by simp [sealB,dig4_len]
theorem seal_take (b:List UInt8):(sealB b).take ((sealB b).length - 4) = b:=by
 rw [seal_len,Nat.add_sub_cancel]
 simp [sealB]
theorem enc_eq {i:Ifc} (h:validI i = true):encB i = sealB (encF i):=by unfold encB; rw [h]
theorem dec_enc {i:Ifc} (hv:validI i = true) (ho:okI i):decI (encB i) = (i,0):=by
 rw [enc_eq hv]
 have hl:=seal_len (encF i)
 have e:=if_rt.wr i [] ho
 rw [List.append_nil] at e
 exact decI_5 (by omega) (seal_take _) rfl e ⟨rfl,hv⟩
theorem okI_of {i:Ifc} (hv:validI i = true) (hr:RangedI i.against) (h1:i.module.size < 4611686018427387904) (h2:i.uses.length < 4611686018427387904) (h3:∀ s ∈ i.uses,s.size < 4611686018427387904) (h4:i.against.length < 4611686018427387904) (h5:i.body.length < 4611686018427387904):okI i:=by
 unfold validI at hv
 have hv:=of_decide_eq_true hv
 obtain ⟨d0,d1⟩:=dig_bd i.body
 refine ⟨h1,⟨h2,h3⟩,⟨h4,fun n hn => ?_⟩,okN_of (by omega) (by omega),h5⟩
 have:=hr n hn
 exact okN_of (by omega) (by omega)
end Go.Fr.Tryz
namespace Go.Fr.Tryz
open Go Go.RowKit Go.Proofs Go.Fr Go.Fr.T Go.Fr.Api Go.Fr.Dm
structure SameN (p q:Prog):Prop where
 modules:p.modules = q.modules
 datas:p.datas = q.datas
 traits:p.traits = q.traits
def fI (q:Prog) (n:Int):Ifc:=⟨nm q.modules n,[],[],digM q n,[]⟩
theorem fitGo_map (q:Prog):∀ us:List Int,fitGo (us.map (fI q)) (us.map (nm q.modules)) (us.map (digM q)) = true
 | [] => rfl
 | n :: us => by
  simp only [List.map_cons,fitGo,fitGo_map q us,fI,streq_self,decide_eq_true (rfl:digM q n = digM q n)]
  rfl
theorem fitGo_snoc:∀ {l:List Ifc} {us:List ByteArray} {ns:List Int} {x:Ifc} {u:ByteArray} {a:Int},l.length = us.length → l.length = ns.length →
  fitGo (l ++ [x]) (us ++ [u]) (ns ++ [a]) = (fitGo l us ns && (streq x.module u && decide (x.digest = a)))
 | [],[],[],x,u,a,_,_ => by simp [fitGo]
 | [],[],b :: ns,x,u,a,_,h => by simp at h
 | [],v :: us,ns,x,u,a,h,_ => by simp at h
 | y :: l,[],ns,x,u,a,h,_ => by simp at h
 | y :: l,v :: us,[],x,u,a,_,h => by simp at h
 | y :: l,v :: us,b :: ns,x,u,a,h,h' => by
  simp only [List.cons_append,fitGo]
  rw [fitGo_snoc (by simpa using h) (by simpa using h')]
  cases streq y.module v <;> cases decide (y.digest = b) <;> rfl
theorem last_of {α:Type} {l:List α} (h:0 < l.length):∃ a x,l = a ++ [x] ∧ a.length = l.length - 1:=by
 refine ⟨l.take (l.length - 1),l[l.length - 1]'(by omega),?_,by rw [List.length_take]; omega⟩
 have h1:=List.take_append_drop (l.length - 1) l
 have h2:l.drop (l.length - 1) = [l[l.length - 1]'(by omega)]:=by
  rw [List.drop_eq_getElem_cons (by omega)]
  rw [List.drop_of_length_le (by omega)]
 rw [h2] at h1
 exact h1.symm
theorem fits_all {q:Prog} {us:List Int} {X:Ifc} (hv:validI X = true) (hu:X.uses = us.map (nm q.modules)) (ha:X.against = us.map (digM q)):fitsI X (us.map (fI q)) = true:=by
 rw [fitsI,hv,hu,ha,fitGo_map,decide_eq_true (by simp)]; rfl
theorem fits_len {q:Prog} {us:List Int} {X:Ifc} (hv:validI X = true) (hu:X.uses = us.map (nm q.modules)) {l:List Ifc} (h:l.length ≠ us.length):fitsI X l = false:=by
 rw [fitsI,hv,hu,decide_eq_false (by simpa using h)]; rfl
theorem fits_set {q:Prog} {us:List Int} {X:Ifc} (hv:validI X = true) (hu:X.uses = us.map (nm q.modules)) (ha:X.against = us.map (digM q)) (h:0 < us.length) (y:Ifc):∃ n,us[us.length - 1]? = some n ∧ fitsI X ((us.map (fI q)).set (us.length - 1) y) = (streq y.module (nm q.modules n) && decide (y.digest = digM q n)):=by
 obtain ⟨a,n,e,hl⟩:=last_of h
 have hlen:us.length = a.length + 1:=by rw [e]; simp
 refine ⟨n,by rw [hlen,e]; simp,?_⟩
 have hs:(us.map (fI q)).set (us.length - 1) y = a.map (fI q) ++ [y]:=by
  rw [hlen,e,List.map_append,List.set_append_right _ _ (by simp)]
  simp
 rw [hs,fitsI,hv,hu,ha,e,List.map_append,List.map_append,decide_eq_true (by simp)]
 simp only [List.map_cons,List.map_nil,Bool.true_and]
 rw [fitGo_snoc (by simp) (by simp),fitGo_map]
 rfl
end Go.Fr.Tryz
