/- Part of the proofs of the statements of this seat. -/
import Derived.Test.YtfkgdgfmkocloaaGreatDoorImR12G
import Derived.Test.YtfkgdgfmkocloaaGreatDoorImR1G
import Derived.Test.YtfkgdgfmkocloaaGreatDoorImIds
import Derived.Deep.DeepWitnessRowRef
set_option maxRecDepth 10000
set_option linter.unusedVariables false
set_option linter.unusedSimpArgs false
namespace Go.Fr.Tryz
open Go Go.RowKit Go.Proofs Go.Fr Go.Fr.T Go.Fr.Api
theorem has3 {a b c:UInt8} {l:List UInt8}:hasP (a :: b :: c :: l) [76,72,1] = decide (a = 76 ∧ b = 72 ∧ c = 1):=by
 simp [hasP]
theorem u8_eq {b c:UInt8} (h:(!decide ((b.toNat:Int) = (c.toNat:Int))) = false):b = c:=by
 have h:(b.toNat:Int) = c.toNat:=by simpa using h
 exact UInt8.toNat.inj (by omega)
theorem u8_ne {b c:UInt8} (h:(!decide ((b.toNat:Int) = (c.toNat:Int))) = true):b ≠ c:=by
 rintro rfl
 simp at h
def QF (q:List Api.Data × WS):TL:=[(70,.row 44 5 (q.1.map dataC)),(50,.box 71 [.sl (bcells q.2.1),.bool q.2.2]),(6,.box 25 [.rw 70,.nils,IC 0]),(2,.box 25 [.nils,.nils,IC 0])]
def QE (ds:List Api.Data) (q:List Rout × WS):TL:=[(91,.row 56 9 (q.1.map routC)),(70,.row 44 5 (ds.map dataC)),(50,.box 71 [.sl (bcells q.2.1),.bool q.2.2]),(6,.box 25 [.rw 70,.rw 91,IC 0]),(2,.box 25 [.nils,.nils,IC 0])]
theorem t12 (bs:List UInt8) (hb:bs.length ≤ 1000000):CallsT PZ 12 [.sl (bcells bs)] [] (Ret [] (decC (dec bs))):=by
 refine callsT_facts Tryz.func12 facts12 rfl fun hw ho => ?_
 refine Fit.in64 (by rw [bcells_len]; omega) (by rw [bcells_len]; omega) ?_
 refine brn_p (fun h7 => ?_) (fun h7 => ?_)
 ·have h7:bs.length < 7:=by rw [bcells_len] at h7; omega
  rw [dec_short h7]
  refine retP rfl rfl
 have h7:¬ bs.length < 7:=by rw [bcells_len] at h7; omega
 obtain ⟨b0,b1,b2,tl,rfl⟩:∃ b0 b1 b2 tl,bs = b0 :: b1 :: b2 :: tl:=by
  match bs,h7 with
  | b0 :: b1 :: b2 :: tl,_ => exact ⟨_,_,_,_,rfl⟩
  | [_,_],h => simp at h
  | [_],h => simp at h
  | [],h => simp at h
 refine idxB (k:=0) rfl ?_
 refine brn_split (fun h => ?_) (fun h => ?_)
 ·rw [dec_pre (by rw [has3]; exact decide_eq_false fun q => u8_ne (c:=76) h q.1)]
  exact retP rfl rfl
 refine idxB (k:=1) rfl ?_
 refine brn_split (fun h1 => ?_) (fun h1 => ?_)
 ·rw [dec_pre (by rw [has3]; exact decide_eq_false fun q => u8_ne (c:=72) h1 q.2.1)]
  exact retP rfl rfl
 refine idxB (k:=2) rfl ?_
 refine brn_split (fun h2 => ?_) (fun h2 => ?_)
 ·rw [dec_pre (by rw [has3]; exact decide_eq_false fun q => u8_ne (c:=1) h2 q.2.2)]
  exact retP rfl rfl
 have hp:hasP (b0 :: b1 :: b2 :: tl) [76,72,1] = true:=by
  rw [has3]
  exact decide_eq_true ⟨u8_eq (c:=76) h,u8_eq (c:=72) h1,u8_eq (c:=1) h2⟩
 generalize b0 :: b1 :: b2 :: tl = bs at *
 have hn:(((bcells bs).length:Int) - 4).toNat = bs.length - 4:=by rw [bcells_len]; omega
 have e1:((bcells bs).drop (0:Int).toNat).take ((((bcells bs).length:Int) - 4).toNat - (0:Int).toNat) = bcells (bs.take (bs.length - 4)):=by
  rw [bcells_slice,hn]; rfl
 have e2:((bcells bs).drop (((bcells bs).length:Int) - 4).toNat).take (((bcells bs).length:Int).toNat - (((bcells bs).length:Int) - 4).toNat) = bcells (bs.drop (bs.length - 4)):=by
  rw [bcells_slice,hn,bcells_len,List.take_of_length_le (by simp)]
 have e3:((bcells bs).drop (3:Int).toNat).take ((((bcells bs).length:Int) - 4).toNat - (3:Int).toNat) = bcells ((bs.take (bs.length - 4)).drop 3):=by
  rw [bcells_slice,hn,List.drop_take]; rfl
 refine SlcT.mk (Int.le_refl 0) (by rw [bcells_len]; omega) (by rw [bcells_len]; omega) bcells_sz ?_
 refine SlcT.mk (by rw [bcells_len]; omega) (by rw [bcells_len]; omega) (by rw [bcells_len]; omega) bcells_sz ?_
 refine BytesT.mk ⟨bs.drop (bs.length - 4),e2,?_⟩
 refine callPD (t19 (bs.take (bs.length - 4))) (congrArg (fun q => [C.sl q]) e1) fun _ => ?_
 refine BytesT.mk ⟨dig4 (bs.take (bs.length - 4)),rfl,?_⟩
 refine brn_split (fun h3 => ?_) (fun h3 => ?_)
 ·rw [dec_sum h7 hp (by rw [streq_bytes] at h3; simpa using h3)]
  exact retP rfl rfl
 have h3:dig4 (bs.take (bs.length - 4)) = bs.drop (bs.length - 4):=by rw [streq_bytes] at h3; simpa using h3
 refine SlcT.mk (by decide) (by rw [bcells_len]; omega) (by rw [bcells_len]; omega) bcells_sz ?_
 have hbody:((bs.take (bs.length - 4)).drop 3).length ≤ mxR:=by simp only [List.length_drop,List.length_take,mxR]; omega
 refine kL 50 ((bs.take (bs.length - 4)).drop 3,false) (q34 400) hbody (congrArg (fun q => some [TO.box 71 [.sl q,.bool false]]) e3) rfl rfl fun n s1 g1 => ?_
 have hn4:=LInv.n400 g1 (by omega)
 refine loopN n 8 [] (([],s1):List Api.Data × WS) (fun _ => []) (fun q => QF q) (fun k q => LInv dataE Data.g ((bs.take (bs.length - 4)).drop 3,false) n k q.1 q.2) (linv0 (pos_and (a:=fun d:Api.Data => nameE d.name) (b:=fun d => andE (numsE [d.module,d.params,d.drop]) (listE varE d.variants)) (pos_on (f:=Data.name) pos_name) fun _ => rfl) g1) (same_keys rfl) trivial
  ⟨.inr ⟨rfl,44,5,rfl⟩,.inl ⟨_,rfl,.inl ⟨rfl,rfl⟩⟩,.inl ⟨_,rfl,.inr ⟨25,_,_,rfl,rfl,_,_,rfl,nil_rw rfl rfl,_,_,rfl,same_keys rfl,_,_,rfl,same_keys rfl,rfl⟩⟩,.inl ⟨_,rfl,.inl ⟨rfl,rfl⟩⟩,trivial⟩ (fun _ => rfl) (fun _ => rfl) ?_
 rintro k ⟨a,t⟩ hk hinv _ _ _
 simp only at hinv
 have hak:=hinv.ak
 have bt:=Nat.le_trans hinv.le hbody
 refine brn_p (fun hlt => ?_) (fun hge => ?_)
 ·have hlt:k < n:=by omega
  refine brn_split (fun ok => ?_) (fun bad => ?_)
  ·refine kX 50 t q35 bt rfl rfl rfl rfl fun x t1 h1 _ => ?_
   refine app1r k rfl (by simpa using hak) (by omega) (by omega) ?_
   refine Fit.in64 (by omega) (by omega) ?_
   refine ⟨(k + 1,(a ++ [x],t1)),⟨by omega,linv1 hinv hlt h1⟩,⟨nextI,trivial⟩,⟨.inl ⟨_,rfl,.inl ⟨?_,rfl⟩⟩,.inl ⟨_,rfl,.inl ⟨rfl,rfl⟩⟩,.inl ⟨_,rfl,.inl ⟨rfl,rfl⟩⟩,.inl ⟨_,rfl,.inl ⟨rfl,rfl⟩⟩,trivial⟩,nextM hlt⟩
   exact congrArg (TO.row 44 5) (List.map_append (f:=dataC) (l₁:=a) (l₂:=[x])).symm
  ·skip
   refine kL 50 t (q34 400) bt rfl rfl rfl fun m t1 g => ?_
   have hm:=LInv.n400 g (by omega)
   refine loopN m 9 [] (([],t1):List Rout × WS) (fun _ => []) (fun q => QE a q) (fun j q => LInv routE routG t m j q.1 q.2) (linv0 pos_rout g) (same_keys rfl) trivial
    ⟨.inr ⟨rfl,56,9,rfl⟩,.inl ⟨_,rfl,.inl ⟨rfl,rfl⟩⟩,.inl ⟨_,rfl,.inl ⟨rfl,rfl⟩⟩,.inl ⟨_,rfl,.inr ⟨25,_,_,rfl,rfl,_,_,rfl,same_keys rfl,_,_,rfl,nil_rw rfl rfl,_,_,rfl,same_keys rfl,rfl⟩⟩,.inl ⟨_,rfl,.inl ⟨rfl,rfl⟩⟩,trivial⟩ (fun _ => rfl) (fun _ => rfl) ?_
   rintro j ⟨b,u⟩ hj jinv _ _ _
   simp only at jinv
   have hbk:=jinv.ak
   have bu:=Nat.le_trans jinv.le bt
   refine brn_p (fun jlt => ?_) (fun jge => ?_)
   ·have jlt:j < m:=by omega
    refine brn_split (fun ok2 => ?_) (fun bad2 => ?_)
    ·refine kX 50 u q36 bu rfl rfl rfl rfl fun x u1 i1 _ => ?_
     refine app1r j rfl (by simpa using hbk) (by omega) (by omega) ?_
     refine Fit.in64 (by omega) (by omega) ?_
     refine ⟨(j + 1,(b ++ [x],u1)),⟨by omega,linv1 jinv jlt i1⟩,⟨nextI,trivial⟩,⟨.inl ⟨_,rfl,.inl ⟨?_,rfl⟩⟩,.inl ⟨_,rfl,.inl ⟨rfl,rfl⟩⟩,.inl ⟨_,rfl,.inl ⟨rfl,rfl⟩⟩,.inl ⟨_,rfl,.inl ⟨rfl,rfl⟩⟩,.inl ⟨_,rfl,.inl ⟨rfl,rfl⟩⟩,trivial⟩,nextM jlt⟩
     exact congrArg (TO.row 56 9) (List.map_append (f:=routC) (l₁:=b) (l₂:=[x])).symm
    ·skip
     refine kN 50 u q37 bu rfl rfl rfl fun mn s3 g3 _ => ?_
     have hG:GotI bs ⟨a,b,mn⟩ s3:=img_got (linv_end (sz:=5) hinv (.inr (by simpa using bad))) (linv_end (sz:=9) jinv (.inr (by simpa using bad2))) g3
     refine brn_split (fun bad3 => ?_) (fun ok3 => ?_)
     ·rw [dec_got h7 hp h3 hG (.inl bad3)]
      exact retP rfl rfl
     ·refine BytesT.mk ⟨bs,rfl,?_⟩
      refine callPD (t14 ⟨a,b,mn⟩ (Nat.le_trans (got_bulk hG ok3) (by omega))) rfl fun _ => ?_
      refine BytesT.mk ⟨encB ⟨a,b,mn⟩,rfl,?_⟩
      refine brn_split (fun h5 => ?_) (fun h5 => ?_)
      ·rw [dec_got h7 hp h3 hG (.inr (by rw [streq_bytes] at h5; simpa using h5))]
       exact retP rfl rfl
      ·rw [dec_same h7 (i:=⟨a,b,mn⟩) (by rw [streq_bytes] at h5; simpa using h5)]
       exact retP rfl rfl
   ·skip
    refine kN 50 u q37 bu rfl rfl rfl fun mn s3 g3 _ => ?_
    have hG:GotI bs ⟨a,b,mn⟩ s3:=img_got (linv_end (sz:=5) hinv (.inr (by simpa using bad))) (linv_end (sz:=9) jinv (.inl (by omega))) g3
    refine brn_split (fun bad3 => ?_) (fun ok3 => ?_)
    ·rw [dec_got h7 hp h3 hG (.inl bad3)]
     exact retP rfl rfl
    ·refine BytesT.mk ⟨bs,rfl,?_⟩
     refine callPD (t14 ⟨a,b,mn⟩ (Nat.le_trans (got_bulk hG ok3) (by omega))) rfl fun _ => ?_
     refine BytesT.mk ⟨encB ⟨a,b,mn⟩,rfl,?_⟩
     refine brn_split (fun h5 => ?_) (fun h5 => ?_)
     ·rw [dec_got h7 hp h3 hG (.inr (by rw [streq_bytes] at h5; simpa using h5))]
      exact retP rfl rfl
     ·rw [dec_same h7 (i:=⟨a,b,mn⟩) (by rw [streq_bytes] at h5; simpa using h5)]
      exact retP rfl rfl
 ·skip
  refine kL 50 t (q34 400) bt rfl rfl rfl fun m t1 g => ?_
  have hm:=LInv.n400 g (by omega)
  refine loopN m 9 [] (([],t1):List Rout × WS) (fun _ => []) (fun q => QE a q) (fun j q => LInv routE routG t m j q.1 q.2) (linv0 pos_rout g) (same_keys rfl) trivial
   ⟨.inr ⟨rfl,56,9,rfl⟩,.inl ⟨_,rfl,.inl ⟨rfl,rfl⟩⟩,.inl ⟨_,rfl,.inl ⟨rfl,rfl⟩⟩,.inl ⟨_,rfl,.inr ⟨25,_,_,rfl,rfl,_,_,rfl,same_keys rfl,_,_,rfl,nil_rw rfl rfl,_,_,rfl,same_keys rfl,rfl⟩⟩,.inl ⟨_,rfl,.inl ⟨rfl,rfl⟩⟩,trivial⟩ (fun _ => rfl) (fun _ => rfl) ?_
  rintro j ⟨b,u⟩ hj jinv _ _ _
  simp only at jinv
  have hbk:=jinv.ak
  have bu:=Nat.le_trans jinv.le bt
  refine brn_p (fun jlt => ?_) (fun jge => ?_)
  ·have jlt:j < m:=by omega
   refine brn_split (fun ok2 => ?_) (fun bad2 => ?_)
   ·refine kX 50 u q36 bu rfl rfl rfl rfl fun x u1 i1 _ => ?_
    refine app1r j rfl (by simpa using hbk) (by omega) (by omega) ?_
    refine Fit.in64 (by omega) (by omega) ?_
    refine ⟨(j + 1,(b ++ [x],u1)),⟨by omega,linv1 jinv jlt i1⟩,⟨nextI,trivial⟩,⟨.inl ⟨_,rfl,.inl ⟨?_,rfl⟩⟩,.inl ⟨_,rfl,.inl ⟨rfl,rfl⟩⟩,.inl ⟨_,rfl,.inl ⟨rfl,rfl⟩⟩,.inl ⟨_,rfl,.inl ⟨rfl,rfl⟩⟩,.inl ⟨_,rfl,.inl ⟨rfl,rfl⟩⟩,trivial⟩,nextM jlt⟩
    exact congrArg (TO.row 56 9) (List.map_append (f:=routC) (l₁:=b) (l₂:=[x])).symm
   ·skip
    refine kN 50 u q37 bu rfl rfl rfl fun mn s3 g3 _ => ?_
    have hG:GotI bs ⟨a,b,mn⟩ s3:=img_got (linv_end (sz:=5) hinv (.inl (by omega))) (linv_end (sz:=9) jinv (.inr (by simpa using bad2))) g3
    refine brn_split (fun bad3 => ?_) (fun ok3 => ?_)
    ·rw [dec_got h7 hp h3 hG (.inl bad3)]
     exact retP rfl rfl
    ·refine BytesT.mk ⟨bs,rfl,?_⟩
     refine callPD (t14 ⟨a,b,mn⟩ (Nat.le_trans (got_bulk hG ok3) (by omega))) rfl fun _ => ?_
     refine BytesT.mk ⟨encB ⟨a,b,mn⟩,rfl,?_⟩
     refine brn_split (fun h5 => ?_) (fun h5 => ?_)
     ·rw [dec_got h7 hp h3 hG (.inr (by rw [streq_bytes] at h5; simpa using h5))]
      exact retP rfl rfl
     ·rw [dec_same h7 (i:=⟨a,b,mn⟩) (by rw [streq_bytes] at h5; simpa using h5)]
      exact retP rfl rfl
  ·skip
   refine kN 50 u q37 bu rfl rfl rfl fun mn s3 g3 _ => ?_
   have hG:GotI bs ⟨a,b,mn⟩ s3:=img_got (linv_end (sz:=5) hinv (.inl (by omega))) (linv_end (sz:=9) jinv (.inl (by omega))) g3
   refine brn_split (fun bad3 => ?_) (fun ok3 => ?_)
   ·rw [dec_got h7 hp h3 hG (.inl bad3)]
    exact retP rfl rfl
   ·refine BytesT.mk ⟨bs,rfl,?_⟩
    refine callPD (t14 ⟨a,b,mn⟩ (Nat.le_trans (got_bulk hG ok3) (by omega))) rfl fun _ => ?_
    refine BytesT.mk ⟨encB ⟨a,b,mn⟩,rfl,?_⟩
    refine brn_split (fun h5 => ?_) (fun h5 => ?_)
    ·rw [dec_got h7 hp h3 hG (.inr (by rw [streq_bytes] at h5; simpa using h5))]
     exact retP rfl rfl
    ·rw [dec_same h7 (i:=⟨a,b,mn⟩) (by rw [streq_bytes] at h5; simpa using h5)]
     exact retP rfl rfl
theorem same3 {x y:Img} {b:Bool} (h:tru (x = y) = b):CallsT PZ 15 [.agg (imgC x),.agg (imgC y)] [] (Ret [] (.bool b)):=h ▸ t15 x y
theorem t3 (x y:Img) (bs:List UInt8) (hb:(imgE x).1.length ≤ 6300000) (hbk:(imgG x).bulk ≤ 11000000000000) (hl:bs.length ≤ 1048576):CallsT PZ 3 [.agg (imgC x),.agg (imgC y),.sl (bcells bs)] [] (Ret [] (.bool true)):=by
 have hle:=enc_le hb
 have h13:=t13 x (by omega)
 have h14:=t14 x hbk
 have h11:=t11 bs (by omega)
 have h12:bs.length ≤ 1000000 → CallsT PZ 12 [.sl (bcells bs)] [] (Ret [] (decC (dec bs))):=t12 bs
 have h15:=same3 (x:=(dec bs).1) (y:=(dec bs).1) (tru_yes rfl).symm
 generalize encB x = b at h13 h14
 generalize dec bs = d at h11 h12 h15
 obtain ⟨i,e⟩:=d
 refine callsT_facts Tryz.func3 facts3 rfl fun hw _ => ?_
 refine callP t9 rfl fun _ => ?_
 refine callB (t10 x) rfl fun q _ => ?_
 refine brn_split (fun hq => ?_) (fun hq => ?_)
 ·exact retP rfl rfl
 refine callB (t10 y) rfl fun q2 _ => ?_
 refine brn_split (fun hq2 => ?_) (fun hq2 => ?_)
 ·exact retP rfl rfl
 refine brn_p (fun h0 => ?_) (fun h0 => ?_)
 ·exact retP rfl rfl
 have h0:¬ ((bcells bs).length:Int) > 20000:=h0
 rw [bcells_len] at h0
 refine callP h11 rfl fun _ => ?_
 refine callP (h12 (by omega)) rfl fun _ => ?_
 refine callPD h13 rfl fun _ => ?_
 refine BytesT.mk ⟨b,rfl,?_⟩
 refine callPD h14 rfl fun _ => ?_
 refine BytesT.mk ⟨b,rfl,?_⟩
 refine brn_split (fun q => ?_) (fun q => ?_)
 ·refine brn_p (fun _ => ?_) (fun h => absurd rfl h)
  refine callPD h15 rfl fun _ => ?_
  refine callPD (t16 x y) rfl fun _ => ?_
  refine callPD (t15 x y) rfl fun _ => ?_
  refine retP rfl (congrArg C.bool ?_)
  exact decide_eq_true rfl
 ·exfalso
  rw [streq_bytes,decide_eq_true rfl] at q
  cases q
end Go.Fr.Tryz
namespace Go.Fr.Tryz
open Go Go.RowKit Go.Proofs Go.Fr Go.Fr.T
theorem glob_of_laid {W:World} {p:Prop} (h:p):Glob (frzOf W):=trivial
end Go.Fr.Tryz
