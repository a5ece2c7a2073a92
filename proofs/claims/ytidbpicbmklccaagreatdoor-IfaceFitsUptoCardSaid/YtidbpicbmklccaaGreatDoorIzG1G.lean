/- Part of the proofs of the statements of this seat. -/
import Derived.Test.YtidbpicbmklccaaGreatDoorIzX1G
import Derived.Test.YtidbpicbmklccaaGreatDoorIzP4G
import Derived.Test.YtidbpicbmklccaaGreatDoorFW3
import Derived.Test.YtidbpicbmklccaaGreatDoorRows
import Derived.WideKeyMaps
import Derived.MakeChecks
import Derived.ChangeArms
set_option maxRecDepth 10000
set_option linter.unusedVariables false
set_option linter.unusedSimpArgs false
namespace Go.Fr.Tryz
open Go Go.RowKit Go.Proofs Go.Fr Go.Fr.T Go.Fr.Api Go.Fr.Dm
theorem t18:∀ (t:Ty) (m:Int),0 ≤ m → m ≤ 1000 → CallsT PZ 18 [.agg (tyC t),IC m] [] (Ret [] (IC (few t m)))
 | .mk k i l,m,h0,h1 => by
  have ih:∀ x ∈ l,∀ m':Int,0 ≤ m' → m' ≤ 1000 → CallsT PZ 18 [.agg [IC x.kind,IC x.id,.sl (x.args.map tyC)],IC m'] [] (Ret [] (IC (few x m'))):=fun x hx m' a b => by
   have:=t18 x m' a b
   rw [tyC_eq] at this
   exact this
  have hfb:=few_bd
  rw [tyC_eq,few]
  simp only [Ty.kind,Ty.id,Ty.args]
  generalize hfew:few = few' at ih hfb
  have hfl:∀ x r n,fewL (x :: r) m n = if n ≤ m then fewL r m (n + few' x (m - n)) else n:=by
   intro x r n; rw [fewL,hfew]
  refine callsT_facts Tryz.func18 facts18 rfl fun hw _ => ?_
  refine loopN l.length 6 [5] (1:Int) (fun n => [IC n]) (fun _ => [(2,.box 33 [IC k,IC i,.sl (l.map tyC)])]) (fun k n => fewL (l.drop k) m n = fewL l m 1 ∧ 1 ≤ n ∧ n ≤ m + 1) ⟨rfl,by omega,by omega⟩ (same_keys rfl) ⟨same_keys rfl,trivial⟩ ⟨.inl ⟨_,rfl,.inl ⟨rfl,rfl⟩⟩,trivial⟩ (fun _ => rfl) (fun _ => rfl) ?_
  rintro j n hj ⟨hinv,hn0,hn1⟩ _ _ _
  have hlen:l.length ≤ 9223372036854775807:=wf_lenT hw.1.2.2.1
  refine brn_p (fun hlt => ?_) (fun hge => ?_)
  ·have hlt:j < l.length:=by simpa using hlt
   have hd:=drop_cons hlt
   have hx:=hd.choose_spec.1
   have hdr:=hd.choose_spec.2
   generalize hd.choose = x at hx hdr
   refine brn_p (fun hle => ?_) (fun hgt => ?_)
   ·refine idxTy hx ?_
    refine Fit.in64 (by omega) (by omega) ?_
    refine callP (ih x (List.mem_of_getElem? hx) (m - n) (by omega) (by omega)) rfl fun _ => ?_
    have hb:=hfb x (m - n) (by omega)
    refine Fit.in64 (by omega) (by omega) ?_
    refine Fit.in64 (by omega) (by omega) ?_
    refine ⟨(j + 1,n + few' x (m - n)),⟨hlt,?_,by omega,by omega⟩,⟨nextI,same_keys rfl,trivial⟩,⟨.inl ⟨_,rfl,.inl ⟨rfl,rfl⟩⟩,trivial⟩,nextM hlt⟩
    rw [hdr,hfl,if_pos hle] at hinv
    exact hinv
   ·refine retP rfl ?_
    rw [fewL_stop hgt] at hinv
    exact congrArg IC hinv
  ·have hge:¬ j < l.length:=by simpa using hge
   rw [drop_end hge] at hinv
   refine retP rfl ?_
   rw [fewL] at hinv
   exact congrArg IC hinv
termination_by t => SizeOf.sizeOf t
decreasing_by
 have:=List.sizeOf_lt_of_mem hx
 simp only [Ty.mk.sizeOf_spec]
 omega
theorem t19 (l:List Ty):CallsT PZ 19 [.sl (l.map tyC)] [] (Ret [] (.bool (smallL l))):=by
 have h31:∀ x:Ty,CallsT PZ 18 [.agg [IC x.kind,IC x.id,.sl (x.args.map tyC)],IC 30] [] (Ret [] (IC (few x 30))):=fun x => by
  have:=t18 x 30 (by omega) (by omega)
  rw [tyC_eq] at this
  exact this
 have hsm:smallL l = (l.all (fun t => decide (few t 30 ≤ 30)) && decide ((l.length:Int) ≤ 8)):=rfl
 generalize few = fw at h31 hsm
 refine callsT_facts Tryz.func19 facts19 rfl fun hw _ => ?_
 have hlen:l.length ≤ 9223372036854775807:=wf_lenT hw.1
 refine loopN l.length 3 [] () (fun _ => []) (fun _ => []) (fun k _ => (l.drop k).all (fun t => decide (fw t 30 ≤ 30)) = l.all (fun t => decide (fw t 30 ≤ 30))) rfl (same_keys rfl) trivial trivial (fun _ => rfl) (fun _ => rfl) ?_
 rintro k _ hk hinv _ _ _
 refine brn_p (fun hlt => ?_) (fun hge => ?_)
 ·have hlt:k < l.length:=by simpa using hlt
  have hd:=drop_cons hlt
  have hx:=hd.choose_spec.1
  have hdr:=hd.choose_spec.2
  generalize hd.choose = x at hx hdr
  refine idxTy hx ?_
  refine callP (h31 x) rfl fun _ => ?_
  rw [hdr,List.all_cons] at hinv
  refine brn_p (fun hgt => ?_) (fun hle => ?_)
  ·have hdc:decide (fw x 30 ≤ 30) = false:=decide_eq_false (by omega)
   rw [hdc,Bool.false_and] at hinv
   have e:false = smallL l:=by rw [hsm,← hinv,Bool.false_and]
   exact retP rfl (congrArg C.bool e)
  ·refine Fit.in64 (by omega) (by omega) ?_
   have hdc:decide (fw x 30 ≤ 30) = true:=decide_eq_true (by omega)
   rw [hdc,Bool.true_and] at hinv
   exact ⟨(k + 1,()),⟨hlt,hinv⟩,⟨nextI,trivial⟩,trivial,nextM hlt⟩
 ·have hge:¬ k < l.length:=by simpa using hge
  rw [drop_end hge,List.all_nil] at hinv
  have e:decide (((l.map tyC).length:Int) ≤ 8) = smallL l:=by rw [hsm,← hinv,Bool.true_and,List.length_map]
  exact retP rfl (congrArg C.bool e)
theorem t18' (x:Ty):CallsT PZ 18 [.agg [IC x.kind,IC x.id,.sl (x.args.map tyC)],IC 30] [] (Ret [] (IC (few x 30))):=by
 have:=t18 x 30 (by omega) (by omega)
 rw [tyC_eq] at this
 exact this
theorem t7 (f:Fun):CallsT PZ 7 [.agg (funC f)] [] (Such True):=by
 have h31:=t18'
 have h10:=t19
 generalize few = fw at h31
 generalize smallL = sm at h10
 refine callsT_facts Tryz.func7 facts7 rfl fun hw _ => ?_
 have hw:=hw.1
 have hl1:f.locals.length ≤ 9223372036854775807:=wf_lenM hw.2.2.2.2.2.2.2.2.1
 have hl2:f.blocks.length ≤ 9223372036854775807:=wf_lenM hw.2.2.2.2.2.2.2.2.2.1
 have hlb:∀ b ∈ f.blocks,b.code.length ≤ 9223372036854775807:=fun b hb => wf_lenM (wf_map hw.2.2.2.2.2.2.2.2.2.1 b hb).1
 refine brn_p (fun _ => ?_) (fun _ => ?_)
 ·exact retB false rfl rfl (fun _ => trivial)
 refine brn_p (fun _ => ?_) (fun _ => ?_)
 ·exact retB false rfl rfl (fun _ => trivial)
 refine brn_p (fun _ => ?_) (fun _ => ?_)
 ·exact retB false rfl rfl (fun _ => trivial)
 refine brn_p (fun _ => ?_) (fun _ => ?_)
 ·exact retB false rfl rfl (fun _ => trivial)
 refine callP (h31 f.result) rfl fun _ => ?_
 refine brn_p (fun _ => ?_) (fun _ => ?_)
 ·exact retB false rfl rfl (fun _ => trivial)
 refine loopN f.locals.length 3 [] () (fun _ => []) (fun _ => [(1,.box 36 (funC f))]) (fun _ _ => True) trivial (same_keys rfl) trivial ⟨.inl ⟨_,rfl,.inl ⟨rfl,rfl⟩⟩,trivial⟩ (fun _ => rfl) (fun _ => rfl) ?_
 rintro k _ hk _ _ _ _
 refine brn_p (fun hlt => ?_) (fun hge => ?_)
 ·have hlt:k < f.locals.length:=by simpa using hlt
  refine withGet hlt fun x hx _ => ?_
  refine idxTy hx ?_
  refine callP (h31 _) rfl fun _ => ?_
  refine brn_p (fun _ => ?_) (fun _ => ?_)
  ·exact retB false rfl rfl (fun _ => trivial)
  refine Fit.in64 (by omega) (by omega) ?_
  exact ⟨(k + 1,()),⟨hlt,trivial⟩,⟨nextI,trivial⟩,⟨.inl ⟨_,rfl,.inl ⟨rfl,rfl⟩⟩,trivial⟩,nextM hlt⟩
 refine loopN f.blocks.length 4 [] () (fun _ => []) (fun _ => [(1,.box 36 (funC f))]) (fun _ _ => True) trivial (same_keys rfl) trivial ⟨.inl ⟨_,rfl,.inl ⟨rfl,rfl⟩⟩,trivial⟩ (fun _ => rfl) (fun _ => rfl) ?_
 rintro k _ hk _ _ _ _
 refine brn_p (fun hlt => ?_) (fun hge => ?_)
 ·have hlt:k < f.blocks.length:=by simpa using hlt
  refine withGet hlt fun b hbx hbm => ?_
  have hbl:=hlb b hbm
  refine idxT hbx rfl rfl ?_
  refine brn_p (fun _ => ?_) (fun _ => ?_)
  ·exact retB false rfl rfl (fun _ => trivial)
  refine idxT hbx rfl rfl ?_
  refine brn_p (fun _ => ?_) (fun _ => ?_)
  ·exact retB false rfl rfl (fun _ => trivial)
  refine loopN b.code.length 5 [4] () (fun _ => [IC k]) (fun _ => [(1,.box 36 (funC f))]) (fun _ _ => True) trivial (same_keys rfl) ⟨same_keys rfl,trivial⟩ ⟨.inl ⟨_,rfl,.inl ⟨rfl,rfl⟩⟩,trivial⟩ (fun _ => rfl) (fun _ => rfl) ?_
  rintro j _ hj _ _ _ _
  refine idxT hbx rfl rfl ?_
  refine brn_p (fun hlt' => ?_) (fun hge => ?_)
  ·have hlt':j < b.code.length:=by simpa using hlt'
   refine idxT hbx rfl rfl ?_
   refine withGet hlt' fun y hy _ => ?_
   refine idxT hy rfl rfl ?_
   refine brn_p (fun _ => ?_) (fun _ => ?_)
   ·exact retB false rfl rfl (fun _ => trivial)
   refine callP (h10 _) rfl fun _ => ?_
   refine brn_split (fun _ => ?_) (fun _ => ?_)
   ·exact retB false rfl rfl (fun _ => trivial)
   refine Fit.in64 (by omega) (by omega) ?_
   exact ⟨(j + 1,()),⟨hlt',trivial⟩,⟨nextI,same_keys rfl,trivial⟩,⟨.inl ⟨_,rfl,.inl ⟨rfl,rfl⟩⟩,trivial⟩,nextM hlt'⟩
  refine Fit.in64 (by omega) (by omega) ?_
  exact ⟨(k + 1,()),⟨hlt,trivial⟩,⟨nextI,trivial⟩,⟨.inl ⟨_,rfl,.inl ⟨rfl,rfl⟩⟩,trivial⟩,nextM hlt⟩
 exact retB true rfl rfl (fun _ => trivial)
theorem t17 (q:Prog):CallsT PZ 17 [.agg (progC q)] [] (Such True):=by
 have h31:=t18'
 have h11:=t7
 generalize few = fw at h31
 refine callsT_facts Tryz.func17 facts17 rfl fun hw _ => ?_
 have hw:=hw.1
 have l1:q.datas.length ≤ 9223372036854775807:=wf_lenM hw.2.2.1
 have l3:q.funcs.length ≤ 9223372036854775807:=wf_lenM hw.2.2.2.2.2.2.1
 refine brn_p (fun _ => ?_) (fun _ => ?_)
 ·exact retB false rfl rfl (fun _ => trivial)
 refine brn_p (fun _ => ?_) (fun _ => ?_)
 ·exact retB false rfl rfl (fun _ => trivial)
 refine brn_p (fun _ => ?_) (fun _ => ?_)
 ·exact retB false rfl rfl (fun _ => trivial)
 refine loopN q.datas.length 3 [] () (fun _ => []) (fun _ => [(1,.box 29 (progC q))]) (fun _ _ => True) trivial (same_keys rfl) trivial ⟨.inl ⟨_,rfl,.inl ⟨rfl,rfl⟩⟩,trivial⟩ (fun _ => rfl) (fun _ => rfl) ?_
 rintro k _ hk _ _ _ _
 refine brn_p (fun hlt => ?_) (fun hge => ?_)
 ·have hlt:k < q.datas.length:=by simpa using hlt
  refine withGet hlt fun d hd hdm => ?_
  have hwd:=wf_map hw.2.2.1 d hdm
  have lv:d.variants.length ≤ 9223372036854775807:=wf_lenM hwd.2.2.2.1
  refine idxT hd rfl rfl ?_
  refine brn_p (fun _ => ?_) (fun _ => ?_)
  ·exact retB false rfl rfl (fun _ => trivial)
  refine loopN d.variants.length 4 [3] () (fun _ => [IC k]) (fun _ => [(1,.box 29 (progC q))]) (fun _ _ => True) trivial (same_keys rfl) ⟨same_keys rfl,trivial⟩ ⟨.inl ⟨_,rfl,.inl ⟨rfl,rfl⟩⟩,trivial⟩ (fun _ => rfl) (fun _ => rfl) ?_
  rintro j _ hj _ _ _ _
  refine idxT hd rfl rfl ?_
  refine brn_p (fun hlt' => ?_) (fun hge => ?_)
  ·have hlt':j < d.variants.length:=by simpa using hlt'
   refine withGet hlt' fun v hv hvm => ?_
   have lf:v.fields.length ≤ 9223372036854775807:=wf_lenM (wf_map hwd.2.2.2.1 v hvm).2.1
   refine idxT hd rfl rfl ?_
   refine idxT hv rfl rfl ?_
   refine brn_p (fun _ => ?_) (fun _ => ?_)
   ·exact retB false rfl rfl (fun _ => trivial)
   refine loopN v.fields.length 6 [3,4,5] () (fun _ => [IC k,IC j,.sl (v.fields.map tyC)]) (fun _ => [(1,.box 29 (progC q))]) (fun _ _ => True) trivial (same_keys rfl) ⟨same_keys rfl,same_keys rfl,same_keys rfl,trivial⟩ ⟨.inl ⟨_,rfl,.inl ⟨rfl,rfl⟩⟩,trivial⟩ (fun _ => rfl) (fun _ => rfl) ?_
   rintro i _ hi _ _ _ _
   refine brn_p (fun hlt2 => ?_) (fun hge => ?_)
   ·have hlt2:i < v.fields.length:=by simpa using hlt2
    refine withGet hlt2 fun t ht _ => ?_
    refine idxTy ht ?_
    refine callP (h31 t) rfl fun _ => ?_
    refine brn_p (fun _ => ?_) (fun _ => ?_)
    ·exact retB false rfl rfl (fun _ => trivial)
    refine Fit.in64 (by omega) (by omega) ?_
    exact ⟨(i + 1,()),⟨hlt2,trivial⟩,⟨nextI,same_keys rfl,same_keys rfl,same_keys rfl,trivial⟩,⟨.inl ⟨_,rfl,.inl ⟨rfl,rfl⟩⟩,trivial⟩,nextM hlt2⟩
   refine Fit.in64 (by omega) (by omega) ?_
   exact ⟨(j + 1,()),⟨hlt',trivial⟩,⟨nextI,same_keys rfl,trivial⟩,⟨.inl ⟨_,rfl,.inl ⟨rfl,rfl⟩⟩,trivial⟩,nextM hlt'⟩
  refine Fit.in64 (by omega) (by omega) ?_
  exact ⟨(k + 1,()),⟨hlt,trivial⟩,⟨nextI,trivial⟩,⟨.inl ⟨_,rfl,.inl ⟨rfl,rfl⟩⟩,trivial⟩,nextM hlt⟩
 refine loopN q.funcs.length 7 [] () (fun _ => []) (fun _ => [(1,.box 29 (progC q))]) (fun _ _ => True) trivial (same_keys rfl) trivial ⟨.inl ⟨_,rfl,.inl ⟨rfl,rfl⟩⟩,trivial⟩ (fun _ => rfl) (fun _ => rfl) ?_
 rintro k _ hk _ _ _ _
 refine brn_p (fun hlt => ?_) (fun hge => ?_)
 ·have hlt:k < q.funcs.length:=by simpa using hlt
  refine withGet hlt fun f hf _ => ?_
  refine idxT hf rfl rfl ?_
  refine callB (h11 f) rfl fun b _ => ?_
  refine brn_split (fun _ => ?_) (fun _ => ?_)
  ·exact retB false rfl rfl (fun _ => trivial)
  refine Fit.in64 (by omega) (by omega) ?_
  exact ⟨(k + 1,()),⟨hlt,trivial⟩,⟨nextI,trivial⟩,⟨.inl ⟨_,rfl,.inl ⟨rfl,rfl⟩⟩,trivial⟩,nextM hlt⟩
 exact retB true rfl rfl (fun _ => trivial)
end Go.Fr.Tryz
namespace Go.Fr.Tryz
open Go Go.RowKit Go.Proofs Go.Fr Go.Fr.T Go.Fr.Api
theorem t8z:CallsT PZ 8 [.agg [.sl [],.sl [],.sl [],.sl [],.sl [],.sl [],.sl [],IC 0],IC 0,.sl []] [] (Ret [] (.tup [.agg (ifC zI),IC 1])):=by
 refine callsT_facts Tryz.func8 facts8 rfl fun hw _ => ?_
 refine ⟨by decide,?_⟩
 exact retP rfl rfl
def exE:List UInt8:=[2,109,0,0,174,191,214,6,2,1]
theorem vint_s {z:Nat} (h:z < 128):vint z = [UInt8.ofNat z]:=by rw [vint,dif_pos h]
theorem vint_l {z:Nat} (h:¬ z < 128):vint z = UInt8.ofNat (128 + z % 128) :: vint (z / 128):=by rw [vint,dif_neg h]
theorem n0:numB 0 = [0]:=vint_s (by decide)
theorem n1:numB 1 = [2]:=vint_s (by decide)
theorem n7:numB 7000023 = [174,191,214,6]:=by
 show vint 14000046 = _
 rw [vint_l (by decide),vint_l (by decide),vint_l (by decide),vint_s (by decide)]
 rfl
theorem exI_enc:encF exI = exE:=by
 unfold encF exI textB listB
 simp only [List.map_nil,List.flatten_nil,List.length_nil,List.length_cons,List.append_nil]
 rw [show (((ByteArray.mk #[109]).size:Nat):Int) = 1 from rfl,show (((0 + 1:Nat)):Int) = 1 from rfl,show ((0:Nat):Int) = 0 from rfl,n0,n1,n7]
 rfl
theorem exI_ok:validI exI = true:=by decide +kernel
def exB:List UInt8:=exE ++ [42,104,50,138]
theorem exB_eq:encB exI = exB:=by
 rw [enc_eq exI_ok,exI_enc]
 decide +kernel
theorem ex_dec:decI exB = (exI,0):=by
 rw [← exB_eq]
 exact dec_enc exI_ok (okI_of exI_ok (fun n hn => by cases hn) (by decide) (by decide) (fun s hs => by cases hs) (by decide) (by decide))
theorem ex_cut:decI (exB.take 13) = (zI,17):=decI_2 (s:=exB.take 9) (by decide) (by decide) (by decide +kernel)
theorem dec_nil:decI [] = (zI,16):=decI_1 (by decide)
def badI:Ifc:={ exI with digest:=1 }
theorem bad_no:validI badI = false:=by decide +kernel
theorem bad_enc:encB badI = []:=by unfold encB; rw [bad_no]
theorem h15a:CallsT PZ 13 [.agg (ifC exI)] [] (Ret [] (.sl (bcells exB))):=exB_eq ▸ t13 exI (by rw [exI_enc]; decide)
theorem len_bad:(encF badI).length ≤ 100:=by
 unfold encF badI exI textB listB
 simp only [List.map_nil,List.flatten_nil,List.length_nil,List.length_cons,List.append_nil]
 rw [show (((ByteArray.mk #[109]).size:Nat):Int) = 1 from rfl,show (((0 + 1:Nat)):Int) = 1 from rfl,show ((0:Nat):Int) = 0 from rfl,n0,n1]
 decide
theorem h15b:CallsT PZ 13 [.agg (ifC badI)] [] (Ret [] (.sl (bcells []))):=bad_enc ▸ t13 badI (by have:=len_bad; omega)
theorem h11a:CallsT PZ 16 [.sl (bcells exB)] [] (Ret [] (.tup [.agg (ifC exI),IC 0])):=by
 have:=t16 exB (by decide)
 rwa [ex_dec] at this
theorem h11b:CallsT PZ 16 [.sl (bcells (exB.take 13))] [] (Ret [] (.tup [.agg (ifC zI),IC 17])):=by
 have:=t16 (exB.take 13) (by decide)
 rwa [ex_cut] at this
theorem h11c:CallsT PZ 16 [.sl (bcells [])] [] (Ret [] (.tup [.agg (ifC zI),IC 16])):=by
 have:=t16 [] (by decide)
 rwa [dec_nil] at this
theorem h17a:CallsT PZ 12 [.agg (ifC exI),.sl ([].map ifC)] [] (Ret [] (.bool true)):=by
 have:=t12 exI []
 rwa [show fitsI exI [] = true by decide +kernel] at this
theorem h17b:CallsT PZ 12 [.agg (ifC exI),.sl ([exI].map ifC)] [] (Ret [] (.bool false)):=by
 have:=t12 exI [exI]
 rwa [show fitsI exI [exI] = false by decide +kernel] at this
theorem h22:CallsT PZ 15 [.sl (bcells (exB.take 10))] [] (Ret [] (IC 711471754)):=by
 have:=t15 (exB.take 10)
 rwa [show dig (exB.take 10) = 711471754 by decide +kernel] at this
set_option maxRecDepth 20000 in
theorem t5:CallsT PZ 5 [] [] (Ret [] (.bool true)):=by
 refine callsT_facts Tryz.func5 facts5 rfl fun hw _ => ?_
 refine callP t14 rfl fun _ => ?_
 refine callP h15a rfl fun _ => ?_
 refine SlcT.mk (by omega) (by omega) (by decide) bcells_sz ?_
 refine callP h22 rfl fun _ => ?_
 refine idxB (bs:=exB) (k:=10) (x:=42) rfl ?_
 refine Fit.to (m:=42) rfl ?_
 refine Fit.to (m:=704643072) rfl ?_
 refine idxB (bs:=exB) (k:=11) (x:=104) rfl ?_
 refine Fit.to (m:=104) rfl ?_
 refine Fit.to (m:=6815744) rfl ?_
 refine Fit.to (m:=711458816) rfl ?_
 refine idxB (bs:=exB) (k:=12) (x:=50) rfl ?_
 refine Fit.to (m:=50) rfl ?_
 refine Fit.to (m:=12800) rfl ?_
 refine Fit.to (m:=711471616) rfl ?_
 refine idxB (bs:=exB) (k:=13) (x:=138) rfl ?_
 refine Fit.to (m:=138) rfl ?_
 refine Fit.to (m:=711471754) rfl ?_
 refine callP h11a rfl fun _ => ?_
 refine SlcT.mk (by omega) (by omega) (by decide) bcells_sz ?_
 refine callP h11b rfl fun _ => ?_
 refine callP h11c rfl fun _ => ?_
 refine callP t8z rfl fun _ => ?_
 refine callP t14 rfl fun _ => ?_
 refine SlcT.mk (by omega) (by omega) (by decide) bcells_sz ?_
 refine BytesT.mk ⟨exB.take 10,rfl,?_⟩
 refine BytesT.mk ⟨exE,rfl,?_⟩
 refine callPD t14 rfl fun _ => ?_
 refine callPD (t9 exI) rfl fun _ => ?_
 refine callP h15b rfl fun _ => ?_
 refine callP t14 rfl fun _ => ?_
 refine callP h17a rfl fun _ => ?_
 refine callP t14 rfl fun _ => ?_
 refine callP t14 rfl fun _ => ?_
 refine callP h17b rfl fun _ => ?_
 exact retP rfl rfl
end Go.Fr.Tryz
namespace Go.Fr.Tryz
open Go Go.RowKit Go.Proofs Go.Fr Go.Fr.T Go.Fr.Api Go.Fr.Dm
theorem t6 (q:Prog):CallsT PZ 6 [.agg (progC q)] [] (Such True):=by
 have hul:(q.uses.map fun l => [C.sl (ics l)]).length = q.uses.length:=by simp
 refine callsT_facts Tryz.func6 facts6 rfl fun hw _ => ?_
 have hwu:=wf_len hw.1.2.1
 refine loopN q.uses.length 3 [] () (fun _ => []) (fun _ => []) (fun _ _ => True) trivial (same_keys rfl) trivial trivial (fun _ => rfl) (fun _ => rfl) fun k _ hk _ _ _ h64 => ?_
 refine brn_p (fun hlt => ?_) (fun hge => ?_)
 ·have hlt:(k:Int) < ((q.uses.map fun l => [C.sl (ics l)]).length:Int):=hlt
  have hlt:k < q.uses.length:=by omega
  refine withGet hlt fun x hx _ => ?_
  refine idxT (f:=fun l => [C.sl (ics l)]) hx rfl rfl ?_
  refine brn_p (fun h1 => ?_) (fun h1 => ?_)
  ·exact retB false rfl rfl fun _ => trivial
  refine Fit.in64 (by omega) (by omega) ?_
  exact ⟨(k + 1,()),⟨by omega,trivial⟩,⟨nextI,trivial⟩,trivial,nextM hlt⟩
 refine callB (t17 q) rfl fun b _ => ?_
 refine brn_split (fun _ => ?_) (fun _ => ?_)
 ·refine brn_split (fun _ => ?_) (fun _ => ?_)
  ·refine brn_split (fun _ => ?_) (fun _ => ?_)
   ·exact retB _ rfl rfl fun _ => trivial
   ·exact retB _ rfl rfl fun _ => trivial
  ·exact retB _ rfl rfl fun _ => trivial
 ·exact retB _ rfl rfl fun _ => trivial
structure MkFacts (q:Prog) (m:Int) (ag:List Int) (us:List Int) (M:ByteArray) (names:List ByteArray):Prop where
 m0:0 ≤ m
 m1:m < q.modules.length
 m2:m < q.uses.length
 mod:q.modules[m.toNat]? = some M
 uses:q.uses[m.toNat]? = some us
 len:names.length = us.length
 alen:ag.length = us.length
 at_:∀ (k:Nat) (n:Int),us[k]? = some n → 0 ≤ n ∧ n < q.modules.length ∧ ∃ s,q.modules[n.toNat]? = some s ∧ names[k]? = some s
structure SzQ (q:Prog) (m:Int):Prop where
 body:WfS (progC q) → (bodyOf q m).length ≤ 2 ^ 46
 enc:WfS (progC q) → ∀ name,elem q.modules m = some name → (encModule q name m).length ≤ 2 ^ 46
 d:q.datas.length ≤ 1048576
 i:q.impls.length ≤ 1048576
 f:q.funcs.length ≤ 1048576
 u:(usesOf q m).length ≤ 1048576
 l:∀ f ∈ q.funcs,f.locals.length ≤ 1048576
theorem szQ {q:Prog} (hq:q.g.bulk ≤ 1048576) (m:Int):SzQ q m:=by
 have hns:=names_of hq
 have e:q.g.bulk = 9 + G.bulkAll (q.modules.map .str) + G.bulkAll (q.uses.map fun l => .sl 1 (l.map I)) + G.bulkAll (q.datas.map Data.g) + G.bulkAll (q.traits.map .str) + G.bulkAll (q.homes.map I) + G.bulkAll (q.impls.map Impl.g) + G.bulkAll (q.funcs.map Fun.g):=by
  simp only [Prog.g,G.bulk,G.bulkAll]; omega
 have a1:=bulk_map (f:=Data.g) q.datas
 have a2:=bulk_map (f:=Impl.g) q.impls
 have a3:=bulk_map (f:=Fun.g) q.funcs
 refine ⟨fun hw => encModule_le hq hw (nm_le (fun s hs => hns.1 s hs) m) m,fun hw name hn => encModule_le hq hw (hns.1 name (elem_mem hn)) m,by omega,by omega,by omega,?_,fun f hf => ?_⟩
 ·unfold usesOf
  rw [List.getD_eq_getElem?_getD]
  cases hx:q.uses[m.toNat]? with
  | none => simp
  | some x =>
   have h1:=Dm.bulk_mem (g:=fun l => G.sl 1 (l.map I)) (List.mem_of_getElem? hx)
   have h2:=bulk_sl (f:=I) x (sz:=1)
   simp only [Option.getD_some]
   omega
 ·have h1:=Dm.bulk_mem (g:=Fun.g) hf
  have h2:=bulk_map (f:=Ty.g) f.locals
  have h3:f.g.bulk = (Fun.g f).bulk:=rfl
  simp only [Fun.g,G.bulk,G.bulkAll] at h1
  omega
theorem t8q (q:Prog) (m:Int) (ag:List Int) (h:SzQ q m) (h4:ag.length ≤ 2 ^ 30) (hw:WfS (progC q)):CallsT PZ 8 [.agg (progC q),IC m,.sl (ics ag)] [] (Ret [] (.tup [.agg (ifC (mkI q m ag).1),IC (mkI q m ag).2])):=by
 have:=h.d; have:=h.i; have:=h.f; have:=h.u
 exact t8 q m ag (h.body hw) (by omega) (by omega) (by omega) h4 (by omega)
theorem valid_mk {q:Prog} {m:Int} {ag:List Int} (h:ag.length = (usesOf q m).length):validI ⟨nm q.modules m,(usesOf q m).map (nm q.modules),ag,dig (bodyOf q m),bodyOf q m⟩ = true :=
 decide_eq_true ⟨by simp [h],rfl⟩
theorem rowStO {els:List (List C)} {j off n:Nat} {es0:List C} {K:List C → Prop} (h:els[j]? = some es0) (hl:lenC? ((es0.drop off).take n) n = true) (k:K es0):RowT els j off n fun _ => ∀ es,els[j]? = some es → K es :=
 ⟨es0,h,hl,fun es he => by rw [h] at he; injection he with he; rw [← he]; exact k⟩
theorem rowLdO {els:List (List C)} {j off n:Nat} {es0:List C} {K:List C → Prop} (h:els[j]? = some es0) (hl:lenC? ((es0.drop off).take n) n = true) (k:K ((es0.drop off).take n)):RowT els j off n K:=⟨es0,h,hl,k⟩
theorem ifC_len {l:List Ifc}:∀ es ∈ l.map ifC,es.length = 5:=by
 intro es h
 obtain ⟨i,_,rfl⟩:=List.mem_map.1 h
 rfl
theorem fits_at {q:Prog} {us:List Int} {X:Ifc} {n:Int} (hv:validI X = true) (hu:X.uses = us.map (nm q.modules)) (ha:X.against = us.map (digM q)) (h:0 < us.length) (hn:us[us.length - 1]? = some n) (y:Ifc) :
  fitsI X ((us.map (fI q)).set (us.length - 1) y) = (streq y.module (nm q.modules n) && decide (y.digest = digM q n)):=by
 obtain ⟨n',h1,h2⟩:=fits_set hv hu ha h y
 rw [hn] at h1
 injection h1 with h1
 rw [h1]
 exact h2
def FsL (xs:List Ifc) (ds:List Int):TL:=[(81,.row 42 5 (xs.map ifC)),(86,.row 3 1 (ics ds))]
set_option maxRecDepth 20000 in
theorem t4w (q:Prog) (m:Int) (name:ByteArray) (us:List Int) (X:Ifc) (hU:0 ≤ m → m < q.uses.length → q.uses[m.toNat]? = some us) (hus:us.length ≤ 1048576)
  (h11:WfS (progC q) → ∀ n,CallsT PZ 11 [.agg (progC q),IC n] [] (Ret [] (IC (digM q n))))
  (h8:WfS (progC q) → 0 ≤ m → m < q.modules.length → m < q.uses.length → inRange q us = true → CallsT PZ 8 [.agg (progC q),IC m,.sl (ics (us.map (digM q)))] [] (Ret [] (.tup [.agg (ifC X),IC 0])))
  (hd:∀ n,0 ≤ digM q n ∧ digM q n < 2147483648)
  (hX:inRange q us = true → validI X = true ∧ X.uses = us.map (nm q.modules) ∧ X.against = us.map (digM q)) (hfit:∀ l,CallsT PZ 12 [.agg (ifC X),.sl (l.map ifC)] [] (Ret [] (.bool (fitsI X l)))) :
  CallsT PZ 4 [.agg (progC q),IC m,.str name] [] (Ret [] (.bool true)):=by
 have hml:(scs q.modules).length = q.modules.length:=by simp [scs]
 have hul:(q.uses.map fun l => [C.sl (ics l)]).length = q.uses.length:=by simp
 have huu:(ics us).length = us.length:=by simp [ics]
 refine callsT_facts Tryz.func4 facts4 rfl fun hw _ => ?_
 refine callP t5 rfl fun _ => ?_
 refine callB (t6 q) rfl fun b1 _ => ?_
 refine brn_split (fun _ => ?_) (fun _ => ?_)
 ·exact retP rfl rfl
 refine brn_p (fun _ => ?_) (fun h0 => ?_)
 ·exact retP rfl rfl
 refine brn_p (fun _ => ?_) (fun h1 => ?_)
 ·exact retP rfl rfl
 have h1:¬ (q.modules.length:Int) ≤ m:=by rw [← hml]; exact h1
 refine brn_p (fun _ => ?_) (fun h2 => ?_)
 ·exact retP rfl rfl
 have h2:¬ (q.uses.length:Int) ≤ m:=by rw [← hul]; exact h2
 have hux:=hU (by omega) (by omega)
 refine loopN us.length 10 [8,9] (([],[]):List Ifc × List Int) (fun _ => [.rw 81,.rw 86]) (fun y => FsL y.1 y.2) (fun k y => y.1 = (us.take k).map (fI q) ∧ y.2 = (us.take k).map (digM q) ∧ inRange q (us.take k) = true) ⟨rfl,rfl,rfl⟩
  (same_keys rfl) ⟨nil_rw rfl rfl,nil_rw rfl rfl,trivial⟩ ⟨.inr ⟨rfl,42,5,rfl⟩,.inr ⟨rfl,3,1,rfl⟩,trivial⟩ (fun _ => rfl) (fun _ => rfl) ?_
 rintro k ⟨xs,ds⟩ hk ⟨hx,hds,hin⟩ _ _ _
 simp only at hx hds
 refine idxE (f:=fun l => [C.sl (ics l)]) h0 hux rfl rfl ?_
 refine brn_p (fun hlt => ?_) (fun hge => ?_)
 ·have hlt:(k:Int) < ((ics us).length:Int):=hlt
  have hlt:k < us.length:=by rw [huu] at hlt; omega
  refine withGet hlt fun n hn hnm => ?_
  refine idxE (f:=fun l => [C.sl (ics l)]) h0 hux rfl rfl ?_
  refine idxI hn ?_
  refine brn_p (fun _ => ?_) (fun hn0 => ?_)
  ·exact retP rfl rfl
  refine brn_p (fun _ => ?_) (fun hn1 => ?_)
  ·exact retP rfl rfl
  have hn1:¬ (q.modules.length:Int) ≤ n:=by rw [← hml]; exact hn1
  have hnx:=nm_at (l:=q.modules) (i:=n) (by omega) (by omega)
  refine idxE (f:=fun s => [C.str s]) hn0 hnx rfl rfl ?_
  refine callPD (h11 hw.1 n) rfl fun _ => ?_
  have hxl:xs.length = k:=by rw [hx,List.length_map,List.length_take]; omega
  have hdl:(ics ds).length = k:=by rw [ics_len,hds,List.length_map,List.length_take]; omega
  refine app1r xs.length rfl (by rw [List.length_map]) (by omega) (by omega) ?_
  refine app1r k rfl hdl (by omega) (by omega) ?_
  refine Fit.in64 (by omega) (by omega) ?_
  refine ⟨(k + 1,(xs ++ [fI q n],ds ++ [digM q n])),⟨hlt,?_,?_,?_⟩,⟨nextI,same_keys rfl,same_keys rfl,trivial⟩,⟨.inl ⟨_,rfl,.inl ⟨?_,rfl⟩⟩,.inl ⟨_,rfl,.inl ⟨?_,rfl⟩⟩,trivial⟩,nextM hlt⟩
  ·rw [List.take_add_one,hn,hx]; simp
  ·rw [List.take_add_one,hn,hds]; simp
  ·rw [inRange,List.take_add_one,hn,List.all_append]
   rw [Bool.and_eq_true]
   refine ⟨hin,?_⟩
   simp only [Option.toList,List.all_cons,List.all_nil,Bool.and_true]
   exact decide_eq_true ⟨by omega,by omega⟩
  ·exact congrArg (TO.row 42 5) (List.map_append (f:=ifC) (l₁:=xs) (l₂:=[fI q n])).symm
  ·exact congrArg (TO.row 3 1) (List.map_append (f:=fun n => [IC n]) (l₁:=ds) (l₂:=[digM q n])).symm
 have hge:¬ k < us.length:=fun h => hge (by show (k:Int) < ((ics us).length:Int); rw [huu]; omega)
 rw [List.take_of_length_le (by omega)] at hx hds hin
 obtain ⟨hv,hu,ha⟩:=hX hin
 have hxl:xs.length = us.length:=by rw [hx,List.length_map]
 have hml2:(xs.map ifC).length = us.length:=by rw [List.length_map,hxl]
 have hf1:CallsT PZ 12 [.agg (ifC X),.sl (xs.map ifC)] [] (Ret [] (.bool true)):=by
  have:=hfit xs
  rwa [hx,fits_all hv hu ha,← hx] at this
 refine callP (h8 hw.1 (by omega) (by omega) (by omega) hin) (congrArg (fun z => [C.agg (progC q),IC m,.sl (ics z)]) hds) fun _ => ?_
 refine callP hf1 rfl fun _ => ?_
 refine brn_p (fun hn0 => ?_) (fun hn0 => ?_)
 ·have hn0:((xs.map ifC).length:Int) = 0:=hn0
  have hf2:CallsT PZ 12 [.agg (ifC X),.sl ([zI].map ifC)] [] (Ret [] (.bool false)):=by
   have:=hfit [zI]
   rwa [fits_len hv hu (show [zI].length ≠ us.length by simp only [List.length_cons,List.length_nil]; omega)] at this
  refine callP hf2 rfl fun _ => ?_
  exact retP rfl rfl
 have hn0:¬ ((xs.map ifC).length:Int) = 0:=hn0
 have hpos:0 < us.length:=by omega
 refine withGet (show us.length - 1 < us.length by omega) fun n hn _ => ?_
 have hxj:xs[us.length - 1]? = some (fI q n):=by rw [hx,List.getElem?_map,hn]; rfl
 have hj:(((xs.map ifC).length:Int) - 1).toNat = us.length - 1:=by omega
 have hg0:(xs.map ifC)[(((xs.map ifC).length:Int) - 1).toNat]? = some (ifC (fI q n)):=by rw [hj,List.getElem?_map,hxj]; rfl
 have hdn:=hd n
 have hlo:-9223372036854775808 ≤ ((xs.map ifC).length:Int) - 1:=by omega
 have hhi:((xs.map ifC).length:Int) - 1 ≤ 9223372036854775807:=by omega
 have hib:((xs.map ifC).length:Int) - 1 < ((xs.map ifC).length:Int):=by omega
 have hin0:0 ≤ ((xs.map ifC).length:Int) - 1:=by omega
 refine ⟨by omega,ifC_len (l:=[]),AppT.mk ifC_len ?_ ?_ ?_⟩
 ·show 0 + (xs.map ifC).length ≤ maxLen
  simp only [maxLen]; omega
 ·show (0 + (xs.map ifC).length) * 96 ≤ _
  omega
 refine Fit.in64 hlo hhi ?_
 refine InB.mk hin0 hib ?_
 refine rowLdO hg0 rfl ?_
 refine Fit.in64 (show -9223372036854775808 ≤ digM q n + 1 by omega) (show digM q n + 1 ≤ 9223372036854775807 by omega) ?_
 refine InB.mk hin0 hib ?_
 refine ⟨rfl,rowStO hg0 rfl ?_⟩
 refine ⟨by omega,ifC_len (l:=[]),AppT.mk ifC_len ?_ ?_ ?_⟩
 ·show 0 + (xs.map ifC).length ≤ maxLen
  simp only [maxLen]; omega
 ·show (0 + (xs.map ifC).length) * 96 ≤ _
  omega
 refine Fit.in64 hlo hhi ?_
 refine InB.mk hin0 hib ?_
 refine ⟨rfl,rowStO hg0 rfl ?_⟩
 have c3:CallsT PZ 12 [.agg (ifC X),.sl ((xs.take (us.length - 1)).map ifC)] [] (Ret [] (.bool false)):=by
  have:=hfit (xs.take (us.length - 1))
  rwa [fits_len hv hu (show (xs.take (us.length - 1)).length ≠ us.length by rw [List.length_take]; omega)] at this
 have c4:CallsT PZ 12 [.agg (ifC X),.sl ((xs.set (us.length - 1) { fI q n with digest:=digM q n + 1 }).map ifC)] [] (Ret [] (.bool false)):=by
  have:=hfit (xs.set (us.length - 1) { fI q n with digest:=digM q n + 1 })
  rwa [hx,fits_at hv hu ha hpos hn,decide_eq_false (show ¬ digM q n + 1 = digM q n by omega),Bool.and_false,← hx] at this
 have c5:CallsT PZ 12 [.agg (ifC X),.sl ((xs.set (us.length - 1) { fI q n with module:=name }).map ifC)] [] (Ret [] (.bool (streq name (nm q.modules n)))):=by
  have:=hfit (xs.set (us.length - 1) { fI q n with module:=name })
  rwa [hx,fits_at hv hu ha hpos hn,show decide (({ fI q n with module:=name }:Ifc).digest = digM q n) = true from decide_eq_true rfl,Bool.and_true,← hx] at this
 refine Fit.in64 hlo hhi ?_
 refine SlcT.mk (Int.le_refl 0) hin0 (Int.le_of_lt hib) ifC_len ?_
 refine callPD c3 ?_ fun _ => ?_
 ·show [C.agg (ifC X),.sl (((xs.map ifC).drop 0).take ((((xs.map ifC).length:Int) - 1).toNat - 0))] = _
  rw [hj,List.drop_zero,Nat.sub_zero,List.map_take]
 refine callPD c4 ?_ fun _ => ?_
 ·show [C.agg (ifC X),.sl ((xs.map ifC).set ((((xs.map ifC).length:Int) - 1).toNat) (ifC { fI q n with digest:=digM q n + 1 }))] = _
  rw [hj,List.map_set]
 refine Fit.in64 hlo hhi ?_
 refine idxE (f:=ifC) (by omega) (show xs[(((xs.map ifC).length:Int) - 1).toNat]? = some (fI q n) by rw [hj]; exact hxj) rfl rfl ?_
 refine callPD c5 ?_ fun _ => ?_
 ·show [C.agg (ifC X),.sl ((xs.map ifC).set ((((xs.map ifC).length:Int) - 1).toNat) (ifC { fI q n with module:=name }))] = _
  rw [hj,List.map_set]
 exact retP rfl (congrArg C.bool (decide_eq_true rfl))
theorem digM_bd (q:Prog) (n:Int):0 ≤ digM q n ∧ digM q n < 2147483648:=by
 unfold digM
 cases elem q.modules n with
 | none => exact ⟨Int.le_refl 0,(by omega:(0:Int) < 2147483648)⟩
 | some name =>
  have:=dig_bd (encModule q name n)
  exact ⟨this.1,Int.lt_trans this.2 (by decide)⟩
theorem t4 (q:Prog) (m:Int) (name:ByteArray) (hq:q.g.bulk ≤ 1048576):CallsT PZ 4 [.agg (progC q),IC m,.str name] [] (Ret [] (.bool true)):=by
 have hz:=szQ hq m
 have hu:=hz.u
 have hd:=hz.d; have hi:=hz.i; have hf:=hz.f
 refine t4w q m name (usesOf q m) ⟨nm q.modules m,(usesOf q m).map (nm q.modules),(usesOf q m).map (digM q),dig (bodyOf q m),bodyOf q m⟩ (fun h0 h1 => uses_at h0 h1) hu (fun hw n => t11 q n ((szQ hq n).enc hw) (by omega) (by omega) (by omega)) (fun hw h0 h1 h2 hin => ?_) (digM_bd q) (fun _ => ⟨valid_mk (by simp),rfl,rfl⟩) (fun l => t12 _ l)
 have h:=t8q q m ((usesOf q m).map (digM q)) hz (by rw [List.length_map]; omega) hw
 rwa [mkI_yes ⟨h0,h1,h2,by simp,hin⟩] at h
end Go.Fr.Tryz
namespace Go.Fr.Tryz
open Go Go.RowKit Go.Proofs Go.Fr Go.WideMaps
theorem gEOF:Tryz.prog.globalNamed "io.EOF" = some 1:=by kernel_rfl
open Go.Proofs.YtidbpicbmklccaaGreatDoor in
theorem glob_of_laid {W:World} (h:laidMetH Tryz.prog [("io.EOF",Rows.laid_io_EOF),("bytes.ErrTooLarge",Rows.laid_bytes_ErrTooLarge)] W):Glob (frzOf W):=by
 rw [MakeChecks.laidMetH_plain _ _ _ (by kernel_rfl)] at h
 obtain ⟨ps,⟨g0,t0,cs0,f0,p0,q0,hg0,ht0,hv0,hd0,_,_⟩,_,_⟩:=h
 obtain rfl:=Option.some.inj (gEOF.symm.trans hg0)
 have tE:t0 = 122:=Option.some.inj (ht0.symm.trans (show (Tryz.prog.globals[1]?).map (·.type) = some 122 by kernel_rfl))
 subst tE
 have u20:Tryz.prog.underlying 122 = some (.interface #[("Error",133)]):=by kernel_rfl
 have hv:∃ t u,cs0.toList = [.iface t u]:=by
  cases f0 with
  | zero => simp [DataW.trod] at hd0
  | succ n =>
   rw [DataW.trod_step] at hd0
   unfold DataW.trodStep at hd0
   rw [u20] at hd0
   split at hd0 <;> simp_all [Rows.laid_io_EOF]
 obtain ⟨t,u,hcs⟩:=hv
 simp only [World.var?,hg0,Option.bind_some] at hv0
 split at hv0
 ·rename_i cs t' fr he
  injection hv0 with hv0
  subst hv0
  refine ⟨.iface t u,t',fr,?_,.inr (.inl ⟨rfl,t,u,rfl⟩)⟩
  show W.heap[1]? = _
  rw [he]
  have:cs = #[.iface t u]:=by
   apply Array.ext'
   rw [hcs]
  rw [this]
 ·cases hv0
end Go.Fr.Tryz
