/- Part of the proofs of the statements of this seat. -/
import Derived.Test.YtidbpicbmklccaaGreatDoorIzX1G
import Derived.Test.YtidbpicbmklccaaGreatDoorIzP4G
import Derived.Test.YtidbpicbmklccaaGreatDoorFW3
import Derived.Test.YtidbpicbmklccaaGreatDoorRows
import Derived.WideKeyMaps
import Derived.MakeChecks
import Derived.ChangeArms
set_option maxRecDepth 10000
set_option linter.unusedVariables false
set_option linter.unusedSimpArgs false
namespace Go.Fr.Tryz
open Go Go.RowKit Go.Proofs Go.Fr Go.Fr.T Go.Fr.Api Go.Fr.Dm
theorem t18:∀ (t:Ty) (m:Int),0 ≤ m → m ≤ 1000 → CallsT PZ 18 [.agg (tyC t),IC m] [] (Ret [] (IC (few t m)))
 | .mk k i l,m,h0,h1 => by
  have ih:∀ x ∈ l,∀ m':Int,0 ≤ m' → m' ≤ 1000 → CallsT PZ 18 [.agg [IC x.kind,IC x.id,.sl (x.args.map tyC)],IC m'] [] (Ret [] (IC (few x m'))):=fun x hx m' a b => by
   have:=t18 x m' a b
   rw [tyC_eq] at this
   exact this
  have hfb:=few_bd
  rw [tyC_eq,few]
  simp only [Ty.kind,Ty.id,Ty.args]
  generalize hfew:few = few' at ih hfb
  have hfl:∀ x r n,fewL (x :: r) m n = if n ≤ m then fewL r m (n + few' x (m - n)) else n:=by
   intro x r n; rw [fewL,hfew]
  refine callsT_facts Tryz.func18 facts18 rfl fun hw _ => ?_
  refine loopN l.length 6 [5] (1:Int) (fun n => [IC n]) (fun _ => [(2,.box 33 [IC k,IC i,.sl (l.map tyC)])]) (fun k n => fewL (l.drop k) m n = fewL l m 1 ∧ 1 ≤ n ∧ n ≤ m + 1) ⟨rfl,by omega,by omega⟩ (same_keys rfl) ⟨same_keys rfl,trivial⟩ ⟨.inl ⟨_,rfl,.inl ⟨rfl,rfl⟩⟩,trivial⟩ (fun _ => rfl) (fun _ => rfl) ?_
  rintro j n hj ⟨hinv,hn0,hn1⟩ _ _ _
  have hlen:l.length ≤ 9223372036854775807:=wf_lenT hw.1.2.2.1
  refine brn_p (fun hlt => ?_) (fun hge => ?_)
  ·have hlt:j < l.length:=by simpa using hlt
   have hd:=drop_cons hlt
   have hx:=hd.choose_spec.1
   have hdr:=hd.choose_spec.2
   generalize hd.choose = x at hx hdr
   refine brn_p (fun hle => ?_) (fun hgt => ?_)
   ·refine idxTy hx ?_
    refine Fit.in64 (by omega) (by omega) ?_
    refine callP (ih x (List.mem_of_getElem? hx) (m - n) (by omega) (by omega)) rfl fun _ => ?_
    have hb:=hfb x (m - n) (by omega)
    refine Fit.in64 (by omega) (by omega) ?_
    refine Fit.in64 (by omega) (by omega) ?_
    refine ⟨(j + 1,n + few' x (m - n)),⟨hlt,?_,by omega,by omega⟩,⟨nextI,same_keys rfl,trivial⟩,⟨.inl ⟨_,rfl,.inl ⟨rfl,rfl⟩⟩,trivial⟩,nextM hlt⟩
    rw [hdr,hfl,if_pos hle] at hinv
    exact hinv
   ·refine retP rfl ?_
    rw [fewL_stop hgt] at hinv
    exact congrArg IC hinv
  ·have hge:¬ j < l.length:=by simpa using hge
   rw [drop_end hge] at hinv
   refine retP rfl ?_
   rw [fewL] at hinv
   exact congrArg IC hinv
termination_by t => SizeOf.sizeOf t
decreasing_by
 have:=List.sizeOf_lt_of_mem hx
 simp only [Ty.mk.sizeOf_spec]
 omega
theorem t19 (l:List Ty):CallsT PZ 19 [.sl (l.map tyC)] [] (Ret [] (.bool (smallL l))):=by
 have h31:∀ x:Ty,CallsT PZ 18 [.agg [IC x.kind,IC x.id,.sl (x.args.map tyC)],IC 30] [] (Ret [] (IC (few x 30))):=fun x => by
  have:=t18 x 30 (by omega) (by omega)
  rw [tyC_eq] at this
  exact this
 have hsm:smallL l = (l.all (fun t => decide (few t 30 ≤ 30)) && decide ((l.length:Int) ≤ 8)):=rfl
 generalize few = fw at h31 hsm
 refine callsT_facts Tryz.func19 facts19 rfl fun hw _ => ?_
 have hlen:l.length ≤ 9223372036854775807:=wf_lenT hw.1
 refine loopN l.length 3 [] () (fun _ => []) (fun _ => []) (fun k _ => (l.drop k).all (fun t => decide (fw t 30 ≤ 30)) = l.all (fun t => decide (fw t 30 ≤ 30))) rfl (same_keys rfl) trivial trivial (fun _ => rfl) (fun _ => rfl) ?_
 rintro k _ hk hinv _ _ _
 refine brn_p (fun hlt => ?_) (fun hge => ?_)
 ·have hlt:k < l.length:=by simpa using hlt
  have hd:=drop_cons hlt
  have hx:=hd.choose_spec.1
  have hdr:=hd.choose_spec.2
  generalize hd.choose = x at hx hdr
  refine idxTy hx ?_
  refine callP (h31 x) rfl fun _ => ?_
  rw [hdr,List.all_cons] at hinv
  refine brn_p (fun hgt => ?_) (fun hle => ?_)
  ·have hdc:decide (fw x 30 ≤ 30) = false:=decide_eq_false (by omega)
   rw [hdc,Bool.false_and] at hinv
   have e:false = smallL l:=by rw [hsm,← hinv,Bool.false_and]
   exact retP rfl (congrArg C.bool e)
  ·refine Fit.in64 (by omega) (by omega) ?_
   have hdc:decide (fw x 30 ≤ 30) = true:=decide_eq_true (by omega)
   rw [hdc,Bool.true_and] at hinv
   exact ⟨(k + 1,()),⟨hlt,hinv⟩,⟨nextI,trivial⟩,trivial,nextM hlt⟩
 ·have hge:¬ k < l.length:=by simpa using hge
  rw [drop_end hge,List.all_nil] at hinv
  have e:decide (((l.map tyC).length:Int) ≤ 8) = smallL l:=by rw [hsm,← hinv,Bool.true_and,List.length_map]
  exact retP rfl (congrArg C.bool e)
theorem t18' (x:Ty):CallsT PZ 18 [.agg [IC x.kind,IC x.id,.sl (x.args.map tyC)],IC 30] [] (Ret [] (IC (few x 30))):=by
 have:=t18 x 30 (by omega) (by omega)
 rw [tyC_eq] at this
 exact this
theorem t7 (f:Fun):CallsT PZ 7 [.agg (funC f)] [] (Such True):=by
 have h31:=t18'
 have h10:=t19
 generalize few = fw at h31
 generalize smallL = sm at h10
 refine callsT_facts Tryz.func7 facts7 rfl fun hw _ => ?_
 have hw:=hw.1
 have hl1:f.locals.length ≤ 9223372036854775807:=wf_lenM hw.2.2.2.2.2.2.2.2.1
 have hl2:f.blocks.length ≤ 9223372036854775807:=wf_lenM hw.2.2.2.2.2.2.2.2.2.1
 have hlb:∀ b ∈ f.blocks,b.code.length ≤ 9223372036854775807:=fun b hb => wf_lenM (wf_map hw.2.2.2.2.2.2.2.2.2.1 b hb).1
 refine brn_p (fun _ => ?_) (fun _ => ?_)
 ·exact retB false rfl rfl (fun _ => trivial)
 refine brn_p (fun _ => ?_) (fun _ => ?_)
 ·exact retB false rfl rfl (fun _ => trivial)
 refine brn_p (fun _ => ?_) (fun _ => ?_)
 ·exact retB false rfl rfl (fun _ => trivial)
 refine brn_p (fun _ => ?_) (fun _ => ?_)
 ·exact retB false rfl rfl (fun _ => trivial)
 refine callP (h31 f.result) rfl fun _ => ?_
 refine brn_p (fun _ => ?_) (fun _ => ?_)
 ·exact retB false rfl rfl (fun _ => trivial)
 refine loopN f.locals.length 3 [] () (fun _ => []) (fun _ => [(1,.box 36 (funC f))]) (fun _ _ => True) trivial (same_keys rfl) trivial ⟨.inl ⟨_,rfl,.inl ⟨rfl,rfl⟩⟩,trivial⟩ (fun _ => rfl) (fun _ => rfl) ?_
 rintro k _ hk _ _ _ _
 refine brn_p (fun hlt => ?_) (fun hge => ?_)
 ·have hlt:k < f.locals.length:=by simpa using hlt
  refine withGet hlt fun x hx _ => ?_
  refine idxTy hx ?_
  refine callP (h31 _) rfl fun _ => ?_
  refine brn_p (fun _ => ?_) (fun _ => ?_)
  ·exact retB false rfl rfl (fun _ => trivial)
  refine Fit.in64 (by omega) (by omega) ?_
  exact ⟨(k + 1,()),⟨hlt,trivial⟩,⟨nextI,trivial⟩,⟨.inl ⟨_,rfl,.inl ⟨rfl,rfl⟩⟩,trivial⟩,nextM hlt⟩
 refine loopN f.blocks.length 4 [] () (fun _ => []) (fun _ => [(1,.box 36 (funC f))]) (fun _ _ => True) trivial (same_keys rfl) trivial ⟨.inl ⟨_,rfl,.inl ⟨rfl,rfl⟩⟩,trivial⟩ (fun _ => rfl) (fun _ => rfl) ?_
 rintro k _ hk _ _ _ _
 refine brn_p (fun hlt => ?_) (fun hge => ?_)
 ·have hlt:k < f.blocks.length:=by simpa using hlt
  refine withGet hlt fun b hbx hbm => ?_
  have hbl:=hlb b hbm
  refine idxT hbx rfl rfl ?_
  refine brn_p (fun _ => ?_) (fun _ => ?_)
  ·exact retB false rfl rfl (fun _ => trivial)
  refine idxT hbx rfl rfl ?_
  refine brn_p (fun _ => ?_) (fun _ => ?_)
  ·exact retB false rfl rfl (fun _ => trivial)
  refine loopN b.code.length 5 [4] () (fun _ => [IC k]) (fun _ => [(1,.box 36 (funC f))]) (fun _ _ => True) trivial (same_keys rfl) ⟨same_keys rfl,trivial⟩ ⟨.inl ⟨_,rfl,.inl ⟨rfl,rfl⟩⟩,trivial⟩ (fun _ => rfl) (fun _ => rfl) ?_
  rintro j _ hj _ _ _ _
  refine idxT hbx rfl rfl ?_
  refine brn_p (fun hlt' => ?_) (fun hge => ?_)
  ·have hlt':j < b.code.length:=by simpa using hlt'
   refine idxT hbx rfl rfl ?_
   refine withGet hlt' fun y hy _ => ?_
   refine idxT hy rfl rfl ?_
   refine brn_p (fun _ => ?_) (fun _ => ?_)
   ·exact retB false rfl rfl (fun _ => trivial)
   refine callP (h10 _) rfl fun _ => ?_
   refine brn_split (fun _ => ?_) (fun _ => ?_)
   ·exact retB false rfl rfl (fun _ => trivial)
   refine Fit.in64 (by omega) (by omega) ?_
   exact ⟨(j + 1,()),⟨hlt',trivial⟩,⟨nextI,same_keys rfl,trivial⟩,⟨.inl ⟨_,rfl,.inl ⟨rfl,rfl⟩⟩,trivial⟩,nextM hlt'⟩
  refine Fit.in64 (by omega) (by omega) ?_
  exact ⟨(k + 1,()),⟨hlt,trivial⟩,⟨nextI,trivial⟩,⟨.inl ⟨_,rfl,.inl ⟨rfl,rfl⟩⟩,trivial⟩,nextM hlt⟩
 exact retB true rfl rfl (fun _ => trivial)
theorem t17 (q:Prog):CallsT PZ 17 [.agg (progC q)] [] (Such True):=by
 have h31:=t18'
 have h11:=t7
 generalize few = fw at h31
 refine callsT_facts Tryz.func17 facts17 rfl fun hw _ => ?_
 have hw:=hw.1
 have l1:q.datas.length ≤ 9223372036854775807:=wf_lenM hw.2.2.1
 have l3:q.funcs.length ≤ 9223372036854775807:=wf_lenM hw.2.2.2.2.2.2.1
 refine brn_p (fun _ => ?_) (fun _ => ?_)
 ·exact retB false rfl rfl (fun _ => trivial)
 refine brn_p (fun _ => ?_) (fun _ => ?_)
 ·exact retB false rfl rfl (fun _ => trivial)
 refine brn_p (fun _ => ?_) (fun _ => ?_)
 ·exact retB false rfl rfl (fun _ => trivial)
 refine loopN q.datas.length 3 [] () (fun _ => []) (fun _ => [(1,.box 29 (progC q))]) (fun _ _ => True) trivial (same_keys rfl) trivial ⟨.inl ⟨_,rfl,.inl ⟨rfl,rfl⟩⟩,trivial⟩ (fun _ => rfl) (fun _ => rfl) ?_
 rintro k _ hk _ _ _ _
 refine brn_p (fun hlt => ?_) (fun hge => ?_)
 ·have hlt:k < q.datas.length:=by simpa using hlt
  refine withGet hlt fun d hd hdm => ?_
  have hwd:=wf_map hw.2.2.1 d hdm
  have lv:d.variants.length ≤ 9223372036854775807:=wf_lenM hwd.2.2.2.1
  refine idxT hd rfl rfl ?_
  refine brn_p (fun _ => ?_) (fun _ => ?_)
  ·exact retB false rfl rfl (fun _ => trivial)
  refine loopN d.variants.length 4 [3] () (fun _ => [IC k]) (fun _ => [(1,.box 29 (progC q))]) (fun _ _ => True) trivial (same_keys rfl) ⟨same_keys rfl,trivial⟩ ⟨.inl ⟨_,rfl,.inl ⟨rfl,rfl⟩⟩,trivial⟩ (fun _ => rfl) (fun _ => rfl) ?_
  rintro j _ hj _ _ _ _
  refine idxT hd rfl rfl ?_
  refine brn_p (fun hlt' => ?_) (fun hge => ?_)
  ·have hlt':j < d.variants.length:=by simpa using hlt'
   refine withGet hlt' fun v hv hvm => ?_
   have lf:v.fields.length ≤ 9223372036854775807:=wf_lenM (wf_map hwd.2.2.2.1 v hvm).2.1
   refine idxT hd rfl rfl ?_
   refine idxT hv rfl rfl ?_
   refine brn_p (fun _ => ?_) (fun _ => ?_)
   ·exact retB false rfl rfl (fun _ => trivial)
   refine loopN v.fields.length 6 [3,4,5] () (fun _ => [IC k,IC j,.sl (v.fields.map tyC)]) (fun _ => [(1,.box 29 (progC q))]) (fun _ _ => True) trivial (same_keys rfl) ⟨same_keys rfl,same_keys rfl,same_keys rfl,trivial⟩ ⟨.inl ⟨_,rfl,.inl ⟨rfl,rfl⟩⟩,trivial⟩ (fun _ => rfl) (fun _ => rfl) ?_
   rintro i _ hi _ _ _ _
   refine brn_p (fun hlt2 => ?_) (fun hge => ?_)
   ·have hlt2:i < v.fields.length:=by simpa using hlt2
    refine withGet hlt2 fun t ht _ => ?_
    refine idxTy ht ?_
    refine callP (h31 t) rfl fun _ => ?_
    refine brn_p (fun _ => ?_) (fun _ => ?_)
    ·exact retB false rfl rfl (fun _ => trivial)
    refine Fit.in64 (by omega) (by omega) ?_
    exact ⟨(i + 1,()),⟨hlt2,trivial⟩,⟨nextI,same_keys rfl,same_keys rfl,same_keys rfl,trivial⟩,⟨.inl ⟨_,rfl,.inl ⟨rfl,rfl⟩⟩,trivial⟩,nextM hlt2⟩
   refine Fit.in64 (by omega) (by omega) ?_
   exact ⟨(j + 1,()),⟨hlt',trivial⟩,⟨nextI,same_keys rfl,trivial⟩,⟨.inl ⟨_,rfl,.inl ⟨rfl,rfl⟩⟩,trivial⟩,nextM hlt'⟩
  refine Fit.in64 (by omega) (by omega) ?_
  exact ⟨(k + 1,()),⟨hlt,trivial⟩,⟨nextI,trivial⟩,⟨.inl ⟨_,rfl,.inl ⟨rfl,rfl⟩⟩,trivial⟩,nextM hlt⟩
 refine loopN q.funcs.length 7 [] () (fun _ => []) (fun _ => [(1,.box 29 (progC q))]) (fun _ _ => True) trivial (same_keys rfl) trivial ⟨.inl ⟨_,rfl,.inl ⟨rfl,rfl⟩⟩,trivial⟩ (fun _ => rfl) (fun _ => rfl) ?_
 rintro k _ hk _ _ _ _
 refine brn_p (fun hlt => ?_) (fun hge => ?_)
 ·have hlt:k < q.funcs.length:=by simpa using hlt
  refine withGet hlt fun f hf _ => ?_
  refine idxT hf rfl rfl ?_
  refine callB (h11 f) rfl fun b _ => ?_
  refine brn_split (fun _ => ?_) (fun _ => ?_)
  ·exact retB false rfl rfl (fun _ => trivial)
  refine Fit.in64 (by omega) (by omega) ?_
  exact ⟨(k + 1,()),⟨hlt,trivial⟩,⟨nextI,trivial⟩,⟨.inl ⟨_,rfl,.inl ⟨rfl,rfl⟩⟩,trivial⟩,nextM hlt⟩
 exact retB true rfl rfl (fun _ => trivial)
end Go.Fr.Tryz
namespace Go.Fr.Tryz
open Go Go.RowKit Go.Proofs Go.Fr Go.Fr.T Go.Fr.Api
theorem t8z:CallsT PZ 8 [.agg [.sl [],.sl [],.sl [],.sl [],.sl [],.sl [],.sl [],IC 0],IC 0,.sl []] [] (Ret [] (.tup [.agg (ifC zI),IC 1])):=by
 refine callsT_facts Tryz.func8 facts8 rfl fun hw _ => ?_
 refine ⟨by decide,?_⟩
 exact retP rfl rfl
def exE:List UInt8:=[2,109,0,0,174,191,214,6,2,1]
theorem vint_s {z:Nat} (h:z < 128):vint z = [UInt8.ofNat z]:=by rw [vint,dif_pos h]
theorem vint_l {z:Nat} (h:¬ z < 128):vint z = UInt8.ofNat (128 + z % 128) :: vint (z / 128):=by rw [vint,dif_neg h]
theorem n0:numB 0 = [0]:=vint_s (by decide)
theorem n1:numB 1 = [2]:=vint_s (by decide)
theorem n7:numB 7000023 = [174,191,214,6]:=by
 show vint 14000046 = _
 rw [vint_l (by decide),vint_l (by decide),vint_l (by decide),vint_s (by decide)]
 rfl
theorem exI_enc:encF exI = exE:=by
 unfold encF exI textB listB
 simp only [List.map_nil,List.flatten_nil,List.length_nil,List.length_cons,List.append_nil]
 rw [show (((ByteArray.mk #[109]).size:Nat):Int) = 1 from rfl,show (((0 + 1:Nat)):Int) = 1 from rfl,show ((0:Nat):Int) = 0 from rfl,n0,n1,n7]
 rfl
theorem exI_ok:validI exI = true:=by decide +kernel
def exB:List UInt8:=exE ++ [42,104,50,138]
theorem exB_eq:encB exI = exB:=by
 rw [enc_eq exI_ok,exI_enc]
 decide +kernel
theorem ex_dec:decI exB = (exI,0):=by
 rw [← exB_eq]
 exact dec_enc exI_ok (okI_of exI_ok (fun n hn => by cases hn) (by decide) (by decide) (fun s hs => by cases hs) (by decide) (by decide))
theorem ex_cut:decI (exB.take 13) = (zI,17):=decI_2 (s:=exB.take 9) (by decide) (by decide) (by decide +kernel)
theorem dec_nil:decI [] = (zI,16):=decI_1 (by decide)
def badI:Ifc:={ exI with digest:=1 }
theorem bad_no:validI badI = false:=by decide +kernel
theorem bad_enc:encB badI = []:=by unfold encB; rw [bad_no]
theorem h15a:CallsT PZ 13 [.agg (ifC exI)] [] (Ret [] (.sl (bcells exB))):=exB_eq ▸ t13 exI (by rw [exI_enc]; decide)
theorem len_bad:(encF badI).length ≤ 100:=by
 unfold encF badI exI textB listB
 simp only [List.map_nil,List.flatten_nil,List.length_nil,List.length_cons,List.append_nil]
 rw [show (((ByteArray.mk #[109]).size:Nat):Int) = 1 from rfl,show (((0 + 1:Nat)):Int) = 1 from rfl,show ((0:Nat):Int) = 0 from rfl,n0,n1]
 decide
theorem h15b:CallsT PZ 13 [.agg (ifC badI)] [] (Ret [] (.sl (bcells []))):=bad_enc ▸ t13 badI (by have:=len_bad; omega)
theorem h11a:CallsT PZ 16 [.sl (bcells exB)] [] (Ret [] (.tup [.agg (ifC exI),IC 0])):=by
 have:=t16 exB (by decide)
 rwa [ex_dec] at this
theorem h11b:CallsT PZ 16 [.sl (bcells (exB.take 13))] [] (Ret [] (.tup [.agg (ifC zI),IC 17])):=by
 have:=t16 (exB.take 13) (by decide)
 rwa [ex_cut] at this
theorem h11c:CallsT PZ 16 [.sl (bcells [])] [] (Ret [] (.tup [.agg (ifC zI),IC 16])):=by
 have:=t16 [] (by decide)
 rwa [dec_nil] at this
theorem h17a:CallsT PZ 12 [.agg (ifC exI),.sl ([].map ifC)] [] (Ret [] (.bool true)):=by
 have:=t12 exI []
 rwa [show fitsI exI [] = true by decide +kernel] at this
theorem h17b:CallsT PZ 12 [.agg (ifC exI),.sl ([exI].map ifC)] [] (Ret [] (.bool false)):=by
 have:=t12 exI [exI]
 rwa [show fitsI exI [exI] = false by decide +kernel] at this
theorem h22:CallsT PZ 15 [.sl (bcells (exB.take 10))] [] (Ret [] (IC 711471754)):=by
 have:=t15 (exB.take 10)
 rwa [show dig (exB.take 10) = 711471754 by decide +kernel] at this
set_option maxRecDepth 20000 in
theorem t5:CallsT PZ 5 [] [] (Ret [] (.bool true)):=by
 refine callsT_facts Tryz.func5 facts5 rfl fun hw _ => ?_
 refine callP t14 rfl fun _ => ?_
 refine callP h15a rfl fun _ => ?_
 refine SlcT.mk (by omega) (by omega) (by decide) bcells_sz ?_
 refine callP h22 rfl fun _ => ?_
 refine idxB (bs:=exB) (k:=10) (x:=42) rfl ?_
 refine Fit.to (m:=42) rfl ?_
 refine Fit.to (m:=704643072) rfl ?_
 refine idxB (bs:=exB) (k:=11) (x:=104) rfl ?_
 refine Fit.to (m:=104) rfl ?_
 refine Fit.to (m:=6815744) rfl ?_
 refine Fit.to (m:=711458816) rfl ?_
 refine idxB (bs:=exB) (k:=12) (x:=50) rfl ?_
 refine Fit.to (m:=50) rfl ?_
 refine Fit.to (m:=12800) rfl ?_
 refine Fit.to (m:=711471616) rfl ?_
 refine idxB (bs:=exB) (k:=13) (x:=138) rfl ?_
 refine Fit.to (m:=138) rfl ?_
 refine Fit.to (m:=711471754) rfl ?_
 refine callP h11a rfl fun _ => ?_
 refine SlcT.mk (by omega) (by omega) (by decide) bcells_sz ?_
 refine callP h11b rfl fun _ => ?_
 refine callP h11c rfl fun _ => ?_
 refine callP t8z rfl fun _ => ?_
 refine callP t14 rfl fun _ => ?_
 refine SlcT.mk (by omega) (by omega) (by decide) bcells_sz ?_
 refine BytesT.mk ⟨exB.take 10,rfl,?_⟩
 refine BytesT.mk ⟨exE,rfl,?_⟩
 refine callPD t14 rfl fun _ => ?_
 refine callPD (t9 exI) rfl fun _ => ?_
 refine callP h15b rfl fun _ => ?_
 refine callP t14 rfl fun _ => ?_
 refine callP h17a rfl fun _ => ?_
 refine callP t14 rfl fun _ => ?_
 refine callP t14 rfl fun _ => ?_
 refine callP h17b rfl fun _ => ?_
 exact retP rfl rfl
end Go.Fr.Tryz
namespace Go.Fr.Tryz
open Go Go.RowKit Go.Proofs Go.Fr Go.Fr.T Go.Fr.Api Go.Fr.Dm
theorem t6 (q:Prog):CallsT PZ 6 [.agg (progC q)] [] (Such True):=by
 have hul:(q.uses.map fun l => [C.sl (ics l)]).length = q.uses.length:=by simp
 refine callsT_facts Tryz.func6 facts6 rfl fun hw _ => ?_
 have hwu:=wf_len hw.1.2.1
 refine loopN q.uses.length 3 [] () (fun _ => []) (fun _ => []) (fun _ _ => True) trivial (same_keys rfl) trivial trivial (fun _ => rfl) (fun _ => rfl) fun k _ hk _ _ _ h64 => ?_
 refine brn_p (fun hlt => ?_) (fun hge => ?_)
 ·have hlt:(k:Int) < ((q.uses.map fun l => [C.sl (ics l)]).length:Int):=hlt
  have hlt:k < q.uses.length:=by omega
  refine withGet hlt fun x hx _ => ?_
  refine idxT (f:=fun l => [C.sl (ics l)]) hx rfl rfl ?_
  refine brn_p (fun h1 => ?_) (fun h1 => ?_)
  ·exact retB false rfl rfl fun _ => trivial
  refine Fit.in64 (by omega) (by omega) ?_
  exact ⟨(k + 1,()),⟨by omega,trivial⟩,⟨nextI,trivial⟩,trivial,nextM hlt⟩
 refine callB (t17 q) rfl fun b _ => ?_
 refine brn_split (fun _ => ?_) (fun _ => ?_)
 ·refine brn_split (fun _ => ?_) (fun _ => ?_)
  ·refine brn_split (fun _ => ?_) (fun _ => ?_)
   ·exact retB _ rfl rfl fun _ => trivial
   ·exact retB _ rfl rfl fun _ => trivial
  ·exact retB _ rfl rfl fun _ => trivial
 ·exact retB _ rfl rfl fun _ => trivial
set_option maxRecDepth 20000 in
theorem t3no (q:Prog) (m:Int) (ag:List Int) (o:Fun) (h8:WfS (progC q) → CallsT PZ 8 [.agg (progC q),IC m,.sl (ics ag)] [] (Ret [] (.tup [.agg (ifC zI),IC 1]))) :
  CallsT PZ 3 [.agg (progC q),IC m,.sl (ics ag),.agg (funC o)] [] (Ret [] (.bool true)):=by
 refine callsT_facts Tryz.func3 facts3 rfl fun hw _ => ?_
 refine callP t5 rfl fun _ => ?_
 refine callB (t6 q) rfl fun b1 _ => ?_
 refine brn_split (fun _ => ?_) (fun _ => ?_)
 ·exact retP rfl rfl
 refine brn_p (fun _ => ?_) (fun _ => ?_)
 ·exact retP rfl rfl
 refine callB (t7 o) rfl fun b2 _ => ?_
 refine brn_split (fun _ => ?_) (fun _ => ?_)
 ·exact retP rfl rfl
 refine callP (h8 hw.1) rfl fun _ => ?_
 refine callP (t9 zI) rfl fun _ => ?_
 exact retP rfl rfl
theorem nNot {a:Int} {P:Prop} (h:(!decide (a = a)) = true):P:=by simp at h
theorem sNot {a:ByteArray} {P:Prop} (h:(!streq a a) = true):P:=by rw [streq_self] at h; cases h
theorem withNames {P:Prop} {l r:List ByteArray} {i k:Nat} (h:∃ s,l[i]? = some s ∧ r[k]? = some s) (f:∀ s,l[i]? = some s → r[k]? = some s → P):P:=h.elim fun s h => f s h.1 h.2
structure MkFacts (q:Prog) (m:Int) (ag:List Int) (us:List Int) (M:ByteArray) (names:List ByteArray):Prop where
 m0:0 ≤ m
 m1:m < q.modules.length
 m2:m < q.uses.length
 mod:q.modules[m.toNat]? = some M
 uses:q.uses[m.toNat]? = some us
 len:names.length = us.length
 alen:ag.length = us.length
 at_:∀ (k:Nat) (n:Int),us[k]? = some n → 0 ≤ n ∧ n < q.modules.length ∧ ∃ s,q.modules[n.toNat]? = some s ∧ names[k]? = some s
def OfL (q:Prog) (X:Ifc) (s:List Fun):TL :=
 [(10,.box 42 (ifC X)),(14,.box 29 [.sl (scs q.modules),.sl (q.uses.map fun l => [.sl (ics l)]),.sl (q.datas.map dataC),.sl (scs q.traits),.sl (ics q.homes),.sl (q.impls.map implC),.rw 215,IC q.main]),(215,.row 36 11 (s.map funC))]
theorem modF_cells (o f:Fun) (L:List (List C)) (hL:L = (modF o f).locals.map tyC) :
  [C.str f.name,IC f.module,IC f.params,.sl (f.bounds.map boundC),IC f.arity,IC f.result.kind,IC f.result.id,.sl (f.result.args.map tyC),.sl L,.sl (o.blocks.map blockC),.sl (ics f.ties)] = funC (modF o f):=by rw [hL]; rfl
set_option maxRecDepth 20000 in
theorem t3yes (q:Prog) (m:Int) (ag:List Int) (o:Fun) (us:List Int) (M:ByteArray) (names:List ByteArray) (D:Int) (B:List UInt8) (hF:MkFacts q m ag us M names) (hfl:q.funcs.length ≤ 1048576) (hil:q.impls.length ≤ 1048576) (hlo:∀ f ∈ q.funcs,f.locals.length ≤ 1048576)
  (h8:WfS (progC q) → CallsT PZ 8 [.agg (progC q),IC m,.sl (ics ag)] [] (Ret [] (.tup [.agg (ifC ⟨M,names,ag,D,B⟩),IC 0]))) (h8':WfS (progC q) → CallsT PZ 8 [.agg (progC (qMod q o m)),IC m,.sl (ics ag)] [] (Ret [] (.tup [.agg (ifC ⟨M,names,ag,D,B⟩),IC 0])))
  (h10:CallsT PZ 10 [.agg (ifC ⟨M,names,ag,D,B⟩)] [] (Ret [] (.bool true))) (h11:WfS (progC q) → CallsT PZ 11 [.agg (progC q),IC m] [] (Ret [] (IC D))) :
  CallsT PZ 3 [.agg (progC q),IC m,.sl (ics ag),.agg (funC o)] [] (Ret [] (.bool true)):=by
 have hml:(scs q.modules).length = q.modules.length:=by simp [scs]
 have hul:(q.uses.map fun l => [C.sl (ics l)]).length = q.uses.length:=by simp
 have hal:(ics ag).length = ag.length:=by simp [ics]
 have huu:(ics us).length = us.length:=by simp [ics]
 have hnl:(strs names).length = names.length:=strs_len
 have hfu:(q.funcs.map funC).length = q.funcs.length:=by simp
 have hm0:=hF.m0
 have hus:=hF.alen
 have hm1:=hF.m1
 have hm2:=hF.m2
 refine callsT_facts Tryz.func3 facts3 rfl fun hw _ => ?_
 refine callP t5 rfl fun _ => ?_
 refine callB (t6 q) rfl fun b1 _ => ?_
 refine brn_split (fun _ => ?_) (fun _ => ?_)
 ·exact retP rfl rfl
 refine brn_p (fun _ => ?_) (fun _ => ?_)
 ·exact retP rfl rfl
 refine callB (t7 o) rfl fun b2 _ => ?_
 refine brn_split (fun _ => ?_) (fun _ => ?_)
 ·exact retP rfl rfl
 refine callP (h8 hw.1) rfl fun _ => ?_
 refine callPD h10 rfl fun _ => ?_
 refine callPD (h11 hw.1) rfl fun _ => ?_
 refine brn_split (fun h => nNot h) (fun _ => ?_)
 refine brn_p (fun h => absurd h (by omega)) (fun h0 => ?_)
 refine brn_p (fun h => absurd (show (q.modules.length:Int) ≤ m by rw [← hml]; exact h) (by omega)) (fun _ => ?_)
 refine brn_p (fun h => absurd (show (q.uses.length:Int) ≤ m by rw [← hul]; exact h) (by omega)) (fun _ => ?_)
 refine idxE (f:=fun s => [C.str s]) h0 hF.mod rfl rfl ?_
 refine brn_split (fun h => sNot h) (fun _ => ?_)
 refine idxE (f:=fun l => [C.sl (ics l)]) h0 hF.uses rfl rfl ?_
 refine brn_split (fun h => ?_) (fun _ => ?_)
 ·exfalso
  have h:(!decide (((strs names).length:Int) = ((ics us).length:Int))) = true:=h
  rw [hnl,huu,hF.len] at h
  exact nNot h
 refine brn_split (fun h => nNot h) (fun _ => ?_)
 refine loopN us.length 12 [] () (fun _ => []) (fun _ => [(10,.box 42 (ifC ⟨M,names,ag,D,B⟩))]) (fun _ _ => True) trivial (same_keys rfl) trivial ⟨.inl ⟨_,rfl,.inl ⟨rfl,rfl⟩⟩,trivial⟩ (fun _ => rfl) (fun _ => rfl) fun k _ hk _ _ _ h64 => ?_
 refine brn_p (fun hlt => ?_) (fun hge => ?_)
 ·have hlt:(k:Int) < ((strs names).length:Int):=hlt
  have hlt:k < us.length:=by rw [hnl,hF.len] at hlt; omega
  refine withGet hlt fun n hn hnm => ?_
  refine withGet (show k < ag.length by rw [hF.alen]; exact hlt) fun a ha _ => ?_
  have hat:=hF.at_ k n hn
  refine idxE (f:=fun l => [C.sl (ics l)]) h0 hF.uses rfl rfl ?_
  refine idxI hn ?_
  refine brn_p (fun h => absurd h (by omega)) (fun hn0 => ?_)
  refine brn_p (fun h => absurd (show (q.modules.length:Int) ≤ n by rw [← hml]; exact h) (by omega)) (fun _ => ?_)
  refine withNames hat.2.2 fun w hw1 hw2 => ?_
  refine idxT (f:=fun s => [C.str s]) hw2 rfl rfl ?_
  refine idxE (f:=fun s => [C.str s]) hn0 hw1 rfl rfl ?_
  refine brn_split (fun h => sNot h) (fun _ => ?_)
  refine idxI ha ?_
  refine idxI ha ?_
  refine brn_split (fun h => nNot h) (fun _ => ?_)
  refine Fit.in64 (by omega) (by omega) ?_
  exact ⟨(k + 1,()),⟨by omega,trivial⟩,⟨nextI,trivial⟩,⟨.inl ⟨_,rfl,.inl ⟨rfl,rfl⟩⟩,trivial⟩,nextM hlt⟩
 refine loopN q.funcs.length 15 [] ([]:List Fun) (fun _ => []) (fun s => OfL q ⟨M,names,ag,D,B⟩ s) (fun k s => s = (q.funcs.take k).map (modF o)) rfl (same_keys rfl) trivial
  ⟨.inl ⟨_,rfl,.inl ⟨rfl,rfl⟩⟩,.inl ⟨_,rfl,.inr ⟨29,_,_,rfl,rfl,_,_,rfl,same_keys rfl,_,_,rfl,same_keys rfl,_,_,rfl,same_keys rfl,_,_,rfl,same_keys rfl,_,_,rfl,same_keys rfl,_,_,rfl,same_keys rfl,_,_,rfl,nil_rw rfl rfl,_,_,rfl,same_keys rfl,rfl⟩⟩,.inr ⟨rfl,36,11,rfl⟩,trivial⟩ (fun _ => rfl) (fun _ => rfl) ?_
 rintro k s hk hs _ _ _
 refine brn_p (fun hlt => ?_) (fun hge => ?_)
 ·have hlt:(k:Int) < ((q.funcs.map funC).length:Int):=hlt
  have hlt:k < q.funcs.length:=by rw [hfu] at hlt; omega
  refine withGet hlt fun f hf hfm => ?_
  refine idxT hf rfl rfl ?_
  have hwf:=wf_map (hw.1.2.2.2.2.2.2.1) f hfm
  have hwa:(Lit.int .i64 f.arity).wf = true:=hwf.2.2.2.2.1
  have hll:(f.locals.map tyC).length = f.locals.length:=by simp
  have hlo':=hlo f hfm
  have hm1:=mn_wf (n:=(f.locals.map tyC).length) hwa (by omega)
  have hm2:=mx0_wf hm1
  have hbd:=mx0_bd (n:=(f.locals.map tyC).length) (a:=f.arity)
  have hsz:∀ es ∈ f.locals.map tyC,es.length = 3:=by
   intro es he
   obtain ⟨t,_,rfl⟩:=List.mem_map.1 he
   exact tyC_len t
  have hsl:s.length = k:=by rw [hs,List.length_map,List.length_take]; omega
  refine ⟨hm1,?_⟩
  refine ⟨hm2,?_⟩
  refine SlcT.mk (Int.le_refl 0) hbd.1 hbd.2 hsz ?_
  refine SlcT.mk hbd.1 hbd.2 (Int.le_refl _) hsz ?_
  have hA:(((f.locals.map tyC).drop (Int.toNat 0)).take ((mx0 (mn (f.locals.map tyC).length f.arity)).toNat - Int.toNat 0)).length ≤ f.locals.length:=by
   rw [List.length_take,List.length_drop]; omega
  have hB:(((f.locals.map tyC).drop (mx0 (mn (f.locals.map tyC).length f.arity)).toNat).take (((f.locals.map tyC).length:Int).toNat - (mx0 (mn (f.locals.map tyC).length f.arity)).toNat)).length ≤ f.locals.length:=by
   rw [List.length_take,List.length_drop]; omega
  have hsA:∀ es ∈ ((f.locals.map tyC).drop (Int.toNat 0)).take ((mx0 (mn (f.locals.map tyC).length f.arity)).toNat - Int.toNat 0),es.length = 3:=fun es he => hsz es (List.mem_of_mem_drop (List.mem_of_mem_take he))
  have hsB:∀ es ∈ ((f.locals.map tyC).drop (mx0 (mn (f.locals.map tyC).length f.arity)).toNat).take (((f.locals.map tyC).length:Int).toNat - (mx0 (mn (f.locals.map tyC).length f.arity)).toNat),es.length = 3:=fun es he => hsz es (List.mem_of_mem_drop (List.mem_of_mem_take he))
  have hcat:[] ++ ((f.locals.map tyC).drop (Int.toNat 0)).take ((mx0 (mn (f.locals.map tyC).length f.arity)).toNat - Int.toNat 0) ++ ((f.locals.map tyC).drop (mx0 (mn (f.locals.map tyC).length f.arity)).toNat).take (((f.locals.map tyC).length:Int).toNat - (mx0 (mn (f.locals.map tyC).length f.arity)).toNat) = f.locals.map tyC:=by
   show ((f.locals.map tyC).drop 0).take ((mx0 (mn (f.locals.map tyC).length f.arity)).toNat - 0) ++ _ = _
   rw [List.drop_zero,Nat.sub_zero,Int.toNat_natCast,List.take_of_length_le (l:=(f.locals.map tyC).drop _) (by rw [List.length_drop]; omega),List.take_append_drop]
  have hA2:([] ++ ((f.locals.map tyC).drop (Int.toNat 0)).take ((mx0 (mn (f.locals.map tyC).length f.arity)).toNat - Int.toNat 0)).length ≤ f.locals.length:=by rw [List.nil_append]; exact hA
  refine AppT.mk hsA (Nat.le_trans (Nat.add_le_add_left hA 0) (by simp only [maxLen]; omega)) (Nat.le_trans (Nat.mul_le_mul_right 40 (Nat.add_le_add_left hA 0)) (by omega)) ?_
  refine AppT.mk hsB (Nat.le_trans (Nat.add_le_add hA2 hB) (by simp only [maxLen]; omega)) (Nat.le_trans (Nat.mul_le_mul_right 40 (Nat.add_le_add hA2 hB)) (by omega)) ?_
  refine brn_p (fun he => ?_) (fun he => ?_)
  ·have he:mx0 (mn f.locals.length f.arity) = f.arity:=by rw [← hll]; exact he
   refine app1r f.locals.length rfl ((congrArg List.length hcat).trans hll) (by omega) (by omega) ?_
   refine app1r s.length rfl (by rw [List.length_map]) (by omega) (by omega) ?_
   refine Fit.in64 (by omega) (by omega) ?_
   refine ⟨(k + 1,s ++ [modF o f]),⟨hlt,?_⟩,⟨nextI,trivial⟩,⟨.inl ⟨_,rfl,.inl ⟨rfl,rfl⟩⟩,.inl ⟨_,rfl,.inl ⟨rfl,rfl⟩⟩,.inl ⟨_,rfl,.inl ⟨?_,rfl⟩⟩,trivial⟩,nextM hlt⟩
   ·rw [List.take_add_one,hf,hs]; simp
   ·have hc:=modF_cells o f _ (show f.locals.map tyC ++ [[IC o.result.kind,IC o.result.id,.sl (o.result.args.map tyC)]] = (modF o f).locals.map tyC by unfold modF; simp only [if_pos he,List.map_append,List.map_cons,List.map_nil]; rw [tyC_eq o.result])
    rw [← hcat] at hc
    exact (congrArg (fun z => TO.row 36 11 (s.map funC ++ [z])) hc).trans (congrArg (TO.row 36 11) (List.map_append (f:=funC) (l₁:=s) (l₂:=[modF o f])).symm)
  ·have he:¬ mx0 (mn f.locals.length f.arity) = f.arity:=by rw [← hll]; exact he
   refine app1r s.length rfl (by rw [List.length_map]) (by omega) (by omega) ?_
   refine Fit.in64 (by omega) (by omega) ?_
   refine ⟨(k + 1,s ++ [modF o f]),⟨hlt,?_⟩,⟨nextI,trivial⟩,⟨.inl ⟨_,rfl,.inl ⟨rfl,rfl⟩⟩,.inl ⟨_,rfl,.inl ⟨rfl,rfl⟩⟩,.inl ⟨_,rfl,.inl ⟨?_,rfl⟩⟩,trivial⟩,nextM hlt⟩
   ·rw [List.take_add_one,hf,hs]; simp
   ·have hc:=modF_cells o f _ (show f.locals.map tyC = (modF o f).locals.map tyC by unfold modF; simp only [if_neg he,List.append_nil])
    rw [← hcat] at hc
    exact (congrArg (fun z => TO.row 36 11 (s.map funC ++ [z])) hc).trans (congrArg (TO.row 36 11) (List.map_append (f:=funC) (l₁:=s) (l₂:=[modF o f])).symm)
 have hge:¬ k < q.funcs.length:=fun h => hge (by show (k:Int) < ((q.funcs.map funC).length:Int); rw [hfu]; omega)
 rw [List.take_of_length_le (by omega)] at hs
 have hil2:(q.impls.map implC).length = q.impls.length:=by simp
 refine loopN q.impls.length 19 [18] (!decide (o.module = m)) (fun b => [.bool b]) (fun _ => OfL q ⟨M,names,ag,D,B⟩ s) (fun k b => b = ((!decide (o.module = m)) && (q.impls.take k).all fun x => decide (x.func < q.funcs.length))) (by simp) (same_keys rfl) ⟨same_keys rfl,trivial⟩
  ⟨.inl ⟨_,rfl,.inl ⟨rfl,rfl⟩⟩,.inl ⟨_,rfl,.inl ⟨rfl,rfl⟩⟩,.inl ⟨_,rfl,.inl ⟨rfl,rfl⟩⟩,trivial⟩ (fun _ => rfl) (fun _ => rfl) ?_
 rintro k2 b hk2 hb _ _ _
 refine brn_p (fun hlt => ?_) (fun hge2 => ?_)
 ·have hlt:(k2:Int) < ((q.impls.map implC).length:Int):=hlt
  have hlt:k2 < q.impls.length:=by rw [hil2] at hlt; omega
  refine withGet hlt fun x hx _ => ?_
  have htake:(q.impls.take (k2 + 1)).all (fun x => decide (x.func < q.funcs.length)) = ((q.impls.take k2).all (fun x => decide (x.func < q.funcs.length)) && decide (x.func < q.funcs.length)):=by
   rw [List.take_add_one,hx,List.all_append]; simp
  refine brn_split (fun hb1 => ?_) (fun hb1 => ?_)
  ·refine idxT hx rfl rfl ?_
   refine Fit.in64 (by omega) (by omega) ?_
   refine ⟨(k2 + 1,decide (x.func < q.funcs.length)),⟨hlt,?_⟩,⟨nextI,.inr (.inl ⟨congrArg C.bool ?_,rfl⟩),trivial⟩,⟨.inl ⟨_,rfl,.inl ⟨rfl,rfl⟩⟩,.inl ⟨_,rfl,.inl ⟨rfl,rfl⟩⟩,.inl ⟨_,rfl,.inl ⟨rfl,rfl⟩⟩,trivial⟩,nextM hlt⟩
   ·rw [htake,← Bool.and_assoc,← hb,show b = true from hb1,Bool.true_and]
   ·show decide (x.func < ((q.funcs.map funC).length:Int)) = _
    rw [hfu]
  ·refine Fit.in64 (by omega) (by omega) ?_
   refine ⟨(k2 + 1,false),⟨hlt,?_⟩,⟨nextI,same_keys rfl,trivial⟩,⟨.inl ⟨_,rfl,.inl ⟨rfl,rfl⟩⟩,.inl ⟨_,rfl,.inl ⟨rfl,rfl⟩⟩,.inl ⟨_,rfl,.inl ⟨rfl,rfl⟩⟩,trivial⟩,nextM hlt⟩
   rw [htake,← Bool.and_assoc,← hb,show b = false from hb1,Bool.false_and]
 have hge2:¬ k2 < q.impls.length:=fun h => hge2 (by show (k2:Int) < ((q.impls.map implC).length:Int); rw [hil2]; omega)
 rw [List.take_of_length_le (by omega)] at hb
 have hall:b = allOk q o m:=hb
 have hsl:s.length = q.funcs.length:=by rw [hs,List.length_map]
 have args:∀ L:List (List C),L = (qMod q o m).funcs.map funC → ([C.agg [.sl (scs q.modules),.sl (q.uses.map fun l => [.sl (ics l)]),.sl (q.datas.map dataC),.sl (scs q.traits),.sl (ics q.homes),.sl (q.impls.map implC),.sl L,IC q.main],IC m,.sl (ics ag)]:List C) = [.agg (progC (qMod q o m)),IC m,.sl (ics ag)]:=fun L h => by rw [h]; rfl
 refine brn_split (fun hb1 => ?_) (fun hb1 => ?_)
 ·have hb1:b = true:=hb1
  refine app1r s.length rfl (by rw [List.length_map]) (by omega) (by omega) ?_
  refine callP (h8' hw.1) (args (s.map funC ++ [funC o]) ?_) fun _ => ?_
  ·unfold qMod
   simp only [← hall,hb1,if_true,List.map_append,← hs,List.map_cons,List.map_nil]
  refine callP (t9 ⟨M,names,ag,D,B⟩) rfl fun _ => ?_
  exact retP rfl rfl
 ·have hb1:b = false:=hb1
  refine callP (h8' hw.1) (args (s.map funC) ?_) fun _ => ?_
  ·unfold qMod
   simp only [← hall,hb1,Bool.false_eq_true,if_false,List.append_nil,← hs]
  refine callP (t9 ⟨M,names,ag,D,B⟩) rfl fun _ => ?_
  exact retP rfl rfl
structure SzQ (q:Prog) (m:Int):Prop where
 body:WfS (progC q) → (bodyOf q m).length ≤ 2 ^ 46
 enc:WfS (progC q) → ∀ name,elem q.modules m = some name → (encModule q name m).length ≤ 2 ^ 46
 d:q.datas.length ≤ 1048576
 i:q.impls.length ≤ 1048576
 f:q.funcs.length ≤ 1048576
 u:(usesOf q m).length ≤ 1048576
 l:∀ f ∈ q.funcs,f.locals.length ≤ 1048576
theorem szQ {q:Prog} (hq:q.g.bulk ≤ 1048576) (m:Int):SzQ q m:=by
 have hns:=names_of hq
 have e:q.g.bulk = 9 + G.bulkAll (q.modules.map .str) + G.bulkAll (q.uses.map fun l => .sl 1 (l.map I)) + G.bulkAll (q.datas.map Data.g) + G.bulkAll (q.traits.map .str) + G.bulkAll (q.homes.map I) + G.bulkAll (q.impls.map Impl.g) + G.bulkAll (q.funcs.map Fun.g):=by
  simp only [Prog.g,G.bulk,G.bulkAll]; omega
 have a1:=bulk_map (f:=Data.g) q.datas
 have a2:=bulk_map (f:=Impl.g) q.impls
 have a3:=bulk_map (f:=Fun.g) q.funcs
 refine ⟨fun hw => encModule_le hq hw (nm_le (fun s hs => hns.1 s hs) m) m,fun hw name hn => encModule_le hq hw (hns.1 name (elem_mem hn)) m,by omega,by omega,by omega,?_,fun f hf => ?_⟩
 ·unfold usesOf
  rw [List.getD_eq_getElem?_getD]
  cases hx:q.uses[m.toNat]? with
  | none => simp
  | some x =>
   have h1:=Dm.bulk_mem (g:=fun l => G.sl 1 (l.map I)) (List.mem_of_getElem? hx)
   have h2:=bulk_sl (f:=I) x (sz:=1)
   simp only [Option.getD_some]
   omega
 ·have h1:=Dm.bulk_mem (g:=Fun.g) hf
  have h2:=bulk_map (f:=Ty.g) f.locals
  have h3:f.g.bulk = (Fun.g f).bulk:=rfl
  simp only [Fun.g,G.bulk,G.bulkAll] at h1
  omega
theorem t8q (q:Prog) (m:Int) (ag:List Int) (h:SzQ q m) (h4:ag.length ≤ 2 ^ 30) (hw:WfS (progC q)):CallsT PZ 8 [.agg (progC q),IC m,.sl (ics ag)] [] (Ret [] (.tup [.agg (ifC (mkI q m ag).1),IC (mkI q m ag).2])):=by
 have:=h.d; have:=h.i; have:=h.f; have:=h.u
 exact t8 q m ag (h.body hw) (by omega) (by omega) (by omega) h4 (by omega)
theorem t8m (q:Prog) (o:Fun) (m:Int) (ag:List Int) (h:SzQ q m) (h4:ag.length ≤ 2 ^ 30) (hw:WfS (progC q)):CallsT PZ 8 [.agg (progC (qMod q o m)),IC m,.sl (ics ag)] [] (Ret [] (.tup [.agg (ifC (mkI q m ag).1),IC (mkI q m ag).2])):=by
 have:=h.d; have:=h.i; have:=h.f; have:=h.u
 have hl:(qMod q o m).funcs.length ≤ q.funcs.length + 1:=by
  unfold qMod
  simp only [List.length_append,List.length_map]
  split <;> simp
 have h1:=t8 (qMod q o m) m ag (by rw [body_mod]; exact h.body hw) (by show q.datas.length ≤ _; omega) (by show q.impls.length ≤ _; omega) (by omega) h4 (by show (usesOf q m).length ≤ _; omega)
 rwa [mk_mod] at h1
theorem valid_mk {q:Prog} {m:Int} {ag:List Int} (h:ag.length = (usesOf q m).length):validI ⟨nm q.modules m,(usesOf q m).map (nm q.modules),ag,dig (bodyOf q m),bodyOf q m⟩ = true :=
 decide_eq_true ⟨by simp [h],rfl⟩
theorem facts_mk {q:Prog} {m:Int} {ag:List Int} (h:0 ≤ m ∧ m < q.modules.length ∧ m < q.uses.length ∧ ag.length = (usesOf q m).length ∧ inRange q (usesOf q m) = true):MkFacts q m ag (usesOf q m) (nm q.modules m) ((usesOf q m).map (nm q.modules)):=by
 refine ⟨h.1,h.2.1,h.2.2.1,nm_at h.1 h.2.1,uses_at h.1 h.2.2.1,by simp,h.2.2.2.1,fun k n hk => ?_⟩
 have hn:=of_decide_eq_true (List.all_eq_true.1 h.2.2.2.2 n (List.mem_of_getElem? hk))
 exact ⟨hn.1,hn.2,nm q.modules n,nm_at hn.1 hn.2,by rw [List.getElem?_map,hk]; rfl⟩
theorem mk_cases (q:Prog) (m:Int) (ag:List Int):mkI q m ag = (zI,1) ∨ ((0 ≤ m ∧ m < q.modules.length ∧ m < q.uses.length ∧ ag.length = (usesOf q m).length ∧ inRange q (usesOf q m) = true) ∧ mkI q m ag = (⟨nm q.modules m,(usesOf q m).map (nm q.modules),ag,dig (bodyOf q m),bodyOf q m⟩,0)):=by
 by_cases h:0 ≤ m ∧ m < q.modules.length ∧ m < q.uses.length ∧ ag.length = (usesOf q m).length ∧ inRange q (usesOf q m) = true
 ·exact .inr ⟨h,mkI_yes h⟩
 ·exact .inl (mkI_no h)
theorem t3 (q:Prog) (m:Int) (ag:List Int) (o:Fun) (hq:q.g.bulk ≤ 1048576) (h4:ag.length ≤ 2 ^ 30):CallsT PZ 3 [.agg (progC q),IC m,.sl (ics ag),.agg (funC o)] [] (Ret [] (.bool true)):=by
 have hz:=szQ hq m
 have h8:=t8q q m ag hz h4
 have h8m:=t8m q o m ag hz h4
 rcases mk_cases q m ag with e | ⟨h,e⟩
 ·rw [e] at h8
  exact t3no q m ag o h8
 ·rw [e] at h8 h8m
  have h10:=t10 ⟨nm q.modules m,(usesOf q m).map (nm q.modules),ag,dig (bodyOf q m),bodyOf q m⟩
  rw [valid_mk h.2.2.2.1] at h10
  have hd:=hz.d; have hi:=hz.i; have hf:=hz.f
  refine t3yes q m ag o _ _ _ _ _ (facts_mk h) hf hi hz.l h8 h8m h10 fun hw => ?_
  have h11:=t11 q m (hz.enc hw) (by omega) (by omega) (by omega)
  rw [digM_eq h.1 h.2.1] at h11
  exact h11
end Go.Fr.Tryz
namespace Go.Fr.Tryz
open Go Go.RowKit Go.Proofs Go.Fr Go.WideMaps
theorem gEOF:Tryz.prog.globalNamed "io.EOF" = some 1:=by kernel_rfl
open Go.Proofs.YtidbpicbmklccaaGreatDoor in
theorem glob_of_laid {W:World} (h:laidMetH Tryz.prog [("io.EOF",Rows.laid_io_EOF),("bytes.ErrTooLarge",Rows.laid_bytes_ErrTooLarge)] W):Glob (frzOf W):=by
 rw [MakeChecks.laidMetH_plain _ _ _ (by kernel_rfl)] at h
 obtain ⟨ps,⟨g0,t0,cs0,f0,p0,q0,hg0,ht0,hv0,hd0,_,_⟩,_,_⟩:=h
 obtain rfl:=Option.some.inj (gEOF.symm.trans hg0)
 have tE:t0 = 122:=Option.some.inj (ht0.symm.trans (show (Tryz.prog.globals[1]?).map (·.type) = some 122 by kernel_rfl))
 subst tE
 have u20:Tryz.prog.underlying 122 = some (.interface #[("Error",133)]):=by kernel_rfl
 have hv:∃ t u,cs0.toList = [.iface t u]:=by
  cases f0 with
  | zero => simp [DataW.trod] at hd0
  | succ n =>
   rw [DataW.trod_step] at hd0
   unfold DataW.trodStep at hd0
   rw [u20] at hd0
   split at hd0 <;> simp_all [Rows.laid_io_EOF]
 obtain ⟨t,u,hcs⟩:=hv
 simp only [World.var?,hg0,Option.bind_some] at hv0
 split at hv0
 ·rename_i cs t' fr he
  injection hv0 with hv0
  subst hv0
  refine ⟨.iface t u,t',fr,?_,.inr (.inl ⟨rfl,t,u,rfl⟩)⟩
  show W.heap[1]? = _
  rw [he]
  have:cs = #[.iface t u]:=by
   apply Array.ext'
   rw [hcs]
  rw [this]
 ·cases hv0
end Go.Fr.Tryz
