/- Part of the proofs of the statements of this seat. -/
import Derived.Test.YtidbpicbmklccaaDoorIfM1G
import Derived.Test.YtidbpicbmklccaaDoorIfL5G
set_option maxRecDepth 10000
set_option linter.unusedVariables false
set_option linter.unusedSimpArgs false
namespace Go.Fr.Tryd
open Go Go.RowKit Go.Proofs Go.Fr Go.Fr.T Go.Fr.Api Go.Fr.Dm
theorem wrap_u8' (n:Int):IntKind.wrap .u8 n = n % 256:=by simp [IntKind.wrap,IntKind.bits,IntKind.signed]
theorem by8_of {n m:Int} (h:0 ≤ m) (e:n % 256 = m % 256):IntKind.wrap .u8 n = ((by8 m).toNat:Int):=by
 rw [wrap_u8',e,by8,UInt8.toNat_ofNat']
 omega
theorem tdiv_pos {a b:Int} (h:0 ≤ a):a.tdiv b = a / b:=Int.tdiv_eq_ediv_of_nonneg h
theorem t52 (bs:List UInt8) (hb:bs.length ≤ 70368744177664):CallsT PZ 52 [.sl (bcells bs)] [] (Ret [] (.sl (bcells (sealB bs)))):=by
 obtain ⟨h0,h1⟩:=dig_bd bs
 have e1:=tdiv_pos (b:=16777216) h0
 have e2:=tdiv_pos (b:=65536) h0
 have e3:=tdiv_pos (b:=256) h0
 have m2:(dig bs / 65536).tmod 256 = dig bs / 65536 % 256:=Int.tmod_eq_emod_of_nonneg (by omega)
 have m3:(dig bs / 256).tmod 256 = dig bs / 256 % 256:=Int.tmod_eq_emod_of_nonneg (by omega)
 have m4:(dig bs).tmod 256 = dig bs % 256:=Int.tmod_eq_emod_of_nonneg h0
 refine callsT_facts Tryd.func52 facts52 rfl fun hw _ => ?_
 refine callP (t40 bs) rfl fun _ => ?_
 refine appB 0 rfl (by omega) ?_
 refine NonZ.mk (by omega) ?_
 refine Fit.in64 (by omega) (by omega) ?_
 refine Fit.to (by8_of (m:=dig bs / 16777216) (by omega) (by rw [e1])) ?_
 refine NonZ.mk (by omega) ?_
 refine Fit.in64 (by omega) (by omega) ?_
 refine NonZ.mk (by omega) ?_
 refine Fit.to (by8_of (m:=dig bs / 65536) (by omega) (by rw [e2,m2]; omega)) ?_
 refine NonZ.mk (by omega) ?_
 refine Fit.in64 (by omega) (by omega) ?_
 refine NonZ.mk (by omega) ?_
 refine Fit.to (by8_of (m:=dig bs / 256) (by omega) (by rw [e3,m3]; omega)) ?_
 refine NonZ.mk (by omega) ?_
 refine Fit.to (by8_of (m:=dig bs) h0 (by rw [m4]; omega)) ?_
 refine AppT.mk (fun es he => ?_) ?_ ?_ ?_
 ·rcases List.mem_cons.1 he with rfl | he
  ·rfl
  rcases List.mem_cons.1 he with rfl | he
  ·rfl
  rcases List.mem_cons.1 he with rfl | he
  ·rfl
  rcases List.mem_cons.1 he with rfl | he
  ·rfl
  cases he
 ·show ([] ++ bcells bs).length + 4 ≤ maxLen
  rw [List.nil_append,bcells_len]; simp only [maxLen]; omega
 ·show (([] ++ bcells bs).length + 4) * 1 ≤ _
  rw [List.nil_append,bcells_len]; omega
 refine retF [6] [] ⟨_,[],rfl,rfl,rfl,rfl,?_⟩
 exact congrArg C.sl (bcells_app bs (dig4 bs)).symm
theorem encF_eq (i:Ifc):encF i = encS i.module ++ encI i.uses.length ++ i.uses.flatMap encS ++ encL encI i.against ++ encIs [i.digest,(i.body.length:Int)] ++ i.body:=by
 have h1:(i.uses.map textB).flatten = i.uses.flatMap encS:=textsB_encSs i.uses
 have h2:(i.against.map numB).flatten = i.against.flatMap encI:=numsB_encIs i.against
 simp only [encF,listB,encL,h1,h2,textB_encS,numB_encI,encIs,List.flatMap_cons,List.flatMap_nil,List.append_nil,List.append_assoc]
theorem flat_drop {α β:Type} (f:α → List β) (l:List α) (k:Nat):l.flatMap f = (l.take k).flatMap f ++ (l.drop k).flatMap f:=by
 rw [← List.flatMap_append,List.take_append_drop]
theorem t16 (i:Ifc) (hb:(encF i).length ≤ 35184372088832):CallsT PZ 16 [.agg (ifC i)] [] (Ret [] (.sl (bcells (encB i)))):=by
 have hlen:=congrArg List.length (encF_eq i)
 have hparts:=encF_eq i
 simp only [List.length_append] at hlen
 have huu:(strs i.uses).length = i.uses.length:=strs_len
 have h61:=t61 i.module (by omega)
 have h62:∀ n,CallsT PZ 62 [IC n] [] (Ret [] (.sl (bcells (encI n)))):=fun n => (t62 n).give
 have h61g:∀ s ∈ i.uses,CallsT PZ 61 [.str s] [] (Ret [] (.sl (bcells (encS s)))):=fun s hs => (t61 s (by
  have:(encS s).length ≤ (i.uses.flatMap encS).length:=by
   obtain ⟨k,hk⟩:=List.getElem?_of_mem hs
   have h1:=congrArg List.length (flat_drop encS i.uses k)
   obtain ⟨hlt,e⟩:=List.getElem?_eq_some_iff.1 hk
   rw [List.drop_eq_getElem_cons hlt,List.flatMap_cons,e] at h1
   simp only [List.length_append] at h1
   omega
  omega)).give
 have h63:=(t63 i.against (by omega)).give
 have h64:=(t64 [i.digest,(i.body.length:Int)] (by omega)).give
 have h52:=t52 (encF i) (by omega)
 refine callsT_facts Tryd.func16 facts16 rfl fun hw _ => ?_
 have hu64:i.uses.length ≤ 9223372036854775807:=by
  have h:=hw.1
  simp only [Wf,ifC,WfS] at h
  have h2:=wf_len (els:=strs i.uses) ⟨h.2.1.1,h.2.1.2⟩
  rwa [strs_len] at h2
 refine callP (t19 i) rfl fun _ => ?_
 refine brn_split (fun h => ?_) (fun h => ?_)
 ·have h:validI i = false:=by simpa using h
  refine retP rfl ?_
  rw [encB,h]; rfl
 have h:validI i = true:=by simpa using h
 refine callDO h61 rfl rfl ?_
 refine callPD (h62 (strs i.uses).length) rfl fun _ => ?_
 refine Dm.appB (by rw [huu]; omega) ?_
 refine loopN i.uses.length 4 [3] (encS i.module ++ encI i.uses.length) (fun _ => [.rw 10]) (fun s => [(10,.row 5 1 (bcells s))]) (fun k s => s ++ (i.uses.drop k).flatMap encS = encS i.module ++ encI i.uses.length ++ i.uses.flatMap encS) rfl (same_keys rfl) ⟨same_keys rfl,trivial⟩
  ⟨.inl ⟨_,rfl,.inl ⟨?_,rfl⟩⟩,trivial⟩ (fun _ => rfl) (fun _ => rfl) ?_
 ·show TO.row 5 1 (bcells (encS i.module) ++ bcells (encI ((strs i.uses).length:Int))) = _
  rw [huu,bcells_app]
 rintro k s hk hinv _ _ _
 have hsl:=congrArg List.length hinv
 simp only [List.length_append] at hsl
 refine brn_p (fun hlt => ?_) (fun hge => ?_)
 ·have hlt:k < i.uses.length:=by rw [huu] at hlt; omega
  refine withDrop hlt fun x hx hxm hd => ?_
  rw [hd,List.flatMap_cons] at hinv hsl
  simp only [List.length_append] at hsl
  refine idxT (f:=fun s => [C.str s]) hx rfl rfl ?_
  refine callP (h61g x hxm) rfl fun _ => ?_
  refine Dm.appB (by omega) ?_
  refine Fit.in64 (by omega) (by omega) ?_
  refine ⟨(k + 1,s ++ encS x),⟨hlt,by rw [← hinv]; simp⟩,⟨nextI,same_keys rfl,trivial⟩,⟨.inl ⟨_,rfl,.inl ⟨congrArg (TO.row 5 1) (bcells_app s (encS x)).symm,rfl⟩⟩,trivial⟩,nextM hlt⟩
 have hge:¬ k < i.uses.length:=by rw [huu] at hge; omega
 rw [drop_end hge,List.flatMap_nil,List.append_nil] at hinv
 rw [drop_end hge,List.flatMap_nil] at hsl
 simp only [List.length_nil] at hsl
 have hp2:encF i = s ++ encL encI i.against ++ encIs [i.digest,(i.body.length:Int)] ++ i.body:=by rw [hinv]; exact hparts
 refine callPD h63 rfl fun _ => ?_
 refine Dm.appB (by omega) ?_
 refine callPD h64 (congrArg (fun q => [C.sl [[IC i.digest],[IC q]]]) (by rw [bcells_len])) fun _ => ?_
 refine appN _ (lenA (bcells_len (bs:=s)) bcells_len) (by omega) ?_
 refine appN _ (lenA (lenA (bcells_len (bs:=s)) bcells_len) bcells_len) (by omega) ?_
 refine callF [10] [] [] h52 ⟨[],rfl,rfl,?_,rfl,rfl,fun _ _ => ?_⟩
 ·show [C.sl (bcells s ++ bcells (encL encI i.against) ++ bcells (encIs [i.digest,(i.body.length:Int)]) ++ bcells i.body)] = _
  rw [hp2]
  simp only [bcells_app]
 ·refine retP rfl ?_
  rw [encB,h]
  rfl
def RD (l:List UInt8) (b:Bool):TO:=.box 98 [.sl (bcells l),.bool b]
def numR (l:List UInt8) (b:Bool):(List UInt8 × Bool) × Int:=match numD l with
 | some (n,r) => ((r,b),n)
 | none => ((l,true),0)
theorem numR_some {l r:List UInt8} {b:Bool} {n:Int} (h:numD l = some (n,r)):numR l b = ((r,b),n):=by simp only [numR,h]
theorem numR_none {l:List UInt8} {b:Bool} (h:numD l = none):numR l b = ((l,true),0):=by simp only [numR,h]
theorem unz_odd {z:Nat} (h:z % 2 = 1):unz z = -1 - ((z / 2:Nat):Int):=by unfold unz; rw [if_neg (by omega)]; omega
theorem unz_even {z:Nat} (h:¬ z % 2 = 1):unz z = ((z / 2:Nat):Int):=by unfold unz; rw [if_pos (by omega)]
def RDL (l:List UInt8) (b:Bool):TL:=[(1000,RD l b)]
theorem t54 (l:List UInt8) (b:Bool):CallsT PZ 54 [.own 1000 0] [RD l b] (Ret [RD (numR l b).1.1 (numR l b).1.2] (IC (numR l b).2)):=by
 refine callsT_facts Tryd.func54 facts54 rfl fun hw ho => ?_
 have hlen:(bcells l).length = l.length:=bcells_len
 have hl64:l.length ≤ 9223372036854775807:=by
  have h:=ho _ (List.mem_singleton.2 rfl)
  exact wf_lenB h.1
 refine loopN 9 4 [3] (0:Nat) (fun z => [.int .u64 z]) (fun _ => RDL l b) (fun k z => z < 128 ^ k ∧ numGo (9 - k) k z (l.drop k) = numD l) ⟨by simp,rfl⟩ (same_keys rfl) ⟨same_keys rfl,trivial⟩ ⟨.inl ⟨_,rfl,.inl ⟨rfl,rfl⟩⟩,trivial⟩ (fun _ => rfl) (fun _ => rfl) ?_
 rintro k z hk ⟨hz,hinv⟩ _ _ _
 have fin:numD l = none → numR l b = ((l,true),0):=numR_none
 refine brn_p (fun h9 => ?_) (fun h9 => ?_)
 ·have h9:k < 9:=by omega
  refine brn_p (fun hlt => ?_) (fun hge => ?_)
  ·have hlt:k < l.length:=by omega
   refine withDrop hlt fun c hc hcm hd => ?_
   rw [hd,show 9 - k = (9 - (k + 1)) + 1 by omega] at hinv
   simp only [numGo] at hinv
   have hcb:=c.toNat_lt
   have hpk:128 ^ k ≤ 128 ^ 8:=Nat.pow_le_pow_right (by omega) (by omega)
   have hc':c.toNat % 128 < 128:=Nat.mod_lt _ (by omega)
   have hcm:c.toNat % 128 * 128 ^ k ≤ 127 * 128 ^ 8:=Nat.mul_le_mul (by omega) hpk
   refine idxB hc ?_
   refine NonZ.mk (by omega) ?_
   have hct:(c.toNat:Int).tmod 128 = ((c.toNat % 128:Nat):Int):=by
    rw [Int.tmod_eq_emod_of_nonneg (by omega)]; omega
   refine Fit.to (m:=((c.toNat % 128:Nat):Int)) (by rw [hct,wrapu_emod']; omega) ?_
   refine Fit.to (m:=((7 * k:Nat):Int)) (by rw [wrap64_id (by omega) (by omega)]; omega) ?_
   refine Fit.to (m:=((7 * k:Nat):Int)) (by rw [wrapu_emod']; omega) ?_
   refine ⟨by omega,Fit.to (m:=((c.toNat % 128 * 128 ^ k:Nat):Int)) ?_ ?_⟩
   ·rw [wrapu_emod',show min (((7 * k:Nat):Int)).toNat IntKind.u64.bits = 7 * k by simp only [Int.toNat_natCast,IntKind.bits]; omega]
    have:((c.toNat % 128:Nat):Int) * 2 ^ (7 * k) = ((c.toNat % 128 * 128 ^ k:Nat):Int):=by
     rw [show (128:Nat) ^ k = 2 ^ (7 * k) by rw [Nat.pow_mul]]
     push_cast
     rfl
    rw [this]
    omega
   have hsum:z + c.toNat % 128 * 128 ^ k < 128 ^ (k + 1):=by
    have h1:c.toNat % 128 * 128 ^ k ≤ 127 * 128 ^ k:=Nat.mul_le_mul_right _ (by omega)
    rw [Nat.pow_succ]
    omega
   have hp9:128 ^ (k + 1) ≤ 128 ^ 9:=Nat.pow_le_pow_right (by omega) (by omega)
   refine Fit.to (m:=((z + c.toNat % 128 * 128 ^ k:Nat):Int)) (by rw [wrapu_emod']; omega) ?_
   refine brn_p (fun hlo => ?_) (fun hhi => ?_)
   ·have hlo:c.toNat < 128:=by omega
    have hmod:c.toNat % 128 = c.toNat:=Nat.mod_eq_of_lt hlo
    rw [if_pos hlo] at hinv
    refine brn_p (fun h0 => ?_) (fun h0 => ?_)
    ·refine brn_p (fun hk0 => ?_) (fun hk0 => ?_)
     ·rw [if_neg (by omega)] at hinv
      refine retO [1000] rfl rfl ?_ ?_
      ·rw [fin hinv.symm]; rfl
      ·rw [fin hinv.symm]; rfl
     ·have hn:numD l = some (unz (z + c.toNat * 128 ^ k),l.drop (k + 1)):=by rw [← hinv,if_pos (by omega)]
      refine Fit.in64 (by omega) (by omega) ?_
      refine SlcT.mk (by omega) (by omega) (by omega) bcells_sz ?_
      have hsl:((bcells l).drop ((k:Int) + 1).toNat).take (((bcells l).length:Int).toNat - ((k:Int) + 1).toNat) = bcells (l.drop (k + 1)):=by
       rw [bcells_slice,hlen,show ((k:Int) + 1).toNat = k + 1 by omega,List.take_of_length_le (by rw [List.length_drop]; omega)]
      have hnr:=numR_some (b:=b) hn
      refine NonZ.mk (by omega) ?_
      have hrem:(((z + c.toNat % 128 * 128 ^ k:Nat):Int)).tmod 2 = (((z + c.toNat * 128 ^ k) % 2:Nat):Int):=by
       rw [hmod,Int.tmod_eq_emod_of_nonneg (by omega)]; omega
      have hquo:(((z + c.toNat % 128 * 128 ^ k:Nat):Int)).tdiv 2 = (((z + c.toNat * 128 ^ k) / 2:Nat):Int):=by
       rw [hmod,Int.tdiv_eq_ediv_of_nonneg (by omega)]; omega
      rw [hmod] at hsum
      refine brn_p (fun hodd => ?_) (fun hev => ?_)
      ·have hodd:(z + c.toNat * 128 ^ k) % 2 = 1:=by rw [hrem] at hodd; omega
       refine NonZ.mk (by omega) ?_
       refine Fit.to (m:=(((z + c.toNat * 128 ^ k) / 2:Nat):Int)) (by rw [hquo,wrapu_emod']; omega) ?_
       refine Fit.to (m:=(((z + c.toNat * 128 ^ k) / 2:Nat):Int)) (wrap64_small (by omega)) ?_
       refine Fit.in64 (by omega) (by omega) ?_
       refine retO [1000] rfl rfl ?_ ?_
       ·rw [hnr]; exact congrArg (fun q => [TO.box 98 [.sl q,.bool b]]) hsl
       ·rw [hnr]; exact congrArg IC (unz_odd hodd).symm
      ·have hev:¬ (z + c.toNat * 128 ^ k) % 2 = 1:=by rw [hrem] at hev; omega
       refine NonZ.mk (by omega) ?_
       refine Fit.to (m:=(((z + c.toNat * 128 ^ k) / 2:Nat):Int)) (by rw [hquo,wrapu_emod']; omega) ?_
       refine Fit.to (m:=(((z + c.toNat * 128 ^ k) / 2:Nat):Int)) (wrap64_small (by omega)) ?_
       refine retO [1000] rfl rfl ?_ ?_
       ·rw [hnr]; exact congrArg (fun q => [TO.box 98 [.sl q,.bool b]]) hsl
       ·rw [hnr]; exact congrArg IC (unz_even hev).symm
    ·have hn:numD l = some (unz (z + c.toNat * 128 ^ k),l.drop (k + 1)):=by rw [← hinv,if_pos (by omega)]
     refine Fit.in64 (by omega) (by omega) ?_
     refine SlcT.mk (by omega) (by omega) (by omega) bcells_sz ?_
     have hsl:((bcells l).drop ((k:Int) + 1).toNat).take (((bcells l).length:Int).toNat - ((k:Int) + 1).toNat) = bcells (l.drop (k + 1)):=by
      rw [bcells_slice,hlen,show ((k:Int) + 1).toNat = k + 1 by omega,List.take_of_length_le (by rw [List.length_drop]; omega)]
     have hnr:=numR_some (b:=b) hn
     refine NonZ.mk (by omega) ?_
     have hrem:(((z + c.toNat % 128 * 128 ^ k:Nat):Int)).tmod 2 = (((z + c.toNat * 128 ^ k) % 2:Nat):Int):=by
      rw [hmod,Int.tmod_eq_emod_of_nonneg (by omega)]; omega
     have hquo:(((z + c.toNat % 128 * 128 ^ k:Nat):Int)).tdiv 2 = (((z + c.toNat * 128 ^ k) / 2:Nat):Int):=by
      rw [hmod,Int.tdiv_eq_ediv_of_nonneg (by omega)]; omega
     rw [hmod] at hsum
     refine brn_p (fun hodd => ?_) (fun hev => ?_)
     ·have hodd:(z + c.toNat * 128 ^ k) % 2 = 1:=by rw [hrem] at hodd; omega
      refine NonZ.mk (by omega) ?_
      refine Fit.to (m:=(((z + c.toNat * 128 ^ k) / 2:Nat):Int)) (by rw [hquo,wrapu_emod']; omega) ?_
      refine Fit.to (m:=(((z + c.toNat * 128 ^ k) / 2:Nat):Int)) (wrap64_small (by omega)) ?_
      refine Fit.in64 (by omega) (by omega) ?_
      refine retO [1000] rfl rfl ?_ ?_
      ·rw [hnr]; exact congrArg (fun q => [TO.box 98 [.sl q,.bool b]]) hsl
      ·rw [hnr]; exact congrArg IC (unz_odd hodd).symm
     ·have hev:¬ (z + c.toNat * 128 ^ k) % 2 = 1:=by rw [hrem] at hev; omega
      refine NonZ.mk (by omega) ?_
      refine Fit.to (m:=(((z + c.toNat * 128 ^ k) / 2:Nat):Int)) (by rw [hquo,wrapu_emod']; omega) ?_
      refine Fit.to (m:=(((z + c.toNat * 128 ^ k) / 2:Nat):Int)) (wrap64_small (by omega)) ?_
      refine retO [1000] rfl rfl ?_ ?_
      ·rw [hnr]; exact congrArg (fun q => [TO.box 98 [.sl q,.bool b]]) hsl
      ·rw [hnr]; exact congrArg IC (unz_even hev).symm
   ·have hhi:¬ c.toNat < 128:=by omega
    rw [if_neg hhi,show c.toNat - 128 = c.toNat % 128 by omega] at hinv
    refine Fit.in64 (by omega) (by omega) ?_
    refine ⟨(k + 1,z + c.toNat % 128 * 128 ^ k),⟨by omega,hsum,hinv⟩,⟨nextI,same_keys rfl,trivial⟩,⟨.inl ⟨_,rfl,.inl ⟨rfl,rfl⟩⟩,trivial⟩,(by show 9 - (k + 1) < 9 - k; omega)⟩
  ·have hge:l.length ≤ k:=by omega
   rw [List.drop_of_length_le hge,show 9 - k = (9 - (k + 1)) + 1 by omega] at hinv
   have hn:numD l = none:=hinv.symm
   refine retO [1000] rfl rfl ?_ ?_
   ·rw [fin hn]; rfl
   ·rw [fin hn]; rfl
 ·have h9:9 ≤ k:=by omega
  rw [show 9 - k = 0 by omega] at hinv
  have hn:numD l = none:=hinv.symm
  refine retO [1000] rfl rfl ?_ ?_
  ·rw [fin hn]; rfl
  ·rw [fin hn]; rfl
def bytesR (l:List UInt8) (b:Bool):(List UInt8 × Bool) × List UInt8 :=
 if (numR l b).1.2 = true ∨ (numR l b).2 < 0 ∨ ((numR l b).1.1.length:Int) < (numR l b).2 then (((numR l b).1.1,true),[])
 else (((numR l b).1.1.drop (numR l b).2.toNat,false),(numR l b).1.1.take (numR l b).2.toNat)
theorem bytesR_no {l:List UInt8} {b:Bool} (h:(numR l b).1.2 = true ∨ (numR l b).2 < 0 ∨ ((numR l b).1.1.length:Int) < (numR l b).2):bytesR l b = (((numR l b).1.1,true),[]):=if_pos h
theorem bytesR_yes {l:List UInt8} {b:Bool} (h:¬ ((numR l b).1.2 = true ∨ (numR l b).2 < 0 ∨ ((numR l b).1.1.length:Int) < (numR l b).2)) :
  bytesR l b = (((numR l b).1.1.drop (numR l b).2.toNat,false),(numR l b).1.1.take (numR l b).2.toNat):=if_neg h
theorem numR_le (l:List UInt8) (b:Bool):(numR l b).1.1.length ≤ l.length:=by
 unfold numR
 cases h:numD l with
 | none => simp
 | some p =>
  obtain ⟨n,r⟩:=p
  have e:=congrArg List.length (num_rt.rd _ _ _ h).2
  simp only [List.length_append] at e
  show r.length ≤ l.length
  omega
theorem t53 (l:List UInt8) (b:Bool) (hl:l.length ≤ 70368744177664):CallsT PZ 53 [.own 1000 0] [RD l b] (Ret [RD (bytesR l b).1.1 (bytesR l b).1.2] (.sl (bcells (bytesR l b).2))):=by
 have h54:=t54 l b
 have hle:=numR_le l b
 have hno:=bytesR_no (l:=l) (b:=b)
 have hyes:=bytesR_yes (l:=l) (b:=b)
 generalize bytesR l b = X at hno hyes ⊢
 generalize (numR l b).1.1 = r at *
 generalize (numR l b).1.2 = b' at *
 generalize (numR l b).2 = n at *
 have hlen:(bcells r).length = r.length:=bcells_len
 refine callsT_facts Tryd.func53 facts53 rfl fun hw ho => ?_
 refine callO [1000] [1000] h54 rfl rfl rfl rfl rfl fun hwn _ => ?_
 refine brn_split (fun hb => ?_) (fun hb => ?_)
 ·refine retO [1000] rfl rfl ?_ ?_
  ·rw [hno (.inl hb)]; rfl
  ·rw [hno (.inl hb)]; rfl
 have hb:b' = false:=hb
 refine brn_p (fun h0 => ?_) (fun h0 => ?_)
 ·refine retO [1000] rfl rfl ?_ ?_
  ·rw [hno (.inr (.inl h0))]; rfl
  ·rw [hno (.inr (.inl h0))]; rfl
 refine brn_p (fun h1 => ?_) (fun h1 => ?_)
 ·have h1:((bcells r).length:Int) < n:=h1
  refine retO [1000] rfl rfl ?_ ?_
  ·rw [hno (.inr (.inr (by omega)))]; rfl
  ·rw [hno (.inr (.inr (by omega)))]; rfl
 have h1:¬ ((bcells r).length:Int) < n:=h1
 have hX:=hyes (by rw [hb]; rintro (h | h | h); exact Bool.noConfusion h; omega; omega)
 have hsl1:((bcells r).drop (Int.toNat 0)).take (n.toNat - Int.toNat 0) = bcells (r.take n.toNat):=bcells_slice r 0 _
 have hsl2:((bcells r).drop n.toNat).take (((bcells r).length:Int).toNat - n.toNat) = bcells (r.drop n.toNat):=by
  rw [bcells_slice,hlen,List.take_of_length_le (by rw [List.length_drop]; omega)]
 refine SlcT.mk (by omega) (by omega) (by omega) bcells_sz ?_
 have hAl:(((bcells r).drop (Int.toNat 0)).take (n.toNat - Int.toNat 0)).length ≤ r.length:=by
  rw [hsl1,bcells_len,List.length_take]; omega
 refine AppT.mk (fun es he => bcells_sz es (by rw [← hsl1]; exact he)) ?_ ?_ ?_
 ·show 0 + (((bcells r).drop (Int.toNat 0)).take (n.toNat - Int.toNat 0)).length ≤ maxLen
  simp only [maxLen]; omega
 ·show (0 + (((bcells r).drop (Int.toNat 0)).take (n.toNat - Int.toNat 0)).length) * 1 ≤ _
  omega
 refine SlcT.mk (by omega) (by omega) (by omega) bcells_sz ?_
 refine retF [27] [1000] ⟨_,_,rfl,rfl,rfl,?_,?_⟩
 ·rw [hX]; exact congrArg (fun q => [TO.box 98 [.sl q,.bool b']]) hsl2 |>.trans (by rw [hb]; rfl)
 ·rw [hX]; exact congrArg C.sl hsl1
theorem numR_spec (l:List UInt8) (b:Bool):((numR l b).1.2 = false → b = false ∧ numD l = some ((numR l b).2,(numR l b).1.1)) ∧ ((numR l b).1.2 = true → b = true ∨ numD l = none):=by
 unfold numR
 cases h:numD l with
 | none => exact ⟨fun h => (by cases h),fun _ => .inr rfl⟩
 | some p => exact ⟨fun h => ⟨h,rfl⟩,fun h => .inl h⟩
theorem bytesD_eq (l:List UInt8):bytesD l = match numD l with | some (n,r) => takeD n r | none => none:=rfl
theorem bytesR_spec (l:List UInt8) (b:Bool):((bytesR l b).1.2 = false → b = false ∧ bytesD l = some ((bytesR l b).2,(bytesR l b).1.1)) ∧ ((bytesR l b).1.2 = true → b = true ∨ bytesD l = none):=by
 obtain ⟨h1,h2⟩:=numR_spec l b
 by_cases h:(numR l b).1.2 = true ∨ (numR l b).2 < 0 ∨ ((numR l b).1.1.length:Int) < (numR l b).2
 ·rw [bytesR_no h]
  refine ⟨fun h => (by cases h),fun _ => ?_⟩
  cases hb:(numR l b).1.2 with
  | true => exact (h2 hb).imp id fun e => by rw [bytesD_eq,e]
  | false =>
   obtain ⟨e1,e2⟩:=h1 hb
   right
   rw [bytesD_eq,e2]
   simp only [takeD]
   rw [if_neg]
   rintro ⟨h3,h4⟩
   rcases h with h | h | h
   ·rw [hb] at h; cases h
   ·omega
   ·omega
 ·rw [bytesR_yes h]
  refine ⟨fun _ => ?_,fun h => (by cases h)⟩
  have hb:(numR l b).1.2 = false:=by cases e:(numR l b).1.2 with | false => rfl | true => exact absurd (.inl e) h
  obtain ⟨e1,e2⟩:=h1 hb
  refine ⟨e1,?_⟩
  rw [bytesD_eq,e2]
  have h3:¬ (numR l b).2 < 0:=fun e => h (.inr (.inl e))
  have h4:¬ ((numR l b).1.1.length:Int) < (numR l b).2:=fun e => h (.inr (.inr e))
  exact takeD_pos (by omega) (by omega)
theorem bytesR_le (l:List UInt8) (b:Bool):(bytesR l b).1.1.length ≤ l.length:=by
 have:=numR_le l b
 unfold bytesR
 split
 ·exact this
 ·show ((numR l b).1.1.drop _).length ≤ _
  rw [List.length_drop]; omega
theorem bytesD_lt {l b r:List UInt8} (h:bytesD l = some (b,r)):r.length < l.length:=by
 have e:=congrArg List.length (bytes_rt.rd _ _ _ h).2
 have:=num_ne (b.length:Int)
 simp only [bytesB,List.length_append] at e
 omega
theorem numD_lt {l r:List UInt8} {n:Int} (h:numD l = some (n,r)):r.length < l.length:=by
 have e:=congrArg List.length (num_rt.rd _ _ _ h).2
 have:=num_ne n
 simp only [List.length_append] at e
 omega
structure LInv {α:Type} (f:Dec α) (n:Int) (l2:List UInt8) (b2:Bool) (k:Nat) (xs:List α) (l:List UInt8) (b:Bool):Prop where
 le:l.length ≤ l2.length
 good:b = false → b2 = false ∧ xs.length = k ∧ xs.length + l.length ≤ l2.length ∧ repO xs (repD f (n.toNat - k) l) = repD f n.toNat l2
 bad:b = true → b2 = true ∨ repD f n.toNat l2 = none
theorem LInv.init {α:Type} {f:Dec α} {n:Int} {l2:List UInt8} {b2:Bool}:LInv f n l2 b2 0 [] l2 b2 :=
 ⟨Nat.le_refl _,fun h => ⟨h,rfl,by simp,by rw [repO_nil]; rfl⟩,fun h => .inl h⟩
theorem LInv.step {α:Type} {f:Dec α} {n:Int} {l2 l l':List UInt8} {b2 b b':Bool} {k:Nat} {xs:List α} {x:α} (h:LInv f n l2 b2 k xs l b) (hk:k < n.toNat) (hb:b = false)
  (hle:l'.length ≤ l.length) (h1:b' = false → f l = some (x,l') ∧ l'.length < l.length) (h2:b' = true → f l = none):LInv f n l2 b2 (k + 1) (xs ++ [x]) l' b':=by
 obtain ⟨g1,g2,g3,g4⟩:=h.good hb
 have hle0:=h.le
 have e:n.toNat - k = (n.toNat - (k + 1)) + 1:=by omega
 rw [e] at g4
 refine ⟨by omega,fun hb' => ?_,fun hb' => ?_⟩
 ·obtain ⟨e1,e2⟩:=h1 hb'
  refine ⟨g1,by simp [g2],by simp; omega,?_⟩
  rw [← g4,repO_step e1]
 ·right
  rw [← g4,repO_none (h2 hb')]
theorem LInv.fin {α:Type} {f:Dec α} {K:List α → Dec Ifc} {D:Option (Ifc × List UInt8)} {n:Int} {l1 l2 l:List UInt8} {b1 b2 b:Bool} {k:Nat} {xs:List α} (h:LInv f n l2 b2 k xs l b) (hk:k ≤ n.toNat)
  (hG:b1 = false → D = andD (listD f) K l1) (hN:b1 = true → D = none) (h1:b2 = false → b1 = false ∧ numD l1 = some (n,l2)) (h2:b2 = true → b1 = true ∨ numD l1 = none) (he:b = false → n.toNat ≤ k) :
  ((b || decide (n < 0)) = false → D = K xs l) ∧ ((b || decide (n < 0)) = true → D = none):=by
 have hl:∀ {o},b2 = false → (0 ≤ n → n ≤ l2.length → repD f n.toNat l2 = o) → (¬ (0 ≤ n ∧ n ≤ l2.length) → none = o) → D = andD (listD f) K l1 ∧ listD f l1 = o:=by
  intro o hb hy hn
  obtain ⟨e1,e2⟩:=h1 hb
  refine ⟨hG e1,?_⟩
  simp only [listD,e2]
  split
  ·rename_i hc; exact hy hc.1 hc.2
  ·rename_i hc; exact hn hc
 have bad2:b2 = true → D = none:=fun hb => by
  rcases h2 hb with e | e
  ·exact hN e
  ·cases hb1:b1 with
   | true => exact hN hb1
   | false => rw [hG hb1]; exact andD_none (by simp only [listD,e])
 refine ⟨fun hB => ?_,fun hB => ?_⟩
 ·simp only [Bool.or_eq_false_iff,decide_eq_false_iff_not] at hB
  obtain ⟨g1,g2,g3,g4⟩:=h.good hB.1
  have:=he hB.1
  have hkn:n.toNat - k = 0:=by omega
  rw [hkn] at g4
  have g4:repD f n.toNat l2 = some (xs,l):=by rw [← g4]; simp [repD,repO]
  obtain ⟨e1,e2⟩:=hl (o:=some (xs,l)) g1 (fun _ _ => g4) (fun hc => absurd ⟨by omega,by omega⟩ hc)
  rw [e1]
  exact andD_some e2
 ·simp only [Bool.or_eq_true,decide_eq_true_eq] at hB
  cases hb2:b2 with
  | true => exact bad2 hb2
  | false =>
   rcases hB with hb | hn
   ·rcases h.bad hb with e | e
    ·rw [hb2] at e; cases e
    ·obtain ⟨e1,e2⟩:=hl (o:=none) hb2 (fun _ _ => e) (fun _ => rfl)
     rw [e1]
     exact andD_none e2
   ·obtain ⟨e1,e2⟩:=hl (o:=none) hb2 (fun h0 _ => by omega) (fun _ => rfl)
    rw [e1]
    exact andD_none e2
section
variable {L:TL} {ρ:TEnv}
theorem xdO (kb:Nat) {PS:Pan} {fb:List Nat} {f:Nat} {args args':List C} {o o':TO} {x:C} {K:TL → TEnv → C → Prop} (h:CallsT PZ f args' [o] (Ret [o'] x))
  (hs:L.sub [kb] = some [o]) (hfb:disjB [kb] fb = true) (hbx:boxesAt [o] [kb] [kb] = true) (hh:hbOk L [kb] PS.hb = true) (ha:(args.map fun c => c.canA.ren (toIn [kb] 1000)) = args') (hl:o.mapC (C.ren (toIn [kb] 1000)) = o) (hr:rowsOf L [kb] = [])
  (k:Wf x → K ((L.dels [kb]).puts [kb] [o'.mapC (C.ren (fromIn [kb]))]) ρ (x.ren (fromIn [kb])).slt):CallXDT PZ PS fb f args L ρ K:=by
 subst ha
 refine ⟨[kb],[o],_,fun _ => False,hs,rfl,hfb,hbx,hh,by rw [List.map_cons,List.map_nil,hl]; exact h.toX,fun v h => False.elim h,?_⟩
 rintro v Mo ⟨rfl,rfl⟩ hw hwo
 refine ⟨rfl,?_⟩
 rw [hr]
 exact k hw
end
theorem use54 {G:Prop} (l:List UInt8) (b:Bool) (k:∀ (l':List UInt8) (b':Bool) (n:Int),l'.length ≤ l.length → (b' = false → b = false ∧ numD l = some (n,l')) → (b' = true → b = true ∨ numD l = none) → CallsT PZ 54 [.own 1000 0] [RD l b] (Ret [RD l' b'] (IC n)) → G):G :=
 k _ _ _ (numR_le l b) (numR_spec l b).1 (numR_spec l b).2 (t54 l b)
theorem use53 {G:Prop} (l:List UInt8) (b:Bool) (hl:l.length ≤ 1073741824) (k:∀ (l':List UInt8) (b':Bool) (m:List UInt8),l'.length ≤ l.length → (b' = false → b = false ∧ bytesD l = some (m,l')) → (b' = true → b = true ∨ bytesD l = none) → CallsT PZ 53 [.own 1000 0] [RD l b] (Ret [RD l' b'] (.sl (bcells m))) → G):G :=
 k _ _ _ (bytesR_le l b) (bytesR_spec l b).1 (bytesR_spec l b).2 (t53 l b (by omega))
def K2 (m:ByteArray) (u:List ByteArray):List Int → Dec Ifc:=fun a => andD numD fun d => andD bytesD fun b => retD ⟨m,u,a,d,b⟩
def K1 (m:ByteArray):List ByteArray → Dec Ifc:=fun u => andD (listD numD) (K2 m u)
theorem textD_some {l r b:List UInt8} (h:bytesD l = some (b,r)):textD l = some (⟨b.toArray⟩,r):=by simp only [textD,h]
theorem textD_none {l:List UInt8} (h:bytesD l = none):textD l = none:=by simp only [textD,h]
theorem chain_end {s l4 l5 l6 bd:List UInt8} {m:ByteArray} {u:List ByteArray} {a:List Int} {d:Int} {B b5 b6:Bool} (hG:B = false → ifD s = K2 m u a l4) (hN:B = true → ifD s = none)
  (hg5:b5 = false → B = false ∧ numD l4 = some (d,l5)) (hn5:b5 = true → B = true ∨ numD l4 = none) (hg6:b6 = false → b5 = false ∧ bytesD l5 = some (bd,l6)) (hn6:b6 = true → b5 = true ∨ bytesD l5 = none) :
  (b6 = false → ifD s = some (⟨m,u,a,d,bd⟩,l6)) ∧ (b6 = true → ifD s = none):=by
 have hK:∀ {o},B = false → K2 m u a l4 = o → ifD s = o:=fun h e => (hG h).trans e
 refine ⟨fun h => ?_,fun h => ?_⟩
 ·obtain ⟨e1,e2⟩:=hg6 h
  obtain ⟨e3,e4⟩:=hg5 e1
  exact hK e3 ((andD_some e4).trans (andD_some e2))
 ·cases hB:B with
  | true => exact hN hB
  | false =>
   cases h5:b5 with
   | true =>
    rcases hn5 h5 with e | e
    ·rw [hB] at e; cases e
    ·exact hK hB (andD_none e)
   | false =>
    obtain ⟨e3,e4⟩:=hg5 h5
    rcases hn6 h with e | e
    ·rw [h5] at e; cases e
    ·exact hK e3 ((andD_some e4).trans (andD_none e))
def DL1 (M:ByteArray) (xs:List ByteArray) (l:List UInt8) (b:Bool):TL :=
 [(2,.box 32 [.str ⟨#[]⟩,.nils,.nils,IC 0,.nils]),(28,RD l b),(6,.box 32 [.str M,.rw 53,.nils,IC 0,.nils]),(53,.row 9 1 (strs xs))]
def DL2 (M:ByteArray) (xs:List ByteArray) (ys:List Int) (l:List UInt8) (b:Bool):TL :=
 [(2,.box 32 [.str ⟨#[]⟩,.nils,.nils,IC 0,.nils]),(28,RD l b),(6,.box 32 [.str M,.rw 53,.rw 85,IC 0,.nils]),(53,.row 9 1 (strs xs)),(85,.row 3 1 (ics ys))]
set_option maxHeartbeats 2000000 in
set_option maxRecDepth 20000 in
theorem t12 (bs:List UInt8) (hb:bs.length ≤ 1073741824):CallsT PZ 12 [.sl (bcells bs)] [] (Ret [] (.tup [.agg (ifC (decI bs).1),IC (decI bs).2])):=by
 obtain ⟨s,hs⟩:∃ s,bs.take (bs.length - 4) = s:=⟨_,rfl⟩
 have hsl:s.length ≤ bs.length:=by rw [← hs,List.length_take]; omega
 have hlen:(bcells bs).length = bs.length:=bcells_len
 refine callsT_facts Tryd.func12 facts12 rfl fun hw ho => ?_
 refine brn_p (fun h0 => ?_) (fun h0 => ?_)
 ·exact retP rfl (by rw [decI_1 (by omega)]; rfl)
 have h4:4 ≤ bs.length:=by omega
 have hn:((bcells bs).drop 0).take (((bcells bs).length - 4:Int).toNat - 0) = bcells s:=by
  rw [bcells_slice,hlen,show ((bs.length:Int) - 4).toNat - 0 = bs.length - 4 by omega,← hs]; rfl
 refine Fit.in64 (by omega) (by omega) ?_
 refine SlcT.mk (by omega) (by omega) (by omega) bcells_sz ?_
 refine callP (t52 s (by omega)) (congrArg (fun q => [C.sl q]) hn) fun _ => ?_
 refine callP (t14 (sealB s) bs) rfl fun _ => ?_
 refine brn_split (fun hne => ?_) (fun heq => ?_)
 ·have hne:(!decide (sealB s = bs)) = true:=hne
  have hne:¬ sealB s = bs:=by simpa using hne
  exact retP rfl (by rw [decI_2 h4 hs hne]; rfl)
 have heq:(!decide (sealB s = bs)) = false:=heq
 have heq:sealB s = bs:=by simpa using heq
 refine SlcT.mk (by omega) (by omega) (by omega) bcells_sz ?_
 refine use53 s false (by omega) fun l1 b1 m hl1 hg1 hn1 h53 => ?_
 refine callO [28] [28] h53 rfl rfl rfl (congrArg (fun q => [TO.box 98 [.sl q,.bool false]]) hn) rfl fun _ _ => ?_
 refine BytesT.mk ⟨m,rfl,?_⟩
 have hG1:b1 = false → ifD s = andD (listD textD) (K1 ⟨m.toArray⟩) l1:=fun h => andD_some (textD_some (hg1 h).2)
 have hN1:b1 = true → ifD s = none:=fun h => andD_none (textD_none ((hn1 h).resolve_left Bool.noConfusion))
 refine use54 l1 b1 fun l2 b2 n hl2 hg2 hn2 h54 => ?_
 refine callO [28] [28] h54 rfl rfl rfl rfl rfl fun hw1 _ => ?_
 have hwn:=wf_I hw1
 refine loopN n.toNat 7 [] (([]:List ByteArray),l2,b2) (fun _ => []) (fun y => DL1 ⟨m.toArray⟩ y.1 y.2.1 y.2.2) (fun k y => LInv textD n l2 b2 k y.1 y.2.1 y.2.2) LInv.init (same_keys rfl) trivial
  ⟨.inl ⟨_,rfl,.inl ⟨rfl,rfl⟩⟩,.inl ⟨_,rfl,.inl ⟨rfl,rfl⟩⟩,.inl ⟨_,rfl,.inr ⟨32,_,_,rfl,rfl,_,_,rfl,same_keys rfl,_,_,rfl,nil_rw rfl rfl,_,_,rfl,same_keys rfl,_,_,rfl,same_keys rfl,_,_,rfl,same_keys rfl,rfl⟩⟩,.inr ⟨rfl,9,1,rfl⟩,trivial⟩ (fun _ => rfl) (fun _ => rfl) ?_
 rintro k ⟨xs,l,b⟩ hk hinv _ _ _
 simp only at hinv
 refine brn_p (fun hlt => ?_) (fun hge => ?_)
 ·refine brn_split (fun hb1 => ?_) (fun hb1 => ?_)
  ·have hb1:b = false:=by simpa using hb1
   have hgood:=hinv.good hb1
   have hle:=hinv.le
   refine use53 l b (by omega) fun l' b' x hl' hg' hn' h53 => ?_
   refine xdO 28 h53 rfl rfl rfl rfl rfl rfl rfl fun _ => ?_
   refine BytesT.mk ⟨x,rfl,?_⟩
   refine app1r k rfl (by rw [strs_len]; exact hgood.2.1) (by omega) (by omega) ?_
   refine Fit.in64 (by omega) (by omega) ?_
   refine ⟨(k + 1,(xs ++ [⟨x.toArray⟩],l',b')),⟨by omega,hinv.step (by omega) hb1 hl' (fun h => ⟨textD_some (hg' h).2,bytesD_lt (hg' h).2⟩) (fun h => textD_none ((hn' h).resolve_left (by rw [hb1]; exact Bool.noConfusion)))⟩,⟨nextI,trivial⟩,⟨.inl ⟨_,rfl,.inl ⟨rfl,rfl⟩⟩,.inl ⟨_,rfl,.inl ⟨rfl,rfl⟩⟩,.inl ⟨_,rfl,.inl ⟨rfl,rfl⟩⟩,.inl ⟨_,rfl,.inl ⟨?_,rfl⟩⟩,trivial⟩,(by show n.toNat - (k + 1) < n.toNat - k; omega)⟩
   exact congrArg (TO.row 9 1) (List.map_append (f:=fun n => [C.str n]) (l₁:=xs) (l₂:=[_])).symm
  ·have hb1:b = true:=by simpa using hb1
   have he:b = false → n.toNat ≤ k:=fun h => by rw [hb1] at h; cases h
   refine brn_split (fun q0 => ?_) (fun q0 => absurd (hb1.symm.trans q0) (by simp))
   have hfin:=hinv.fin (K:=K1 ⟨m.toArray⟩) (D:=ifD s) hk hG1 hN1 hg2 hn2 he
   have hG3:true = false → ifD s = andD (listD numD) (K2 ⟨m.toArray⟩ xs) l:=fun h => Bool.noConfusion h
   have hN3:true = true → ifD s = none:=fun h => hfin.2 (by rw [hb1]; rfl)
   have hle3:l.length ≤ 1073741824:=by have:=hinv.le; omega
   refine use54 l (true) fun l3 b3 n2 hl3 hg4 hn4 h54 => ?_
   refine callO [28] [28] h54 rfl rfl rfl rfl rfl fun hw2 _ => ?_
   have hwn2:=wf_I hw2
   refine loopN n2.toNat 8 [] (([]:List Int),l3,b3) (fun _ => []) (fun y => DL2 ⟨m.toArray⟩ xs y.1 y.2.1 y.2.2) (fun k y => LInv numD n2 l3 b3 k y.1 y.2.1 y.2.2) LInv.init (same_keys rfl) trivial
    ⟨.inl ⟨_,rfl,.inl ⟨rfl,rfl⟩⟩,.inl ⟨_,rfl,.inl ⟨rfl,rfl⟩⟩,.inl ⟨_,rfl,.inr ⟨32,_,_,rfl,rfl,_,_,rfl,same_keys rfl,_,_,rfl,same_keys rfl,_,_,rfl,nil_rw rfl rfl,_,_,rfl,same_keys rfl,_,_,rfl,same_keys rfl,rfl⟩⟩,.inl ⟨_,rfl,.inl ⟨rfl,rfl⟩⟩,.inr ⟨rfl,3,1,rfl⟩,trivial⟩ (fun _ => rfl) (fun _ => rfl) ?_
   rintro k2 ⟨ys,l4,b4⟩ hk2 hinv2 _ _ _
   simp only at hinv2
   refine brn_p (fun hlt2 => ?_) (fun hge2 => ?_)
   ·refine brn_split (fun hb2 => ?_) (fun hb2 => ?_)
    ·have hb2:b4 = false:=by simpa using hb2
     have hgood:=hinv2.good hb2
     have hle4:=hinv2.le
     refine use54 l4 b4 fun l' b' x hl' hg' hn' h54 => ?_
     refine xdO 28 h54 rfl rfl rfl rfl rfl rfl rfl fun _ => ?_
     refine app1r k2 rfl (by rw [ics_len]; exact hgood.2.1) (by omega) (by omega) ?_
     refine Fit.in64 (by omega) (by omega) ?_
     refine ⟨(k2 + 1,(ys ++ [x],l',b')),⟨by omega,hinv2.step (by omega) hb2 hl' (fun h => ⟨(hg' h).2,numD_lt (hg' h).2⟩) (fun h => (hn' h).resolve_left (by rw [hb2]; exact Bool.noConfusion))⟩,⟨nextI,trivial⟩,⟨.inl ⟨_,rfl,.inl ⟨rfl,rfl⟩⟩,.inl ⟨_,rfl,.inl ⟨rfl,rfl⟩⟩,.inl ⟨_,rfl,.inl ⟨rfl,rfl⟩⟩,.inl ⟨_,rfl,.inl ⟨rfl,rfl⟩⟩,.inl ⟨_,rfl,.inl ⟨?_,rfl⟩⟩,trivial⟩,(by show n2.toNat - (k2 + 1) < n2.toNat - k2; omega)⟩
     exact congrArg (TO.row 3 1) (List.map_append (f:=fun n => [IC n]) (l₁:=ys) (l₂:=[x])).symm
    ·have hb2:b4 = true:=by simpa using hb2
     have he2:b4 = false → n2.toNat ≤ k2:=fun h => by rw [hb2] at h; cases h
     refine brn_split (fun q0 => ?_) (fun q0 => absurd (hb2.symm.trans q0) (by simp))
     have hfin2:=hinv2.fin (K:=K2 ⟨m.toArray⟩ xs) (D:=ifD s) hk2 hG3 hN3 hg4 hn4 he2
     have hG5:true = false → ifD s = K2 ⟨m.toArray⟩ xs ys l4:=fun h => Bool.noConfusion h
     have hN5:true = true → ifD s = none:=fun h => hfin2.2 (by rw [hb2]; rfl)
     have hle5:l4.length ≤ 1073741824:=by have:=hinv2.le; omega
     refine use54 l4 (true) fun l5 b5 d hl5 hg5 hn5 h54 => ?_
     refine callO [28] [28] h54 rfl rfl rfl rfl rfl fun _ _ => ?_
     refine use53 l5 b5 (by omega) fun l6 b6 bd hl6 hg6 hn6 h53 => ?_
     refine callO [28] [28] h53 rfl rfl rfl rfl rfl fun _ _ => ?_
     have hend:=chain_end hG5 hN5 hg5 hn5 hg6 hn6
     refine brn_split (fun q => ?_) (fun q => ?_)
     ·exact retP rfl (by rw [decI_3 h4 hs heq (hend.2 q)]; rfl)
     have hok:=hend.1 q
     refine brn_p (fun q1 => ?_) (fun q1 => ?_)
     ·have q1:((bcells l6).length:Int) > 0:=q1
      rw [bcells_len] at q1
      exact retP rfl (by rw [decI_4 h4 hs heq hok (fun h => by omega)]; rfl)
     have q1:¬ ((bcells l6).length:Int) > 0:=q1
     rw [bcells_len] at q1
     refine callF [53,85] [] [] (t19 ⟨⟨m.toArray⟩,xs,ys,d,bd⟩) ⟨[],rfl,rfl,rfl,rfl,rfl,fun _ _ => ?_⟩
     refine brn_split (fun hv => ?_) (fun hv => ?_)
     ·have hv:(!validI ⟨⟨m.toArray⟩,xs,ys,d,bd⟩) = true:=hv
      exact retP rfl (by rw [decI_4 h4 hs heq hok (fun h => by rw [h.2] at hv; cases hv)]; rfl)
     have hv:(!validI ⟨⟨m.toArray⟩,xs,ys,d,bd⟩) = false:=hv
     have hd:=decI_5 h4 hs heq hok ⟨by omega,by simpa using hv⟩
     exact retP rfl (by rw [hd]; rfl)
   ·have he2:b4 = false → n2.toNat ≤ k2:=fun _ => by omega
    refine brn_split (fun hb2 => ?_) (fun hb2 => ?_)
    ·have hb2:b4 = true:=hb2
     have hfin2:=hinv2.fin (K:=K2 ⟨m.toArray⟩ xs) (D:=ifD s) hk2 hG3 hN3 hg4 hn4 he2
     have hG5:true = false → ifD s = K2 ⟨m.toArray⟩ xs ys l4:=fun h => Bool.noConfusion h
     have hN5:true = true → ifD s = none:=fun h => hfin2.2 (by rw [hb2]; rfl)
     have hle5:l4.length ≤ 1073741824:=by have:=hinv2.le; omega
     refine use54 l4 (true) fun l5 b5 d hl5 hg5 hn5 h54 => ?_
     refine callO [28] [28] h54 rfl rfl rfl rfl rfl fun _ _ => ?_
     refine use53 l5 b5 (by omega) fun l6 b6 bd hl6 hg6 hn6 h53 => ?_
     refine callO [28] [28] h53 rfl rfl rfl rfl rfl fun _ _ => ?_
     have hend:=chain_end hG5 hN5 hg5 hn5 hg6 hn6
     refine brn_split (fun q => ?_) (fun q => ?_)
     ·exact retP rfl (by rw [decI_3 h4 hs heq (hend.2 q)]; rfl)
     have hok:=hend.1 q
     refine brn_p (fun q1 => ?_) (fun q1 => ?_)
     ·have q1:((bcells l6).length:Int) > 0:=q1
      rw [bcells_len] at q1
      exact retP rfl (by rw [decI_4 h4 hs heq hok (fun h => by omega)]; rfl)
     have q1:¬ ((bcells l6).length:Int) > 0:=q1
     rw [bcells_len] at q1
     refine callF [53,85] [] [] (t19 ⟨⟨m.toArray⟩,xs,ys,d,bd⟩) ⟨[],rfl,rfl,rfl,rfl,rfl,fun _ _ => ?_⟩
     refine brn_split (fun hv => ?_) (fun hv => ?_)
     ·have hv:(!validI ⟨⟨m.toArray⟩,xs,ys,d,bd⟩) = true:=hv
      exact retP rfl (by rw [decI_4 h4 hs heq hok (fun h => by rw [h.2] at hv; cases hv)]; rfl)
     have hv:(!validI ⟨⟨m.toArray⟩,xs,ys,d,bd⟩) = false:=hv
     have hd:=decI_5 h4 hs heq hok ⟨by omega,by simpa using hv⟩
     exact retP rfl (by rw [hd]; rfl)
    ·have hb2:b4 = false:=hb2
     have hfin2:=hinv2.fin (K:=K2 ⟨m.toArray⟩ xs) (D:=ifD s) hk2 hG3 hN3 hg4 hn4 he2
     have hG5:decide (n2 < 0) = false → ifD s = K2 ⟨m.toArray⟩ xs ys l4:=fun h => hfin2.1 (by rw [hb2,h]; rfl)
     have hN5:decide (n2 < 0) = true → ifD s = none:=fun h => hfin2.2 (by rw [hb2,h]; rfl)
     have hle5:l4.length ≤ 1073741824:=by have:=hinv2.le; omega
     refine use54 l4 (decide (n2 < 0)) fun l5 b5 d hl5 hg5 hn5 h54 => ?_
     refine callO [28] [28] h54 rfl rfl rfl rfl rfl fun _ _ => ?_
     refine use53 l5 b5 (by omega) fun l6 b6 bd hl6 hg6 hn6 h53 => ?_
     refine callO [28] [28] h53 rfl rfl rfl rfl rfl fun _ _ => ?_
     have hend:=chain_end hG5 hN5 hg5 hn5 hg6 hn6
     refine brn_split (fun q => ?_) (fun q => ?_)
     ·exact retP rfl (by rw [decI_3 h4 hs heq (hend.2 q)]; rfl)
     have hok:=hend.1 q
     refine brn_p (fun q1 => ?_) (fun q1 => ?_)
     ·have q1:((bcells l6).length:Int) > 0:=q1
      rw [bcells_len] at q1
      exact retP rfl (by rw [decI_4 h4 hs heq hok (fun h => by omega)]; rfl)
     have q1:¬ ((bcells l6).length:Int) > 0:=q1
     rw [bcells_len] at q1
     refine callF [53,85] [] [] (t19 ⟨⟨m.toArray⟩,xs,ys,d,bd⟩) ⟨[],rfl,rfl,rfl,rfl,rfl,fun _ _ => ?_⟩
     refine brn_split (fun hv => ?_) (fun hv => ?_)
     ·have hv:(!validI ⟨⟨m.toArray⟩,xs,ys,d,bd⟩) = true:=hv
      exact retP rfl (by rw [decI_4 h4 hs heq hok (fun h => by rw [h.2] at hv; cases hv)]; rfl)
     have hv:(!validI ⟨⟨m.toArray⟩,xs,ys,d,bd⟩) = false:=hv
     have hd:=decI_5 h4 hs heq hok ⟨by omega,by simpa using hv⟩
     exact retP rfl (by rw [hd]; rfl)
 ·have he:b = false → n.toNat ≤ k:=fun _ => by omega
  refine brn_split (fun hb1 => ?_) (fun hb1 => ?_)
  ·have hb1:b = true:=hb1
   have hfin:=hinv.fin (K:=K1 ⟨m.toArray⟩) (D:=ifD s) hk hG1 hN1 hg2 hn2 he
   have hG3:true = false → ifD s = andD (listD numD) (K2 ⟨m.toArray⟩ xs) l:=fun h => Bool.noConfusion h
   have hN3:true = true → ifD s = none:=fun h => hfin.2 (by rw [hb1]; rfl)
   have hle3:l.length ≤ 1073741824:=by have:=hinv.le; omega
   refine use54 l (true) fun l3 b3 n2 hl3 hg4 hn4 h54 => ?_
   refine callO [28] [28] h54 rfl rfl rfl rfl rfl fun hw2 _ => ?_
   have hwn2:=wf_I hw2
   refine loopN n2.toNat 8 [] (([]:List Int),l3,b3) (fun _ => []) (fun y => DL2 ⟨m.toArray⟩ xs y.1 y.2.1 y.2.2) (fun k y => LInv numD n2 l3 b3 k y.1 y.2.1 y.2.2) LInv.init (same_keys rfl) trivial
    ⟨.inl ⟨_,rfl,.inl ⟨rfl,rfl⟩⟩,.inl ⟨_,rfl,.inl ⟨rfl,rfl⟩⟩,.inl ⟨_,rfl,.inr ⟨32,_,_,rfl,rfl,_,_,rfl,same_keys rfl,_,_,rfl,same_keys rfl,_,_,rfl,nil_rw rfl rfl,_,_,rfl,same_keys rfl,_,_,rfl,same_keys rfl,rfl⟩⟩,.inl ⟨_,rfl,.inl ⟨rfl,rfl⟩⟩,.inr ⟨rfl,3,1,rfl⟩,trivial⟩ (fun _ => rfl) (fun _ => rfl) ?_
   rintro k2 ⟨ys,l4,b4⟩ hk2 hinv2 _ _ _
   simp only at hinv2
   refine brn_p (fun hlt2 => ?_) (fun hge2 => ?_)
   ·refine brn_split (fun hb2 => ?_) (fun hb2 => ?_)
    ·have hb2:b4 = false:=by simpa using hb2
     have hgood:=hinv2.good hb2
     have hle4:=hinv2.le
     refine use54 l4 b4 fun l' b' x hl' hg' hn' h54 => ?_
     refine xdO 28 h54 rfl rfl rfl rfl rfl rfl rfl fun _ => ?_
     refine app1r k2 rfl (by rw [ics_len]; exact hgood.2.1) (by omega) (by omega) ?_
     refine Fit.in64 (by omega) (by omega) ?_
     refine ⟨(k2 + 1,(ys ++ [x],l',b')),⟨by omega,hinv2.step (by omega) hb2 hl' (fun h => ⟨(hg' h).2,numD_lt (hg' h).2⟩) (fun h => (hn' h).resolve_left (by rw [hb2]; exact Bool.noConfusion))⟩,⟨nextI,trivial⟩,⟨.inl ⟨_,rfl,.inl ⟨rfl,rfl⟩⟩,.inl ⟨_,rfl,.inl ⟨rfl,rfl⟩⟩,.inl ⟨_,rfl,.inl ⟨rfl,rfl⟩⟩,.inl ⟨_,rfl,.inl ⟨rfl,rfl⟩⟩,.inl ⟨_,rfl,.inl ⟨?_,rfl⟩⟩,trivial⟩,(by show n2.toNat - (k2 + 1) < n2.toNat - k2; omega)⟩
     exact congrArg (TO.row 3 1) (List.map_append (f:=fun n => [IC n]) (l₁:=ys) (l₂:=[x])).symm
    ·have hb2:b4 = true:=by simpa using hb2
     have he2:b4 = false → n2.toNat ≤ k2:=fun h => by rw [hb2] at h; cases h
     refine brn_split (fun q0 => ?_) (fun q0 => absurd (hb2.symm.trans q0) (by simp))
     have hfin2:=hinv2.fin (K:=K2 ⟨m.toArray⟩ xs) (D:=ifD s) hk2 hG3 hN3 hg4 hn4 he2
     have hG5:true = false → ifD s = K2 ⟨m.toArray⟩ xs ys l4:=fun h => Bool.noConfusion h
     have hN5:true = true → ifD s = none:=fun h => hfin2.2 (by rw [hb2]; rfl)
     have hle5:l4.length ≤ 1073741824:=by have:=hinv2.le; omega
     refine use54 l4 (true) fun l5 b5 d hl5 hg5 hn5 h54 => ?_
     refine callO [28] [28] h54 rfl rfl rfl rfl rfl fun _ _ => ?_
     refine use53 l5 b5 (by omega) fun l6 b6 bd hl6 hg6 hn6 h53 => ?_
     refine callO [28] [28] h53 rfl rfl rfl rfl rfl fun _ _ => ?_
     have hend:=chain_end hG5 hN5 hg5 hn5 hg6 hn6
     refine brn_split (fun q => ?_) (fun q => ?_)
     ·exact retP rfl (by rw [decI_3 h4 hs heq (hend.2 q)]; rfl)
     have hok:=hend.1 q
     refine brn_p (fun q1 => ?_) (fun q1 => ?_)
     ·have q1:((bcells l6).length:Int) > 0:=q1
      rw [bcells_len] at q1
      exact retP rfl (by rw [decI_4 h4 hs heq hok (fun h => by omega)]; rfl)
     have q1:¬ ((bcells l6).length:Int) > 0:=q1
     rw [bcells_len] at q1
     refine callF [53,85] [] [] (t19 ⟨⟨m.toArray⟩,xs,ys,d,bd⟩) ⟨[],rfl,rfl,rfl,rfl,rfl,fun _ _ => ?_⟩
     refine brn_split (fun hv => ?_) (fun hv => ?_)
     ·have hv:(!validI ⟨⟨m.toArray⟩,xs,ys,d,bd⟩) = true:=hv
      exact retP rfl (by rw [decI_4 h4 hs heq hok (fun h => by rw [h.2] at hv; cases hv)]; rfl)
     have hv:(!validI ⟨⟨m.toArray⟩,xs,ys,d,bd⟩) = false:=hv
     have hd:=decI_5 h4 hs heq hok ⟨by omega,by simpa using hv⟩
     exact retP rfl (by rw [hd]; rfl)
   ·have he2:b4 = false → n2.toNat ≤ k2:=fun _ => by omega
    refine brn_split (fun hb2 => ?_) (fun hb2 => ?_)
    ·have hb2:b4 = true:=hb2
     have hfin2:=hinv2.fin (K:=K2 ⟨m.toArray⟩ xs) (D:=ifD s) hk2 hG3 hN3 hg4 hn4 he2
     have hG5:true = false → ifD s = K2 ⟨m.toArray⟩ xs ys l4:=fun h => Bool.noConfusion h
     have hN5:true = true → ifD s = none:=fun h => hfin2.2 (by rw [hb2]; rfl)
     have hle5:l4.length ≤ 1073741824:=by have:=hinv2.le; omega
     refine use54 l4 (true) fun l5 b5 d hl5 hg5 hn5 h54 => ?_
     refine callO [28] [28] h54 rfl rfl rfl rfl rfl fun _ _ => ?_
     refine use53 l5 b5 (by omega) fun l6 b6 bd hl6 hg6 hn6 h53 => ?_
     refine callO [28] [28] h53 rfl rfl rfl rfl rfl fun _ _ => ?_
     have hend:=chain_end hG5 hN5 hg5 hn5 hg6 hn6
     refine brn_split (fun q => ?_) (fun q => ?_)
     ·exact retP rfl (by rw [decI_3 h4 hs heq (hend.2 q)]; rfl)
     have hok:=hend.1 q
     refine brn_p (fun q1 => ?_) (fun q1 => ?_)
     ·have q1:((bcells l6).length:Int) > 0:=q1
      rw [bcells_len] at q1
      exact retP rfl (by rw [decI_4 h4 hs heq hok (fun h => by omega)]; rfl)
     have q1:¬ ((bcells l6).length:Int) > 0:=q1
     rw [bcells_len] at q1
     refine callF [53,85] [] [] (t19 ⟨⟨m.toArray⟩,xs,ys,d,bd⟩) ⟨[],rfl,rfl,rfl,rfl,rfl,fun _ _ => ?_⟩
     refine brn_split (fun hv => ?_) (fun hv => ?_)
     ·have hv:(!validI ⟨⟨m.toArray⟩,xs,ys,d,bd⟩) = true:=hv
      exact retP rfl (by rw [decI_4 h4 hs heq hok (fun h => by rw [h.2] at hv; cases hv)]; rfl)
     have hv:(!validI ⟨⟨m.toArray⟩,xs,ys,d,bd⟩) = false:=hv
     have hd:=decI_5 h4 hs heq hok ⟨by omega,by simpa using hv⟩
     exact retP rfl (by rw [hd]; rfl)
    ·have hb2:b4 = false:=hb2
     have hfin2:=hinv2.fin (K:=K2 ⟨m.toArray⟩ xs) (D:=ifD s) hk2 hG3 hN3 hg4 hn4 he2
     have hG5:decide (n2 < 0) = false → ifD s = K2 ⟨m.toArray⟩ xs ys l4:=fun h => hfin2.1 (by rw [hb2,h]; rfl)
     have hN5:decide (n2 < 0) = true → ifD s = none:=fun h => hfin2.2 (by rw [hb2,h]; rfl)
     have hle5:l4.length ≤ 1073741824:=by have:=hinv2.le; omega
     refine use54 l4 (decide (n2 < 0)) fun l5 b5 d hl5 hg5 hn5 h54 => ?_
     refine callO [28] [28] h54 rfl rfl rfl rfl rfl fun _ _ => ?_
     refine use53 l5 b5 (by omega) fun l6 b6 bd hl6 hg6 hn6 h53 => ?_
     refine callO [28] [28] h53 rfl rfl rfl rfl rfl fun _ _ => ?_
     have hend:=chain_end hG5 hN5 hg5 hn5 hg6 hn6
     refine brn_split (fun q => ?_) (fun q => ?_)
     ·exact retP rfl (by rw [decI_3 h4 hs heq (hend.2 q)]; rfl)
     have hok:=hend.1 q
     refine brn_p (fun q1 => ?_) (fun q1 => ?_)
     ·have q1:((bcells l6).length:Int) > 0:=q1
      rw [bcells_len] at q1
      exact retP rfl (by rw [decI_4 h4 hs heq hok (fun h => by omega)]; rfl)
     have q1:¬ ((bcells l6).length:Int) > 0:=q1
     rw [bcells_len] at q1
     refine callF [53,85] [] [] (t19 ⟨⟨m.toArray⟩,xs,ys,d,bd⟩) ⟨[],rfl,rfl,rfl,rfl,rfl,fun _ _ => ?_⟩
     refine brn_split (fun hv => ?_) (fun hv => ?_)
     ·have hv:(!validI ⟨⟨m.toArray⟩,xs,ys,d,bd⟩) = true:=hv
      exact retP rfl (by rw [decI_4 h4 hs heq hok (fun h => by rw [h.2] at hv; cases hv)]; rfl)
     have hv:(!validI ⟨⟨m.toArray⟩,xs,ys,d,bd⟩) = false:=hv
     have hd:=decI_5 h4 hs heq hok ⟨by omega,by simpa using hv⟩
     exact retP rfl (by rw [hd]; rfl)
  ·have hb1:b = false:=hb1
   have hfin:=hinv.fin (K:=K1 ⟨m.toArray⟩) (D:=ifD s) hk hG1 hN1 hg2 hn2 he
   have hG3:decide (n < 0) = false → ifD s = andD (listD numD) (K2 ⟨m.toArray⟩ xs) l:=fun h => hfin.1 (by rw [hb1,h]; rfl)
   have hN3:decide (n < 0) = true → ifD s = none:=fun h => hfin.2 (by rw [hb1,h]; rfl)
   have hle3:l.length ≤ 1073741824:=by have:=hinv.le; omega
   refine use54 l (decide (n < 0)) fun l3 b3 n2 hl3 hg4 hn4 h54 => ?_
   refine callO [28] [28] h54 rfl rfl rfl rfl rfl fun hw2 _ => ?_
   have hwn2:=wf_I hw2
   refine loopN n2.toNat 8 [] (([]:List Int),l3,b3) (fun _ => []) (fun y => DL2 ⟨m.toArray⟩ xs y.1 y.2.1 y.2.2) (fun k y => LInv numD n2 l3 b3 k y.1 y.2.1 y.2.2) LInv.init (same_keys rfl) trivial
    ⟨.inl ⟨_,rfl,.inl ⟨rfl,rfl⟩⟩,.inl ⟨_,rfl,.inl ⟨rfl,rfl⟩⟩,.inl ⟨_,rfl,.inr ⟨32,_,_,rfl,rfl,_,_,rfl,same_keys rfl,_,_,rfl,same_keys rfl,_,_,rfl,nil_rw rfl rfl,_,_,rfl,same_keys rfl,_,_,rfl,same_keys rfl,rfl⟩⟩,.inl ⟨_,rfl,.inl ⟨rfl,rfl⟩⟩,.inr ⟨rfl,3,1,rfl⟩,trivial⟩ (fun _ => rfl) (fun _ => rfl) ?_
   rintro k2 ⟨ys,l4,b4⟩ hk2 hinv2 _ _ _
   simp only at hinv2
   refine brn_p (fun hlt2 => ?_) (fun hge2 => ?_)
   ·refine brn_split (fun hb2 => ?_) (fun hb2 => ?_)
    ·have hb2:b4 = false:=by simpa using hb2
     have hgood:=hinv2.good hb2
     have hle4:=hinv2.le
     refine use54 l4 b4 fun l' b' x hl' hg' hn' h54 => ?_
     refine xdO 28 h54 rfl rfl rfl rfl rfl rfl rfl fun _ => ?_
     refine app1r k2 rfl (by rw [ics_len]; exact hgood.2.1) (by omega) (by omega) ?_
     refine Fit.in64 (by omega) (by omega) ?_
     refine ⟨(k2 + 1,(ys ++ [x],l',b')),⟨by omega,hinv2.step (by omega) hb2 hl' (fun h => ⟨(hg' h).2,numD_lt (hg' h).2⟩) (fun h => (hn' h).resolve_left (by rw [hb2]; exact Bool.noConfusion))⟩,⟨nextI,trivial⟩,⟨.inl ⟨_,rfl,.inl ⟨rfl,rfl⟩⟩,.inl ⟨_,rfl,.inl ⟨rfl,rfl⟩⟩,.inl ⟨_,rfl,.inl ⟨rfl,rfl⟩⟩,.inl ⟨_,rfl,.inl ⟨rfl,rfl⟩⟩,.inl ⟨_,rfl,.inl ⟨?_,rfl⟩⟩,trivial⟩,(by show n2.toNat - (k2 + 1) < n2.toNat - k2; omega)⟩
     exact congrArg (TO.row 3 1) (List.map_append (f:=fun n => [IC n]) (l₁:=ys) (l₂:=[x])).symm
    ·have hb2:b4 = true:=by simpa using hb2
     have he2:b4 = false → n2.toNat ≤ k2:=fun h => by rw [hb2] at h; cases h
     refine brn_split (fun q0 => ?_) (fun q0 => absurd (hb2.symm.trans q0) (by simp))
     have hfin2:=hinv2.fin (K:=K2 ⟨m.toArray⟩ xs) (D:=ifD s) hk2 hG3 hN3 hg4 hn4 he2
     have hG5:true = false → ifD s = K2 ⟨m.toArray⟩ xs ys l4:=fun h => Bool.noConfusion h
     have hN5:true = true → ifD s = none:=fun h => hfin2.2 (by rw [hb2]; rfl)
     have hle5:l4.length ≤ 1073741824:=by have:=hinv2.le; omega
     refine use54 l4 (true) fun l5 b5 d hl5 hg5 hn5 h54 => ?_
     refine callO [28] [28] h54 rfl rfl rfl rfl rfl fun _ _ => ?_
     refine use53 l5 b5 (by omega) fun l6 b6 bd hl6 hg6 hn6 h53 => ?_
     refine callO [28] [28] h53 rfl rfl rfl rfl rfl fun _ _ => ?_
     have hend:=chain_end hG5 hN5 hg5 hn5 hg6 hn6
     refine brn_split (fun q => ?_) (fun q => ?_)
     ·exact retP rfl (by rw [decI_3 h4 hs heq (hend.2 q)]; rfl)
     have hok:=hend.1 q
     refine brn_p (fun q1 => ?_) (fun q1 => ?_)
     ·have q1:((bcells l6).length:Int) > 0:=q1
      rw [bcells_len] at q1
      exact retP rfl (by rw [decI_4 h4 hs heq hok (fun h => by omega)]; rfl)
     have q1:¬ ((bcells l6).length:Int) > 0:=q1
     rw [bcells_len] at q1
     refine callF [53,85] [] [] (t19 ⟨⟨m.toArray⟩,xs,ys,d,bd⟩) ⟨[],rfl,rfl,rfl,rfl,rfl,fun _ _ => ?_⟩
     refine brn_split (fun hv => ?_) (fun hv => ?_)
     ·have hv:(!validI ⟨⟨m.toArray⟩,xs,ys,d,bd⟩) = true:=hv
      exact retP rfl (by rw [decI_4 h4 hs heq hok (fun h => by rw [h.2] at hv; cases hv)]; rfl)
     have hv:(!validI ⟨⟨m.toArray⟩,xs,ys,d,bd⟩) = false:=hv
     have hd:=decI_5 h4 hs heq hok ⟨by omega,by simpa using hv⟩
     exact retP rfl (by rw [hd]; rfl)
   ·have he2:b4 = false → n2.toNat ≤ k2:=fun _ => by omega
    refine brn_split (fun hb2 => ?_) (fun hb2 => ?_)
    ·have hb2:b4 = true:=hb2
     have hfin2:=hinv2.fin (K:=K2 ⟨m.toArray⟩ xs) (D:=ifD s) hk2 hG3 hN3 hg4 hn4 he2
     have hG5:true = false → ifD s = K2 ⟨m.toArray⟩ xs ys l4:=fun h => Bool.noConfusion h
     have hN5:true = true → ifD s = none:=fun h => hfin2.2 (by rw [hb2]; rfl)
     have hle5:l4.length ≤ 1073741824:=by have:=hinv2.le; omega
     refine use54 l4 (true) fun l5 b5 d hl5 hg5 hn5 h54 => ?_
     refine callO [28] [28] h54 rfl rfl rfl rfl rfl fun _ _ => ?_
     refine use53 l5 b5 (by omega) fun l6 b6 bd hl6 hg6 hn6 h53 => ?_
     refine callO [28] [28] h53 rfl rfl rfl rfl rfl fun _ _ => ?_
     have hend:=chain_end hG5 hN5 hg5 hn5 hg6 hn6
     refine brn_split (fun q => ?_) (fun q => ?_)
     ·exact retP rfl (by rw [decI_3 h4 hs heq (hend.2 q)]; rfl)
     have hok:=hend.1 q
     refine brn_p (fun q1 => ?_) (fun q1 => ?_)
     ·have q1:((bcells l6).length:Int) > 0:=q1
      rw [bcells_len] at q1
      exact retP rfl (by rw [decI_4 h4 hs heq hok (fun h => by omega)]; rfl)
     have q1:¬ ((bcells l6).length:Int) > 0:=q1
     rw [bcells_len] at q1
     refine callF [53,85] [] [] (t19 ⟨⟨m.toArray⟩,xs,ys,d,bd⟩) ⟨[],rfl,rfl,rfl,rfl,rfl,fun _ _ => ?_⟩
     refine brn_split (fun hv => ?_) (fun hv => ?_)
     ·have hv:(!validI ⟨⟨m.toArray⟩,xs,ys,d,bd⟩) = true:=hv
      exact retP rfl (by rw [decI_4 h4 hs heq hok (fun h => by rw [h.2] at hv; cases hv)]; rfl)
     have hv:(!validI ⟨⟨m.toArray⟩,xs,ys,d,bd⟩) = false:=hv
     have hd:=decI_5 h4 hs heq hok ⟨by omega,by simpa using hv⟩
     exact retP rfl (by rw [hd]; rfl)
    ·have hb2:b4 = false:=hb2
     have hfin2:=hinv2.fin (K:=K2 ⟨m.toArray⟩ xs) (D:=ifD s) hk2 hG3 hN3 hg4 hn4 he2
     have hG5:decide (n2 < 0) = false → ifD s = K2 ⟨m.toArray⟩ xs ys l4:=fun h => hfin2.1 (by rw [hb2,h]; rfl)
     have hN5:decide (n2 < 0) = true → ifD s = none:=fun h => hfin2.2 (by rw [hb2,h]; rfl)
     have hle5:l4.length ≤ 1073741824:=by have:=hinv2.le; omega
     refine use54 l4 (decide (n2 < 0)) fun l5 b5 d hl5 hg5 hn5 h54 => ?_
     refine callO [28] [28] h54 rfl rfl rfl rfl rfl fun _ _ => ?_
     refine use53 l5 b5 (by omega) fun l6 b6 bd hl6 hg6 hn6 h53 => ?_
     refine callO [28] [28] h53 rfl rfl rfl rfl rfl fun _ _ => ?_
     have hend:=chain_end hG5 hN5 hg5 hn5 hg6 hn6
     refine brn_split (fun q => ?_) (fun q => ?_)
     ·exact retP rfl (by rw [decI_3 h4 hs heq (hend.2 q)]; rfl)
     have hok:=hend.1 q
     refine brn_p (fun q1 => ?_) (fun q1 => ?_)
     ·have q1:((bcells l6).length:Int) > 0:=q1
      rw [bcells_len] at q1
      exact retP rfl (by rw [decI_4 h4 hs heq hok (fun h => by omega)]; rfl)
     have q1:¬ ((bcells l6).length:Int) > 0:=q1
     rw [bcells_len] at q1
     refine callF [53,85] [] [] (t19 ⟨⟨m.toArray⟩,xs,ys,d,bd⟩) ⟨[],rfl,rfl,rfl,rfl,rfl,fun _ _ => ?_⟩
     refine brn_split (fun hv => ?_) (fun hv => ?_)
     ·have hv:(!validI ⟨⟨m.toArray⟩,xs,ys,d,bd⟩) = true:=hv
      exact retP rfl (by rw [decI_4 h4 hs heq hok (fun h => by rw [h.2] at hv; cases hv)]; rfl)
     have hv:(!validI ⟨⟨m.toArray⟩,xs,ys,d,bd⟩) = false:=hv
     have hd:=decI_5 h4 hs heq hok ⟨by omega,by simpa using hv⟩
     exact retP rfl (by rw [hd]; rfl)
end Go.Fr.Tryd
