/- Part of the proofs of the statements of this seat. -/
import Derived.Test.YtidbpicbmklccaaGreatDoorIzT6G
import Derived.Test.YtidbpicbmklccaaGreatDoorIzW1G
import Derived.Test.YtidbpicbmklccaaGreatDoorFW3
set_option maxRecDepth 10000
set_option linter.unusedVariables false
set_option linter.unusedSimpArgs false
namespace Go.Fr.Tryz
open Go Go.RowKit Go.Proofs Go.Fr Go.Fr.T Go.Fr.Api Go.Fr.Dm
def Wr (p:C) (bs:List UInt8):List TO:=[.box 148 [.rw 1001,p],.row 5 1 (bcells bs)]
def WrL (p:C) (bs:List UInt8):TL:=[(1000,.box 148 [.rw 1001,p]),(1001,.row 5 1 (bcells bs))]
theorem t44 {po:Option Prog} {p:C} (hp:Dpc po p) (bs:List UInt8) (l:List Int) (hb:(bs ++ encIs l).length ≤ 2 ^ 46):CallsT PZ 44 [.own 1000 0,.sl (ics l)] (Wr p bs) (Ret (Wr p (bs ++ encIs l)) (.tup [])):=by
 refine callsT_facts Tryz.func44 facts44 rfl fun hw _ => ?_
 have hn:l.length ≤ 9223372036854775807:=by have:=wf_len hw.2.1; simpa [ics] using this
 have hwl:∀ x ∈ l,-9223372036854775808 ≤ x ∧ x ≤ 9223372036854775807:=by
  intro x hx
  have h1:=hw.2.1
  simp only [Wf] at h1
  exact wf_I (WfS_iff.1 (WfSS_iff.1 h1.2 [IC x] (by simp only [ics,List.mem_map]; exact ⟨x,hx,rfl⟩)) _ (by simp))
 cases hp
 all_goals
  refine loopN l.length 9 [] bs (fun _ => []) (fun s => WrL _ s) (fun k s => s ++ encIs (l.drop k) = bs ++ encIs l) rfl (same_keys rfl) trivial ⟨.inl ⟨_,rfl,.inl ⟨rfl,rfl⟩⟩,.inl ⟨_,rfl,.inl ⟨rfl,rfl⟩⟩,trivial⟩ (fun _ => rfl) (fun _ => rfl) ?_
  rintro k s hk hinv _ _ _
  refine brn_p (fun hlt => ?_) (fun hge => ?_)
  ·have hlt:k < l.length:=by simpa [ics] using hlt
   obtain ⟨x,hx,hd⟩:=drop_cons hlt
   rw [hd] at hinv
   have hwx:=hwl x (List.mem_of_getElem? hx)
   have hlen:s.length + (encI x).length ≤ 2 ^ 46:=by
    rw [← hinv] at hb
    simp only [encIs,List.flatMap_cons,List.length_append] at hb
    omega
   refine idxI hx ?_
   refine Fit.to (wrap_u64 _) ?_
   refine ⟨by omega,?_⟩
   refine Fit.to (wrap_u64 _) ?_
   refine brn_p (fun hneg => ?_) (fun hpos => ?_)
   all_goals
    refine LoopT.mk ⟨Nat × List UInt8,(zig x,s),fun y => y.1 < 18446744073709551616 ∧ y.2 ++ encN y.1 = s ++ encI x,[6],fun y => [.int .u64 y.1],fun y => WrL _ y.2,fun y => y.1,⟨?_,rfl⟩,⟨.inr (.inl ⟨?_,rfl⟩),trivial⟩,
     ⟨.inl ⟨_,rfl,.inl ⟨rfl,rfl⟩⟩,.inl ⟨_,rfl,.inl ⟨rfl,rfl⟩⟩,trivial⟩,fun _ => rfl,fun _ => rfl,?_⟩
    ·show zig x < _
     unfold zig; split <;> omega
    rotate_left
    ·rintro ⟨m,done⟩ ⟨hm64,hmi⟩ _ _
     simp only at hmi hm64
     have hdl:done.length + (encN m).length ≤ 2 ^ 46:=by
      have:=congrArg List.length hmi
      simp only [List.length_append] at this
      omega
     have h1:=encN_len m
     refine brn_p (fun hm => ?_) (fun hm => ?_)
     ·have hm:128 ≤ m:=by have:(128:Int) ≤ (m:Int):=hm; omega
      have hde:encN m = UInt8.ofNat (128 + m % 128) :: encN (m / 128):=by rw [encN,dif_neg (by omega)]
      refine NonZ.mk (by omega) ?_
      refine Fit.to (wrap_u64 _) ?_
      refine Fit.to (Dm.u8_hi m) ?_
      refine app1 (bs:=done) (by omega) ?_
      refine NonZ.mk (by omega) ?_
      refine Fit.to (wrap_u64 _) ?_
      refine ⟨(m / 128,done ++ [UInt8.ofNat (128 + m % 128)]),⟨?_,?_⟩,⟨.inr (.inl ⟨?_,rfl⟩),trivial⟩,⟨.inl ⟨_,rfl,.inl ⟨rfl,rfl⟩⟩,.inl ⟨_,rfl,.inl ⟨?_,rfl⟩⟩,trivial⟩,?_⟩
      ·show m / 128 < _; omega
      ·show done ++ [UInt8.ofNat (128 + m % 128)] ++ encN (m / 128) = s ++ encI x
       rw [← hmi,hde]; simp
      ·refine congrArg (C.int .u64) ?_
       show ((m / 128:Nat):Int) % _ = ((m / 128:Nat):Int)
       omega
      ·exact congrArg (TO.row 5 1) (bcells_snoc _ _).symm
      ·show m / 128 < m; omega
     ·have hm:m < 128:=by have:¬ (128:Int) ≤ (m:Int):=hm; omega
      have hde:encN m = [UInt8.ofNat m]:=by rw [encN,dif_pos hm]
      refine Fit.to (Dm.u8_lo m) ?_
      refine app1 (bs:=done) (by omega) ?_
      refine Fit.in64 (by omega) (by omega) ?_
      refine ⟨(k + 1,done ++ [UInt8.ofNat m]),⟨hlt,?_⟩,⟨nextI,trivial⟩,⟨.inl ⟨_,rfl,.inl ⟨rfl,rfl⟩⟩,.inl ⟨_,rfl,.inl ⟨?_,rfl⟩⟩,trivial⟩,nextM hlt⟩
      ·show done ++ [UInt8.ofNat m] ++ encIs (l.drop (k + 1)) = bs ++ encIs l
       rw [← hinv,← hde,hmi]; simp [encIs]
      ·exact congrArg (TO.row 5 1) (bcells_snoc _ _).symm
    ·refine congrArg (C.int .u64) ?_
     simp only [two_pow1]
     first
      | (rw [xor_u64 (by omega) (by omega)]; unfold zig; rw [if_pos hneg]; omega)
      | (unfold zig; rw [if_neg hpos]; omega)
  ·have hge:¬ k < l.length:=by simpa [ics] using hge
   rw [drop_end hge] at hinv
   refine retO [1000,1001] rfl rfl ?_ rfl
   simp only [encIs,List.flatMap_nil,List.append_nil] at hinv
   subst hinv
   rfl
def WrC (p:C) (bs:List UInt8):List TO:=[.box 148 [.rw 1001,p],.row 5 1 (bcells bs),.box 96 [.own 1000 0]]
def WrCL (p:C) (bs:List UInt8):TL:=[(1000,.box 148 [.rw 1001,p]),(1001,.row 5 1 (bcells bs)),(1002,.box 96 [.own 1000 0])]
theorem t100 {po:Option Prog} {p:C} (hp:Dpc po p) (bs:List UInt8) (l:List Int) (enc:Int → List UInt8) (hc:∀ x ∈ l,∀ s:List UInt8,(s ++ enc x).length ≤ 2 ^ 46 → CallsT PZ 101 [IC x,.own 1002 0] (WrC p s) (Ret (WrC p (s ++ enc x)) (.tup [])))
  (hb:(bs ++ encL enc l).length ≤ 2 ^ 46):CallsT PZ 100 [.own 1000 0,.sl (ics l),.fn 101 [] [.own 1002 0]] (WrC p bs) (Ret (WrC p (bs ++ encL enc l)) (.tup [])):=by
 refine callsT_facts Tryz.func100 facts100 rfl fun hw _ => ?_
 have hn:l.length ≤ 9223372036854775807:=by have:=wf_len hw.2.1; simpa [ics] using this
 have hp':=hp
 cases hp
 all_goals
  refine callO [1000,1001] [1000,1001] (t44 hp' bs [((ics l).length:Int)] ?_) rfl rfl rfl rfl rfl fun _ _ => ?_
  ·simp only [encL,List.length_append,ics,List.length_map,encIs,List.flatMap_cons,List.flatMap_nil,List.append_nil] at hb ⊢; omega
  refine loopN l.length 15 [] (bs ++ encI l.length) (fun _ => []) (fun s => WrCL _ s) (fun k s => s ++ (l.drop k).flatMap enc = bs ++ encL enc l) (by simp [encL]) (same_keys rfl) trivial ⟨.inl ⟨_,rfl,.inl ⟨rfl,rfl⟩⟩,.inl ⟨_,rfl,.inl ⟨?_,rfl⟩⟩,.inl ⟨_,rfl,.inl ⟨rfl,rfl⟩⟩,trivial⟩ (fun _ => rfl) (fun _ => rfl) ?_
  ·show TO.row 5 1 (bcells (bs ++ encIs [((ics l).length:Int)])) = _
   simp [encIs,ics]
  rintro k s hk hinv _ _ _
  refine brn_p (fun hlt => ?_) (fun hge => ?_)
  ·have hlt:k < l.length:=by simpa [ics] using hlt
   obtain ⟨x,hx,hd⟩:=drop_cons hlt
   rw [hd,List.flatMap_cons] at hinv
   have hsz:(s ++ enc x).length ≤ 2 ^ 46:=by
    rw [← hinv] at hb
    simp only [List.length_append] at hb ⊢
    omega
   refine idxI hx ?_
   refine callO [1000,1001,1002] [1000,1001,1002] (hc x (List.mem_of_getElem? hx) s hsz) rfl rfl rfl rfl rfl fun _ _ => ?_
   refine Fit.in64 (by omega) (by omega) ?_
   exact ⟨(k + 1,s ++ enc x),⟨hlt,by rw [← hinv]; simp⟩,⟨nextI,trivial⟩,⟨.inl ⟨_,rfl,.inl ⟨rfl,rfl⟩⟩,.inl ⟨_,rfl,.inl ⟨rfl,rfl⟩⟩,.inl ⟨_,rfl,.inl ⟨rfl,rfl⟩⟩,trivial⟩,nextM hlt⟩
  ·have hge:¬ k < l.length:=by simpa [ics] using hge
   rw [drop_end hge] at hinv
   refine retO [1000,1001,1002] rfl rfl ?_ rfl
   simp only [List.flatMap_nil,List.append_nil] at hinv
   subst hinv
   rfl
theorem t90 {po:Option Prog} {p:C} (hp:Dpc po p) (bs:List UInt8) (l:List Bound) (enc:Bound → List UInt8) (hc:∀ x ∈ l,∀ s:List UInt8,(s ++ enc x).length ≤ 2 ^ 46 → CallsT PZ 91 [.agg (boundC x),.own 1002 0] (WrC p s) (Ret (WrC p (s ++ enc x)) (.tup [])))
  (hb:(bs ++ encL enc l).length ≤ 2 ^ 46):CallsT PZ 90 [.own 1000 0,.sl (l.map boundC),.fn 91 [] [.own 1002 0]] (WrC p bs) (Ret (WrC p (bs ++ encL enc l)) (.tup [])):=by
 refine callsT_facts Tryz.func90 facts90 rfl fun hw _ => ?_
 have hn:l.length ≤ 9223372036854775807:=by have:=wf_len hw.2.1; simpa [ics] using this
 have hp':=hp
 cases hp
 all_goals
  refine callO [1000,1001] [1000,1001] (t44 hp' bs [((l.map boundC).length:Int)] ?_) rfl rfl rfl rfl rfl fun _ _ => ?_
  ·simp only [encL,List.length_append,List.length_map,List.length_map,encIs,List.flatMap_cons,List.flatMap_nil,List.append_nil] at hb ⊢; omega
  refine loopN l.length 15 [] (bs ++ encI l.length) (fun _ => []) (fun s => WrCL _ s) (fun k s => s ++ (l.drop k).flatMap enc = bs ++ encL enc l) (by simp [encL]) (same_keys rfl) trivial ⟨.inl ⟨_,rfl,.inl ⟨rfl,rfl⟩⟩,.inl ⟨_,rfl,.inl ⟨?_,rfl⟩⟩,.inl ⟨_,rfl,.inl ⟨rfl,rfl⟩⟩,trivial⟩ (fun _ => rfl) (fun _ => rfl) ?_
  ·show TO.row 5 1 (bcells (bs ++ encIs [((l.map boundC).length:Int)])) = _
   simp [encIs,ics]
  rintro k s hk hinv _ _ _
  refine brn_p (fun hlt => ?_) (fun hge => ?_)
  ·have hlt:k < l.length:=by simpa [ics] using hlt
   obtain ⟨x,hx,hd⟩:=drop_cons hlt
   rw [hd,List.flatMap_cons] at hinv
   have hsz:(s ++ enc x).length ≤ 2 ^ 46:=by
    rw [← hinv] at hb
    simp only [List.length_append] at hb ⊢
    omega
   refine idxT hx rfl rfl ?_
   refine callO [1000,1001,1002] [1000,1001,1002] (hc x (List.mem_of_getElem? hx) s hsz) rfl rfl rfl rfl rfl fun _ _ => ?_
   refine Fit.in64 (by omega) (by omega) ?_
   exact ⟨(k + 1,s ++ enc x),⟨hlt,by rw [← hinv]; simp⟩,⟨nextI,trivial⟩,⟨.inl ⟨_,rfl,.inl ⟨rfl,rfl⟩⟩,.inl ⟨_,rfl,.inl ⟨rfl,rfl⟩⟩,.inl ⟨_,rfl,.inl ⟨rfl,rfl⟩⟩,trivial⟩,nextM hlt⟩
  ·have hge:¬ k < l.length:=by simpa [ics] using hge
   rw [drop_end hge] at hinv
   refine retO [1000,1001,1002] rfl rfl ?_ rfl
   simp only [List.flatMap_nil,List.append_nil] at hinv
   subst hinv
   rfl
theorem t47 {po:Option Prog} {p:C} (hp:Dpc po p) (bs:List UInt8) (l:List Ty) (enc:Ty → List UInt8) (hc:∀ x ∈ l,∀ s:List UInt8,(s ++ enc x).length ≤ 2 ^ 46 → CallsT PZ 48 [.own 1000 0,.agg (tyC x)] (Wr p s) (Ret (Wr p (s ++ enc x)) (.tup [])))
  (hb:(bs ++ encL enc l).length ≤ 2 ^ 46):CallsT PZ 47 [.own 1000 0,.sl (l.map tyC),.fn 48 [.own 1000 0] []] (Wr p bs) (Ret (Wr p (bs ++ encL enc l)) (.tup [])):=by
 refine callsT_facts Tryz.func47 facts47 rfl fun hw _ => ?_
 have hn:l.length ≤ 9223372036854775807:=by have:=wf_len hw.2.1; simpa [ics] using this
 have hp':=hp
 cases hp
 all_goals
  refine callO [1000,1001] [1000,1001] (t44 hp' bs [((l.map tyC).length:Int)] ?_) rfl rfl rfl rfl rfl fun _ _ => ?_
  ·simp only [encL,List.length_append,List.length_map,List.length_map,encIs,List.flatMap_cons,List.flatMap_nil,List.append_nil] at hb ⊢; omega
  refine loopN l.length 15 [] (bs ++ encI l.length) (fun _ => []) (fun s => WrL _ s) (fun k s => s ++ (l.drop k).flatMap enc = bs ++ encL enc l) (by simp [encL]) (same_keys rfl) trivial ⟨.inl ⟨_,rfl,.inl ⟨rfl,rfl⟩⟩,.inl ⟨_,rfl,.inl ⟨?_,rfl⟩⟩,trivial⟩ (fun _ => rfl) (fun _ => rfl) ?_
  ·show TO.row 5 1 (bcells (bs ++ encIs [((l.map tyC).length:Int)])) = _
   simp [encIs,ics]
  rintro k s hk hinv _ _ _
  refine brn_p (fun hlt => ?_) (fun hge => ?_)
  ·have hlt:k < l.length:=by simpa [ics] using hlt
   obtain ⟨x,hx,hd⟩:=drop_cons hlt
   rw [hd,List.flatMap_cons] at hinv
   have hsz:(s ++ enc x).length ≤ 2 ^ 46:=by
    rw [← hinv] at hb
    simp only [List.length_append] at hb ⊢
    omega
   refine idxTy hx ?_
   refine callO [1000,1001] [1000,1001] (hc x (List.mem_of_getElem? hx) s hsz) rfl rfl ?_ rfl rfl fun _ _ => ?_
   ·simp only [tyC_eq]; rfl
   refine Fit.in64 (by omega) (by omega) ?_
   exact ⟨(k + 1,s ++ enc x),⟨hlt,by rw [← hinv]; simp⟩,⟨nextI,trivial⟩,⟨.inl ⟨_,rfl,.inl ⟨rfl,rfl⟩⟩,.inl ⟨_,rfl,.inl ⟨rfl,rfl⟩⟩,trivial⟩,nextM hlt⟩
  ·have hge:¬ k < l.length:=by simpa [ics] using hge
   rw [drop_end hge] at hinv
   refine retO [1000,1001] rfl rfl ?_ rfl
   simp only [List.flatMap_nil,List.append_nil] at hinv
   subst hinv
   rfl
theorem t56 {po:Option Prog} {p:C} (hp:Dpc po p) (bs:List UInt8) (l:List Fun) (enc:Fun → List UInt8) (hc:∀ x ∈ l,∀ s:List UInt8,(s ++ enc x).length ≤ 2 ^ 46 → CallsT PZ 59 [.own 1000 0,.agg (funC x)] (Wr p s) (Ret (Wr p (s ++ enc x)) (.tup [])))
  (hb:(bs ++ encL enc l).length ≤ 2 ^ 46):CallsT PZ 56 [.own 1000 0,.sl (l.map funC),.fn 59 [.own 1000 0] []] (Wr p bs) (Ret (Wr p (bs ++ encL enc l)) (.tup [])):=by
 refine callsT_facts Tryz.func56 facts56 rfl fun hw _ => ?_
 have hn:l.length ≤ 9223372036854775807:=by have:=wf_len hw.2.1; simpa [ics] using this
 have hp':=hp
 cases hp
 all_goals
  refine callO [1000,1001] [1000,1001] (t44 hp' bs [((l.map funC).length:Int)] ?_) rfl rfl rfl rfl rfl fun _ _ => ?_
  ·simp only [encL,List.length_append,List.length_map,List.length_map,encIs,List.flatMap_cons,List.flatMap_nil,List.append_nil] at hb ⊢; omega
  refine loopN l.length 15 [] (bs ++ encI l.length) (fun _ => []) (fun s => WrL _ s) (fun k s => s ++ (l.drop k).flatMap enc = bs ++ encL enc l) (by simp [encL]) (same_keys rfl) trivial ⟨.inl ⟨_,rfl,.inl ⟨rfl,rfl⟩⟩,.inl ⟨_,rfl,.inl ⟨?_,rfl⟩⟩,trivial⟩ (fun _ => rfl) (fun _ => rfl) ?_
  ·show TO.row 5 1 (bcells (bs ++ encIs [((l.map funC).length:Int)])) = _
   simp [encIs,ics]
  rintro k s hk hinv _ _ _
  refine brn_p (fun hlt => ?_) (fun hge => ?_)
  ·have hlt:k < l.length:=by simpa [ics] using hlt
   obtain ⟨x,hx,hd⟩:=drop_cons hlt
   rw [hd,List.flatMap_cons] at hinv
   have hsz:(s ++ enc x).length ≤ 2 ^ 46:=by
    rw [← hinv] at hb
    simp only [List.length_append] at hb ⊢
    omega
   refine idxT hx rfl rfl ?_
   refine callO [1000,1001] [1000,1001] (hc x (List.mem_of_getElem? hx) s hsz) rfl rfl rfl rfl rfl fun _ _ => ?_
   refine Fit.in64 (by omega) (by omega) ?_
   exact ⟨(k + 1,s ++ enc x),⟨hlt,by rw [← hinv]; simp⟩,⟨nextI,trivial⟩,⟨.inl ⟨_,rfl,.inl ⟨rfl,rfl⟩⟩,.inl ⟨_,rfl,.inl ⟨rfl,rfl⟩⟩,trivial⟩,nextM hlt⟩
  ·have hge:¬ k < l.length:=by simpa [ics] using hge
   rw [drop_end hge] at hinv
   refine retO [1000,1001] rfl rfl ?_ rfl
   simp only [List.flatMap_nil,List.append_nil] at hinv
   subst hinv
   rfl
theorem t45 {po:Option Prog} {p:C} (hp:Dpc po p) (bs:List UInt8) (l:List Variant) (enc:Variant → List UInt8) (hc:∀ x ∈ l,∀ s:List UInt8,(s ++ enc x).length ≤ 2 ^ 46 → CallsT PZ 46 [.agg (variantC x),.own 1002 0] (WrC p s) (Ret (WrC p (s ++ enc x)) (.tup [])))
  (hb:(bs ++ encL enc l).length ≤ 2 ^ 46):CallsT PZ 45 [.own 1000 0,.sl (l.map variantC),.fn 46 [] [.own 1002 0]] (WrC p bs) (Ret (WrC p (bs ++ encL enc l)) (.tup [])):=by
 refine callsT_facts Tryz.func45 facts45 rfl fun hw _ => ?_
 have hn:l.length ≤ 9223372036854775807:=by have:=wf_len hw.2.1; simpa [ics] using this
 have hp':=hp
 cases hp
 all_goals
  refine callO [1000,1001] [1000,1001] (t44 hp' bs [((l.map variantC).length:Int)] ?_) rfl rfl rfl rfl rfl fun _ _ => ?_
  ·simp only [encL,List.length_append,List.length_map,List.length_map,encIs,List.flatMap_cons,List.flatMap_nil,List.append_nil] at hb ⊢; omega
  refine loopN l.length 15 [] (bs ++ encI l.length) (fun _ => []) (fun s => WrCL _ s) (fun k s => s ++ (l.drop k).flatMap enc = bs ++ encL enc l) (by simp [encL]) (same_keys rfl) trivial ⟨.inl ⟨_,rfl,.inl ⟨rfl,rfl⟩⟩,.inl ⟨_,rfl,.inl ⟨?_,rfl⟩⟩,.inl ⟨_,rfl,.inl ⟨rfl,rfl⟩⟩,trivial⟩ (fun _ => rfl) (fun _ => rfl) ?_
  ·show TO.row 5 1 (bcells (bs ++ encIs [((l.map variantC).length:Int)])) = _
   simp [encIs,ics]
  rintro k s hk hinv _ _ _
  refine brn_p (fun hlt => ?_) (fun hge => ?_)
  ·have hlt:k < l.length:=by simpa [ics] using hlt
   obtain ⟨x,hx,hd⟩:=drop_cons hlt
   rw [hd,List.flatMap_cons] at hinv
   have hsz:(s ++ enc x).length ≤ 2 ^ 46:=by
    rw [← hinv] at hb
    simp only [List.length_append] at hb ⊢
    omega
   refine idxT hx rfl rfl ?_
   refine callO [1000,1001,1002] [1000,1001,1002] (hc x (List.mem_of_getElem? hx) s hsz) rfl rfl rfl rfl rfl fun _ _ => ?_
   refine Fit.in64 (by omega) (by omega) ?_
   exact ⟨(k + 1,s ++ enc x),⟨hlt,by rw [← hinv]; simp⟩,⟨nextI,trivial⟩,⟨.inl ⟨_,rfl,.inl ⟨rfl,rfl⟩⟩,.inl ⟨_,rfl,.inl ⟨rfl,rfl⟩⟩,.inl ⟨_,rfl,.inl ⟨rfl,rfl⟩⟩,trivial⟩,nextM hlt⟩
  ·have hge:¬ k < l.length:=by simpa [ics] using hge
   rw [drop_end hge] at hinv
   refine retO [1000,1001,1002] rfl rfl ?_ rfl
   simp only [List.flatMap_nil,List.append_nil] at hinv
   subst hinv
   rfl
theorem t40 {po:Option Prog} {p:C} (hp:Dpc po p) (bs:List UInt8) (l:List Api.Data) (enc:Api.Data → List UInt8) (hc:∀ x ∈ l,∀ s:List UInt8,(s ++ enc x).length ≤ 2 ^ 46 → CallsT PZ 43 [.agg (dataC x),.own 1002 0] (WrC p s) (Ret (WrC p (s ++ enc x)) (.tup [])))
  (hb:(bs ++ encL enc l).length ≤ 2 ^ 46):CallsT PZ 40 [.own 1000 0,.sl (l.map dataC),.fn 43 [] [.own 1002 0]] (WrC p bs) (Ret (WrC p (bs ++ encL enc l)) (.tup [])):=by
 refine callsT_facts Tryz.func40 facts40 rfl fun hw _ => ?_
 have hn:l.length ≤ 9223372036854775807:=by have:=wf_len hw.2.1; simpa [ics] using this
 have hp':=hp
 cases hp
 all_goals
  refine callO [1000,1001] [1000,1001] (t44 hp' bs [((l.map dataC).length:Int)] ?_) rfl rfl rfl rfl rfl fun _ _ => ?_
  ·simp only [encL,List.length_append,List.length_map,List.length_map,encIs,List.flatMap_cons,List.flatMap_nil,List.append_nil] at hb ⊢; omega
  refine loopN l.length 15 [] (bs ++ encI l.length) (fun _ => []) (fun s => WrCL _ s) (fun k s => s ++ (l.drop k).flatMap enc = bs ++ encL enc l) (by simp [encL]) (same_keys rfl) trivial ⟨.inl ⟨_,rfl,.inl ⟨rfl,rfl⟩⟩,.inl ⟨_,rfl,.inl ⟨?_,rfl⟩⟩,.inl ⟨_,rfl,.inl ⟨rfl,rfl⟩⟩,trivial⟩ (fun _ => rfl) (fun _ => rfl) ?_
  ·show TO.row 5 1 (bcells (bs ++ encIs [((l.map dataC).length:Int)])) = _
   simp [encIs,ics]
  rintro k s hk hinv _ _ _
  refine brn_p (fun hlt => ?_) (fun hge => ?_)
  ·have hlt:k < l.length:=by simpa [ics] using hlt
   obtain ⟨x,hx,hd⟩:=drop_cons hlt
   rw [hd,List.flatMap_cons] at hinv
   have hsz:(s ++ enc x).length ≤ 2 ^ 46:=by
    rw [← hinv] at hb
    simp only [List.length_append] at hb ⊢
    omega
   refine idxT hx rfl rfl ?_
   refine callO [1000,1001,1002] [1000,1001,1002] (hc x (List.mem_of_getElem? hx) s hsz) rfl rfl rfl rfl rfl fun _ _ => ?_
   refine Fit.in64 (by omega) (by omega) ?_
   exact ⟨(k + 1,s ++ enc x),⟨hlt,by rw [← hinv]; simp⟩,⟨nextI,trivial⟩,⟨.inl ⟨_,rfl,.inl ⟨rfl,rfl⟩⟩,.inl ⟨_,rfl,.inl ⟨rfl,rfl⟩⟩,.inl ⟨_,rfl,.inl ⟨rfl,rfl⟩⟩,trivial⟩,nextM hlt⟩
  ·have hge:¬ k < l.length:=by simpa [ics] using hge
   rw [drop_end hge] at hinv
   refine retO [1000,1001,1002] rfl rfl ?_ rfl
   simp only [List.flatMap_nil,List.append_nil] at hinv
   subst hinv
   rfl
theorem t39 {po:Option Prog} {p:C} (hp:Dpc po p) (bs:List UInt8) (l:List ByteArray) (hb:(bs ++ encSs l).length ≤ 2 ^ 46):CallsT PZ 39 [.own 1000 0,.sl (scs l)] (Wr p bs) (Ret (Wr p (bs ++ encSs l)) (.tup [])):=by
 refine callsT_facts Tryz.func39 facts39 rfl fun hw _ => ?_
 have hn:l.length ≤ 9223372036854775807:=by have:=wf_len hw.2.1; simpa [scs] using this
 have hp':=hp
 cases hp
 all_goals
  refine loopN l.length 8 [] bs (fun _ => []) (fun s => WrL _ s) (fun k s => s ++ encSs (l.drop k) = bs ++ encSs l) rfl (same_keys rfl) trivial ⟨.inl ⟨_,rfl,.inl ⟨rfl,rfl⟩⟩,.inl ⟨_,rfl,.inl ⟨rfl,rfl⟩⟩,trivial⟩ (fun _ => rfl) (fun _ => rfl) ?_
  rintro k s hk hinv _ _ _
  refine brn_p (fun hlt => ?_) (fun hge => ?_)
  ·have hlt:k < l.length:=by simpa [scs] using hlt
   obtain ⟨x,hx,hd⟩:=drop_cons hlt
   rw [hd] at hinv
   have hsz:s.length + (encI x.size).length + x.size ≤ 2 ^ 46:=by
    rw [← hinv] at hb
    simp only [encSs,List.flatMap_cons,encS,List.length_append,size_toList] at hb
    omega
   refine idxS hx ?_
   refine callO [1000,1001] [1000,1001] (t44 hp' s [(x.size:Int)] ?_) rfl rfl rfl rfl rfl fun _ _ => ?_
   ·simp only [encIs,List.flatMap_cons,List.flatMap_nil,List.append_nil,List.length_append]; omega
   refine appS1 ?_ ?_
   ·simp only [encIs,List.flatMap_cons,List.flatMap_nil,List.append_nil,List.length_append]; omega
   refine Fit.in64 (by omega) (by omega) ?_
   refine ⟨(k + 1,s ++ encS x),⟨hlt,by rw [← hinv]; simp [encSs]⟩,⟨nextI,trivial⟩,⟨.inl ⟨_,rfl,.inl ⟨rfl,rfl⟩⟩,.inl ⟨_,rfl,.inl ⟨?_,rfl⟩⟩,trivial⟩,nextM hlt⟩
   refine congrArg (TO.row 5 1) ?_
   simp [encS,encIs,bcells]
  ·have hge:¬ k < l.length:=by simpa [scs] using hge
   rw [drop_end hge] at hinv
   refine retO [1000,1001] rfl rfl ?_ rfl
   simp only [encSs,List.flatMap_nil,List.append_nil] at hinv
   subst hinv
   rfl
theorem t36s (l:List ByteArray) (i:Int) (s:ByteArray) (h:elem l i = some s):CallsT PZ 36 [.sl (scs l),IC i] [] (Ret [] (.tup [.str s,.bool true])):=by
 refine callsT_facts Tryz.func36 facts36 rfl fun hw _ => ?_
 obtain ⟨h1,h2,h3⟩:=elem_some h
 refine brn_p (fun h => absurd h h1) (fun _ => ?_)
 refine brn_p (fun h => absurd h (by simpa [scs] using h2)) (fun _ => ?_)
 refine idxE h1 h3 rfl rfl ?_
 exact retP rfl rfl
theorem t36n (l:List ByteArray) (i:Int) (h:elem l i = none):CallsT PZ 36 [.sl (scs l),IC i] [] (Ret [] (.tup [.str ⟨#[]⟩,.bool false])):=by
 refine callsT_facts Tryz.func36 facts36 rfl fun hw _ => ?_
 rcases elem_none h with h1 | ⟨h1,h2⟩
 ·refine brn_p (fun _ => ?_) (fun h => absurd h1 h)
  exact retP rfl rfl
 ·refine brn_p (fun h => absurd h h1) (fun _ => ?_)
  refine brn_p (fun _ => ?_) (fun h => absurd (by simpa [scs] using h2) h)
  exact retP rfl rfl
theorem t99s (l:List Api.Data) (i:Int) (s:Api.Data) (h:elem l i = some s):CallsT PZ 99 [.sl (l.map dataC),IC i] [] (Ret [] (.tup [.agg (dataC s),.bool true])):=by
 refine callsT_facts Tryz.func99 facts99 rfl fun hw _ => ?_
 obtain ⟨h1,h2,h3⟩:=elem_some h
 refine brn_p (fun h => absurd h h1) (fun _ => ?_)
 refine brn_p (fun h => absurd h (by simpa using h2)) (fun _ => ?_)
 refine idxE h1 h3 rfl rfl ?_
 exact retP rfl rfl
theorem t99n (l:List Api.Data) (i:Int) (h:elem l i = none):CallsT PZ 99 [.sl (l.map dataC),IC i] [] (Ret [] (.tup [.agg (dataC zeroD),.bool false])):=by
 refine callsT_facts Tryz.func99 facts99 rfl fun hw _ => ?_
 rcases elem_none h with h1 | ⟨h1,h2⟩
 ·refine brn_p (fun _ => ?_) (fun h => absurd h1 h)
  exact retP rfl rfl
 ·refine brn_p (fun h => absurd h h1) (fun _ => ?_)
  refine brn_p (fun _ => ?_) (fun h => absurd (by simpa using h2) h)
  exact retP rfl rfl
theorem t36 (l:List ByteArray) (i:Int):∃ b,CallsT PZ 36 [.sl (scs l),IC i] [] (Ret [] (.tup [.str (nm l i),.bool b])):=by
 unfold nm
 cases h:elem l i with
 | some s => exact ⟨_,t36s l i s h⟩
 | none => exact ⟨_,t36n l i h⟩
theorem t89 {po:Option Prog} {p:C} (hp:Dpc po p) (bs:List UInt8) (t:Ty) (hb:(bs ++ (encName po t.kind t.id).getD []).length ≤ 2 ^ 46) :
  CallsT PZ 89 [.own 1000 0,.agg (tyC t)] (Wr p bs) (Ret (Wr p (bs ++ (encName po t.kind t.id).getD [])) (.bool (encName po t.kind t.id).isSome)):=by
 rw [tyC_eq]
 have hp':=hp
 have none_case:∀ (e:encName po t.kind t.id = none),p = .nilp ∨ (∃ q,po = some q ∧ p = .pt (progC q) 0 ∧ (¬ t.kind = 2 ∨ (t.kind = 2 ∧ elem q.datas t.id = none))) →
   CallsT PZ 89 [.own 1000 0,.agg [IC t.kind,IC t.id,.sl (t.args.map tyC)]] (Wr p bs) (Ret (Wr p bs) (.bool false)):=by
  rintro e (rfl | ⟨q,rfl,rfl,hk⟩)
  ·refine callsT_facts Tryz.func89 facts89 rfl fun hw _ => ?_
   exact retO [1000,1001] rfl rfl rfl rfl
  ·refine callsT_facts Tryz.func89 facts89 rfl fun hw _ => ?_
   rcases hk with hk | ⟨hk,hd⟩
   ·refine brn_split (fun h => ?_) (fun h => absurd (by simpa using h) hk)
    exact retO [1000,1001] rfl rfl rfl rfl
   ·refine brn_split (fun h => absurd hk (by simpa using h)) (fun h => ?_)
    refine callPD (t99n _ _ hd) rfl fun _ => ?_
    exact retO [1000,1001] rfl rfl rfl rfl
 cases hp with
 | nil =>
  have:=none_case rfl (.inl rfl)
  simpa [encName] using this
 | prog q =>
  by_cases hk:t.kind = 2
  ·cases hd:elem q.datas t.id with
   | none =>
    have e:encName (some q) t.kind t.id = none:=by simp [encName,hk,hd]
    have:=none_case e (.inr ⟨q,rfl,rfl,.inr ⟨hk,hd⟩⟩)
    rw [e]
    simpa using this
   | some d =>
    have e:encName (some q) t.kind t.id = some (encSs [nm q.modules d.module,d.name]):=by simp [encName,hk,hd]
    rw [e] at hb ⊢
    have hx:=t36 q.modules d.module
    obtain ⟨b,hm⟩:=hx
    refine callsT_facts Tryz.func89 facts89 rfl fun hw _ => ?_
    refine brn_split (fun h => absurd hk (by simpa using h)) (fun h => ?_)
    refine callPD (t99s _ _ d hd) rfl fun _ => ?_
    refine callPD hm rfl fun _ => ?_
    refine callO [1000,1001] [1000,1001] (t39 hp' bs [nm q.modules d.module,d.name] hb) rfl rfl rfl rfl rfl fun _ _ => ?_
    exact retO [1000,1001] rfl rfl rfl rfl
  ·have e:encName (some q) t.kind t.id = none:=by simp [encName,hk]
   have:=none_case e (.inr ⟨q,rfl,rfl,.inl hk⟩)
   rw [e]
   simpa using this
theorem t53 {po:Option Prog} {p:C} (hp:Dpc po p) (bs:List UInt8) (n:Int) (hb:(bs ++ encTrait po n).length ≤ 2 ^ 46):CallsT PZ 53 [.own 1000 0,IC n] (Wr p bs) (Ret (Wr p (bs ++ encTrait po n)) (.tup [])):=by
 have hp':=hp
 cases hp with
 | nil =>
  refine callsT_facts Tryz.func53 facts53 rfl fun hw _ => ?_
  refine callO [1000,1001] [1000,1001] (t44 hp' bs [n] hb) rfl rfl rfl rfl rfl fun _ _ => ?_
  exact retO [1000,1001] rfl rfl rfl rfl
 | prog q =>
  have hx:=t36 q.traits n
  obtain ⟨b,hm⟩:=hx
  refine callsT_facts Tryz.func53 facts53 rfl fun hw _ => ?_
  refine callP hm rfl fun _ => ?_
  refine callO [1000,1001] [1000,1001] (t39 hp' bs [nm q.traits n] hb) rfl rfl rfl rfl rfl fun _ _ => ?_
  exact retO [1000,1001] rfl rfl rfl rfl
theorem t91 {po:Option Prog} {p:C} (hp:Dpc po p) (b:Bound) (bs:List UInt8) (hb:(bs ++ encBound po b).length ≤ 2 ^ 46):CallsT PZ 91 [.agg (boundC b),.own 1002 0] (WrC p bs) (Ret (WrC p (bs ++ encBound po b)) (.tup [])):=by
 have e:bs ++ encBound po b = bs ++ encIs [b.param] ++ encTrait po b.trait:=by simp [encBound]
 rw [e] at hb ⊢
 refine callsT_facts Tryz.func91 facts91 rfl fun hw _ => ?_
 have hp':=hp
 cases hp
 all_goals
  refine callO [1000,1001] [1000,1001] (t44 hp' bs [b.param] (by simp only [List.length_append] at hb ⊢; omega)) rfl rfl rfl rfl rfl fun _ _ => ?_
  refine callO [1000,1001] [1000,1001] (t53 hp' _ b.trait hb) rfl rfl rfl rfl rfl fun _ _ => ?_
  exact retO [1000,1001,1002] rfl rfl rfl rfl
theorem t54 {po:Option Prog} {p:C} (hp:Dpc po p) (bs:List UInt8) (l:List Bound) (hb:(bs ++ encL (encBound po) l).length ≤ 2 ^ 46):CallsT PZ 54 [.own 1000 0,.sl (l.map boundC)] (Wr p bs) (Ret (Wr p (bs ++ encL (encBound po) l)) (.tup [])):=by
 refine callsT_facts Tryz.func54 facts54 rfl fun hw _ => ?_
 have hp':=hp
 cases hp
 all_goals
  refine callO [1000,1001,2] [1000,1001,2] (t90 hp' bs l (encBound _) (fun x _ s hs => t91 hp' x s hs) hb) rfl rfl rfl rfl rfl fun _ _ => ?_
  exact retO [1000,1001] rfl rfl rfl rfl
theorem t101 {po:Option Prog} {p:C} (hp:Dpc po p) (n:Int) (bs:List UInt8) (hb:(bs ++ encI n).length ≤ 2 ^ 46):CallsT PZ 101 [IC n,.own 1002 0] (WrC p bs) (Ret (WrC p (bs ++ encI n)) (.tup [])):=by
 have e:bs ++ encI n = bs ++ encIs [n]:=by simp [encIs]
 rw [e] at hb ⊢
 refine callsT_facts Tryz.func101 facts101 rfl fun hw _ => ?_
 have hp':=hp
 cases hp
 all_goals
  refine callO [1000,1001] [1000,1001] (t44 hp' bs [n] hb) rfl rfl rfl rfl rfl fun _ _ => ?_
  exact retO [1000,1001,1002] rfl rfl rfl rfl
theorem t92 {po:Option Prog} {p:C} (hp:Dpc po p) (bs:List UInt8) (l:List Int) (hb:(bs ++ encL encI l).length ≤ 2 ^ 46):CallsT PZ 92 [.own 1000 0,.sl (ics l)] (Wr p bs) (Ret (Wr p (bs ++ encL encI l)) (.tup [])):=by
 refine callsT_facts Tryz.func92 facts92 rfl fun hw _ => ?_
 have hp':=hp
 cases hp
 all_goals
  refine callO [1000,1001,2] [1000,1001,2] (t100 hp' bs l encI (fun x _ s hs => t101 hp' x s hs) hb) rfl rfl rfl rfl rfl fun _ _ => ?_
  exact retO [1000,1001] rfl rfl rfl rfl
theorem t48 {po:Option Prog} {p:C} (hp:Dpc po p):∀ (t:Ty) (bs:List UInt8) (hb:(bs ++ encTy po t).length ≤ 2 ^ 46),CallsT PZ 48 [.own 1000 0,.agg (tyC t)] (Wr p bs) (Ret (Wr p (bs ++ encTy po t)) (.tup []))
 | .mk k i l,bs,hb => by
  have ih:∀ x ∈ l,∀ s:List UInt8,(s ++ encTy po x).length ≤ 2 ^ 46 → CallsT PZ 48 [.own 1000 0,.agg (tyC x)] (Wr p s) (Ret (Wr p (s ++ encTy po x)) (.tup [])):=fun x hx s hs => t48 hp x s hs
  have h80:=t89 hp (bs ++ encIs [k]) (.mk k i l)
  rw [tyC_eq] at h80 ⊢
  simp only [Ty.kind,Ty.id,Ty.args] at h80 ⊢
  cases hn:encName po k i with
  | none =>
   have e:bs ++ encTy po (.mk k i l) = bs ++ encIs [k] ++ encIs [i] ++ encL (encTy po) l:=by rw [encTy_eq]; simp [encIs,Ty.kind,Ty.id,Ty.args,hn]
   rw [e] at hb ⊢
   rw [hn] at h80
   simp only [Option.getD_none,Option.isSome_none,List.append_nil] at h80
   generalize encTy po = E at ih hb ⊢
   refine callsT_facts Tryz.func48 facts48 rfl fun hw _ => ?_
   have hp':=hp
   cases hp
   all_goals
    refine callO [1000,1001] [1000,1001] (t44 hp' bs [k] (by simp only [List.length_append] at hb ⊢; omega)) rfl rfl rfl rfl rfl fun _ _ => ?_
    refine callO [1000,1001] [1000,1001] (h80 (by simp only [List.length_append] at hb ⊢; omega)) rfl rfl rfl rfl rfl fun _ _ => ?_
    refine callO [1000,1001] [1000,1001] (t44 hp' (bs ++ encIs [k]) [i] (by simp only [List.length_append] at hb ⊢; omega)) rfl rfl rfl rfl rfl fun _ _ => ?_
    refine callO [1000,1001] [1000,1001] (t47 hp' (bs ++ encIs [k] ++ encIs [i]) l E ih hb) rfl rfl rfl rfl rfl fun _ _ => ?_
    exact retO [1000,1001] rfl rfl rfl rfl
  | some b =>
   have e:bs ++ encTy po (.mk k i l) = bs ++ encIs [k] ++ b ++ encL (encTy po) l:=by rw [encTy_eq]; simp [encIs,Ty.kind,Ty.id,Ty.args,hn]
   rw [e] at hb ⊢
   rw [hn] at h80
   simp only [Option.getD_some,Option.isSome_some] at h80
   generalize encTy po = E at ih hb ⊢
   refine callsT_facts Tryz.func48 facts48 rfl fun hw _ => ?_
   have hp':=hp
   cases hp
   all_goals
    refine callO [1000,1001] [1000,1001] (t44 hp' bs [k] (by simp only [List.length_append] at hb ⊢; omega)) rfl rfl rfl rfl rfl fun _ _ => ?_
    refine callO [1000,1001] [1000,1001] (h80 (by simp only [List.length_append] at hb ⊢; omega)) rfl rfl rfl rfl rfl fun _ _ => ?_
    refine callO [1000,1001] [1000,1001] (t47 hp' (bs ++ encIs [k] ++ b) l E ih hb) rfl rfl rfl rfl rfl fun _ _ => ?_
    exact retO [1000,1001] rfl rfl rfl rfl
termination_by t => SizeOf.sizeOf t
decreasing_by
 have:=List.sizeOf_lt_of_mem hx
 simp only [Ty.mk.sizeOf_spec]
 omega
theorem t59 {po:Option Prog} {p:C} (hp:Dpc po p) (f:Fun) (bs:List UInt8) (hb:(bs ++ encSig po f).length ≤ 2 ^ 46):CallsT PZ 59 [.own 1000 0,.agg (funC f)] (Wr p bs) (Ret (Wr p (bs ++ encSig po f)) (.tup [])):=by
 have e:bs ++ encSig po f = bs ++ encSs [f.name] ++ encIs [f.params] ++ encL (encBound po) f.bounds ++ encIs [f.arity] ++ encL (encTy po) (argsOf f) ++ encTy po f.result ++ encL encI f.ties:=by simp [encSig]
 rw [e] at hb ⊢
 have h45:∀ (x:Ty) (s:List UInt8),(s ++ encTy po x).length ≤ 2 ^ 46 → CallsT PZ 48 [.own 1000 0,.agg (tyC x)] (Wr p s) (Ret (Wr p (s ++ encTy po x)) (.tup [])):=fun x s hs => t48 hp x s hs
 generalize encTy po = E at h45 hb ⊢
 refine callsT_facts Tryz.func59 facts59 rfl fun hw _ => ?_
 have hwa:(Lit.int .i64 f.arity).wf = true:=hw.2.1.2.2.2.2.1
 have hwl:Wf (.sl (f.locals.map tyC)):=hw.2.1.2.2.2.2.2.2.2.2.1
 have hn:=wf_lenM hwl
 have hn':(f.locals.map tyC).length ≤ 9223372036854775807:=by rw [List.length_map]; exact hn
 have hm1:=mn_wf hwa hn'
 have hm2:=mx0_wf hm1
 have hbd:=mx0_bd (n:=(f.locals.map tyC).length) (a:=f.arity)
 have hsl:((f.locals.map tyC).drop (Int.toNat 0)).take ((mx0 (mn (f.locals.map tyC).length f.arity)).toNat - Int.toNat 0) = (argsOf f).map tyC:=by
  show ((f.locals.map tyC).drop 0).take ((mx0 (mn (f.locals.map tyC).length f.arity)).toNat - 0) = _
  rw [mx0_eq,argsOf,List.map_take,List.length_map]
  rfl
 have hsz:∀ es ∈ f.locals.map tyC,es.length = 3:=by
  intro es he
  obtain ⟨t,_,rfl⟩:=List.mem_map.1 he
  exact tyC_len t
 have hres:(C.agg [IC f.result.kind,IC f.result.id,.sl (f.result.args.map tyC)]) = .agg (tyC f.result):=by rw [tyC_eq]
 have hp':=hp
 cases hp
 all_goals
  refine callO [1000,1001] [1000,1001] (t39 hp' bs [f.name] (by simp only [List.length_append] at hb ⊢; omega)) rfl rfl rfl rfl rfl fun _ _ => ?_
  refine callO [1000,1001] [1000,1001] (t44 hp' _ [f.params] (by simp only [List.length_append] at hb ⊢; omega)) rfl rfl rfl rfl rfl fun _ _ => ?_
  refine callO [1000,1001] [1000,1001] (t54 hp' _ f.bounds (by simp only [List.length_append] at hb ⊢; omega)) rfl rfl rfl rfl rfl fun _ _ => ?_
  refine callO [1000,1001] [1000,1001] (t44 hp' _ [f.arity] (by simp only [List.length_append] at hb ⊢; omega)) rfl rfl rfl rfl rfl fun _ _ => ?_
  refine ⟨hm1,?_⟩
  refine ⟨hm2,?_⟩
  refine SlcT.mk (Int.le_refl 0) hbd.1 hbd.2 hsz ?_
  refine callO [1000,1001] [1000,1001] (t47 hp' _ (argsOf f) E (fun x _ s hs => h45 x s hs) (by simp only [List.length_append] at hb ⊢; omega)) rfl rfl (congrArg (fun z => [C.own 1000 0,.sl z,.fn 48 [.own 1000 0] []]) hsl) rfl rfl fun _ _ => ?_
  refine callO [1000,1001] [1000,1001] (h45 f.result _ (by simp only [List.length_append] at hb ⊢; omega)) rfl rfl (congrArg (fun z => [C.own 1000 0,z]) hres) rfl rfl fun _ _ => ?_
  refine callO [1000,1001] [1000,1001] (t92 hp' _ f.ties hb) rfl rfl rfl rfl rfl fun _ _ => ?_
  exact retO [1000,1001] rfl rfl rfl rfl
theorem t42 (x:Api.Data):CallsT PZ 42 [.agg (dataC x)] [] (Ret [] (IC x.module)):=by
 refine callsT_facts Tryz.func42 facts42 rfl fun hw _ => ?_
 exact retP rfl rfl
theorem t41 (l:List Api.Data) (m:Int) (hl:l.length ≤ 2 ^ 30):CallsT PZ 41 [.sl (l.map dataC),IC m,.fn 42 [] []] [] (Ret [] (.sl ((l.filter fun x => decide (x.module = m)).map dataC))):=by
 refine callsT_facts Tryz.func41 facts41 rfl fun hw _ => ?_
 refine loopN l.length 12 [7] [] (fun _ => [.rw 7]) (fun s => [(7,.row 80 5 (s.map dataC))]) (fun k s => s.length ≤ k ∧ s ++ (l.drop k).filter (fun x => decide (x.module = m)) = l.filter fun x => decide (x.module = m)) ⟨Nat.le_refl _,by simp⟩
  (same_keys rfl) ⟨.inr (.inr (.inr (.inl ⟨rfl,7,80,5,rfl,rfl,rfl⟩))),trivial⟩ ⟨.inr ⟨rfl,80,5,rfl⟩,trivial⟩ (fun _ => rfl) (fun _ => rfl) ?_
 rintro k s hk ⟨hsk,hinv⟩ _ _ _
 refine brn_p (fun hlt => ?_) (fun hge => ?_)
 ·have hlt:k < l.length:=by simpa using hlt
  obtain ⟨x,hx,hd⟩:=drop_cons hlt
  rw [hd] at hinv
  refine idxT hx rfl rfl ?_
  refine callP (t42 x) rfl fun _ => ?_
  refine brn_p (fun he => ?_) (fun he => ?_)
  ·refine AppT.mk ?_ ?_ ?_ ?_
   ·intro es h
    rcases List.mem_cons.1 h with rfl | h
    ·rfl
    ·cases h
   ·show (s.map dataC).length + 1 ≤ maxLen
    rw [List.length_map]; simp only [maxLen]; omega
   ·show ((s.map dataC).length + 1) * 64 ≤ _
    rw [List.length_map]; omega
   refine Fit.in64 (by omega) (by omega) ?_
   refine ⟨(k + 1,s ++ [x]),⟨hlt,by simpa using hsk,?_⟩,⟨nextI,same_keys rfl,trivial⟩,⟨.inl ⟨_,rfl,.inl ⟨?_,rfl⟩⟩,trivial⟩,nextM hlt⟩
   ·rw [← hinv,List.filter_cons,if_pos (by simpa using he)]; simp
   ·refine congrArg (TO.row 80 5) ?_
    rw [List.map_append]; rfl
  ·refine Fit.in64 (by omega) (by omega) ?_
   refine ⟨(k + 1,s),⟨hlt,by show s.length ≤ k + 1; omega,?_⟩,⟨nextI,same_keys rfl,trivial⟩,⟨.inl ⟨_,rfl,.inl ⟨rfl,rfl⟩⟩,trivial⟩,nextM hlt⟩
   rw [← hinv,List.filter_cons,if_neg (by simpa using he)]
 ·have hge:¬ k < l.length:=by simpa using hge
  rw [drop_end hge] at hinv
  refine retF [7] [] ⟨_,[],rfl,rfl,rfl,rfl,?_⟩
  simp only [List.filter_nil,List.append_nil] at hinv
  subst hinv
  rfl
theorem t51 (x:Impl):CallsT PZ 51 [.agg (implC x)] [] (Ret [] (IC x.module)):=by
 refine callsT_facts Tryz.func51 facts51 rfl fun hw _ => ?_
 exact retP rfl rfl
theorem t50 (l:List Impl) (m:Int) (hl:l.length ≤ 2 ^ 30):CallsT PZ 50 [.sl (l.map implC),IC m,.fn 51 [] []] [] (Ret [] (.sl ((l.filter fun x => decide (x.module = m)).map implC))):=by
 refine callsT_facts Tryz.func50 facts50 rfl fun hw _ => ?_
 refine loopN l.length 12 [7] [] (fun _ => [.rw 7]) (fun s => [(7,.row 50 8 (s.map implC))]) (fun k s => s.length ≤ k ∧ s ++ (l.drop k).filter (fun x => decide (x.module = m)) = l.filter fun x => decide (x.module = m)) ⟨Nat.le_refl _,by simp⟩
  (same_keys rfl) ⟨.inr (.inr (.inr (.inl ⟨rfl,7,50,8,rfl,rfl,rfl⟩))),trivial⟩ ⟨.inr ⟨rfl,50,8,rfl⟩,trivial⟩ (fun _ => rfl) (fun _ => rfl) ?_
 rintro k s hk ⟨hsk,hinv⟩ _ _ _
 refine brn_p (fun hlt => ?_) (fun hge => ?_)
 ·have hlt:k < l.length:=by simpa using hlt
  obtain ⟨x,hx,hd⟩:=drop_cons hlt
  rw [hd] at hinv
  refine idxT hx rfl rfl ?_
  refine callP (t51 x) rfl fun _ => ?_
  refine brn_p (fun he => ?_) (fun he => ?_)
  ·refine AppT.mk ?_ ?_ ?_ ?_
   ·intro es h
    rcases List.mem_cons.1 h with rfl | h
    ·rfl
    ·cases h
   ·show (s.map implC).length + 1 ≤ maxLen
    rw [List.length_map]; simp only [maxLen]; omega
   ·show ((s.map implC).length + 1) * 96 ≤ _
    rw [List.length_map]; omega
   refine Fit.in64 (by omega) (by omega) ?_
   refine ⟨(k + 1,s ++ [x]),⟨hlt,by simpa using hsk,?_⟩,⟨nextI,same_keys rfl,trivial⟩,⟨.inl ⟨_,rfl,.inl ⟨?_,rfl⟩⟩,trivial⟩,nextM hlt⟩
   ·rw [← hinv,List.filter_cons,if_pos (by simpa using he)]; simp
   ·refine congrArg (TO.row 50 8) ?_
    rw [List.map_append]; rfl
  ·refine Fit.in64 (by omega) (by omega) ?_
   refine ⟨(k + 1,s),⟨hlt,by show s.length ≤ k + 1; omega,?_⟩,⟨nextI,same_keys rfl,trivial⟩,⟨.inl ⟨_,rfl,.inl ⟨rfl,rfl⟩⟩,trivial⟩,nextM hlt⟩
   rw [← hinv,List.filter_cons,if_neg (by simpa using he)]
 ·have hge:¬ k < l.length:=by simpa using hge
  rw [drop_end hge] at hinv
  refine retF [7] [] ⟨_,[],rfl,rfl,rfl,rfl,?_⟩
  simp only [List.filter_nil,List.append_nil] at hinv
  subst hinv
  rfl
theorem t58 (x:Fun):CallsT PZ 58 [.agg (funC x)] [] (Ret [] (IC x.module)):=by
 refine callsT_facts Tryz.func58 facts58 rfl fun hw _ => ?_
 exact retP rfl rfl
set_option maxHeartbeats 1000000 in
theorem t57 (l:List Fun) (m:Int) (hl:l.length ≤ 2 ^ 30):CallsT PZ 57 [.sl (l.map funC),IC m,.fn 58 [] []] [] (Ret [] (.sl ((l.filter fun x => decide (x.module = m)).map funC))):=by
 refine callsT_facts Tryz.func57 facts57 rfl fun hw _ => ?_
 refine loopN l.length 12 [7] [] (fun _ => [.rw 7]) (fun s => [(7,.row 36 11 (s.map funC))]) (fun k s => s.length ≤ k ∧ s ++ (l.drop k).filter (fun x => decide (x.module = m)) = l.filter fun x => decide (x.module = m)) ⟨Nat.le_refl _,by simp⟩
  (same_keys rfl) ⟨.inr (.inr (.inr (.inl ⟨rfl,7,36,11,rfl,rfl,rfl⟩))),trivial⟩ ⟨.inr ⟨rfl,36,11,rfl⟩,trivial⟩ (fun _ => rfl) (fun _ => rfl) ?_
 rintro k s hk ⟨hsk,hinv⟩ _ _ _
 refine brn_p (fun hlt => ?_) (fun hge => ?_)
 ·have hlt:k < l.length:=by simpa using hlt
  obtain ⟨x,hx,hd⟩:=drop_cons hlt
  rw [hd] at hinv
  refine idxT hx rfl rfl ?_
  refine callP (t58 x) rfl fun _ => ?_
  refine brn_p (fun he => ?_) (fun he => ?_)
  ·refine AppT.mk ?_ ?_ ?_ ?_
   ·intro es h
    rcases List.mem_cons.1 h with rfl | h
    ·rfl
    ·cases h
   ·show (s.map funC).length + 1 ≤ maxLen
    rw [List.length_map]; simp only [maxLen]; omega
   ·show ((s.map funC).length + 1) * 176 ≤ _
    rw [List.length_map]; omega
   refine Fit.in64 (by omega) (by omega) ?_
   refine ⟨(k + 1,s ++ [x]),⟨hlt,by simpa using hsk,?_⟩,⟨nextI,same_keys rfl,trivial⟩,⟨.inl ⟨_,rfl,.inl ⟨?_,rfl⟩⟩,trivial⟩,nextM hlt⟩
   ·rw [← hinv,List.filter_cons,if_pos (by simpa using he)]; simp
   ·refine congrArg (TO.row 36 11) ?_
    rw [List.map_append]; rfl
  ·refine Fit.in64 (by omega) (by omega) ?_
   refine ⟨(k + 1,s),⟨hlt,by show s.length ≤ k + 1; omega,?_⟩,⟨nextI,same_keys rfl,trivial⟩,⟨.inl ⟨_,rfl,.inl ⟨rfl,rfl⟩⟩,trivial⟩,nextM hlt⟩
   rw [← hinv,List.filter_cons,if_neg (by simpa using he)]
 ·have hge:¬ k < l.length:=by simpa using hge
  rw [drop_end hge] at hinv
  refine retF [7] [] ⟨_,[],rfl,rfl,rfl,rfl,?_⟩
  simp only [List.filter_nil,List.append_nil] at hinv
  subst hinv
  rfl
theorem t55s (l:List Fun) (i:Int) (s:Fun) (h:elem l i = some s):CallsT PZ 55 [.sl (l.map funC),IC i] [] (Ret [] (.tup [.agg (funC s),.bool true])):=by
 refine callsT_facts Tryz.func55 facts55 rfl fun hw _ => ?_
 obtain ⟨h1,h2,h3⟩:=elem_some h
 refine brn_p (fun h => absurd h h1) (fun _ => ?_)
 refine brn_p (fun h => absurd h (by simpa using h2)) (fun _ => ?_)
 refine idxE h1 h3 rfl rfl ?_
 exact retP rfl rfl
theorem t55n (l:List Fun) (i:Int) (h:elem l i = none):CallsT PZ 55 [.sl (l.map funC),IC i] [] (Ret [] (.tup [.agg (funC zeroF),.bool false])):=by
 refine callsT_facts Tryz.func55 facts55 rfl fun hw _ => ?_
 rcases elem_none h with h1 | ⟨h1,h2⟩
 ·refine brn_p (fun _ => ?_) (fun h => absurd h1 h)
  exact retP rfl rfl
 ·refine brn_p (fun h => absurd h h1) (fun _ => ?_)
  refine brn_p (fun _ => ?_) (fun h => absurd (by simpa using h2) h)
  exact retP rfl rfl
theorem t55 (l:List Fun) (i:Int):∃ b,CallsT PZ 55 [.sl (l.map funC),IC i] [] (Ret [] (.tup [.agg (funC ((elem l i).getD zeroF)),.bool b])):=by
 cases h:elem l i with
 | some s => exact ⟨_,t55s l i s h⟩
 | none => exact ⟨_,t55n l i h⟩
theorem t46 {po:Option Prog} {p:C} (hp:Dpc po p) (v:Variant) (bs:List UInt8) (hb:(bs ++ encVariant po v).length ≤ 2 ^ 46):CallsT PZ 46 [.agg (variantC v),.own 1002 0] (WrC p bs) (Ret (WrC p (bs ++ encVariant po v)) (.tup [])):=by
 have e:bs ++ encVariant po v = bs ++ encSs [v.name] ++ encL (encTy po) v.fields:=by simp [encVariant]
 rw [e] at hb ⊢
 have h45:∀ (x:Ty) (s:List UInt8),(s ++ encTy po x).length ≤ 2 ^ 46 → CallsT PZ 48 [.own 1000 0,.agg (tyC x)] (Wr p s) (Ret (Wr p (s ++ encTy po x)) (.tup [])):=fun x s hs => t48 hp x s hs
 generalize encTy po = E at h45 hb ⊢
 refine callsT_facts Tryz.func46 facts46 rfl fun hw _ => ?_
 have hp':=hp
 cases hp
 all_goals
  refine callO [1000,1001] [1000,1001] (t39 hp' bs [v.name] (by simp only [List.length_append] at hb ⊢; omega)) rfl rfl rfl rfl rfl fun _ _ => ?_
  refine callO [1000,1001] [1000,1001] (t47 hp' _ v.fields E (fun x _ s hs => h45 x s hs) hb) rfl rfl rfl rfl rfl fun _ _ => ?_
  exact retO [1000,1001,1002] rfl rfl rfl rfl
theorem t43 {po:Option Prog} {p:C} (hp:Dpc po p) (d:Api.Data) (bs:List UInt8) (hb:(bs ++ encData po d).length ≤ 2 ^ 46):CallsT PZ 43 [.agg (dataC d),.own 1002 0] (WrC p bs) (Ret (WrC p (bs ++ encData po d)) (.tup [])):=by
 have e:bs ++ encData po d = bs ++ encSs [d.name] ++ encIs [d.params,d.drop] ++ encL (encVariant po) d.variants:=by simp [encData]
 rw [e] at hb ⊢
 have h57:∀ (x:Variant) (s:List UInt8),(s ++ encVariant po x).length ≤ 2 ^ 46 → CallsT PZ 46 [.agg (variantC x),.own 1002 0] (WrC p s) (Ret (WrC p (s ++ encVariant po x)) (.tup [])):=fun x s hs => t46 hp x s hs
 generalize encVariant po = E at h57 hb ⊢
 refine callsT_facts Tryz.func43 facts43 rfl fun hw _ => ?_
 have hp':=hp
 cases hp
 all_goals
  refine callO [1000,1001] [1000,1001] (t39 hp' bs [d.name] (by simp only [List.length_append] at hb ⊢; omega)) rfl rfl rfl rfl rfl fun _ _ => ?_
  refine callO [1000,1001] [1000,1001] (t44 hp' _ [d.params,d.drop] (by simp only [List.length_append] at hb ⊢; omega)) rfl rfl rfl rfl rfl fun _ _ => ?_
  refine callO [1000,1001,1002] [1000,1001,1002] (t45 hp' _ d.variants E (fun x _ s hs => h57 x s hs) hb) rfl rfl rfl rfl rfl fun _ _ => ?_
  exact retO [1000,1001,1002] rfl rfl rfl rfl
theorem t49m {po:Option Prog} {p:C} (hp:Dpc po p) (q0:Prog) (bs:List UInt8) (l:List Impl) (enc:Impl → List UInt8) (hc:∀ x ∈ l,∀ s:List UInt8,(s ++ enc x).length ≤ 2 ^ 46 → CallsT PZ 52 [.agg (implC x),.own 1002 0,.pt (progC q0) 0] (WrC p s) (Ret (WrC p (s ++ enc x)) (.tup [])))
  (hb:(bs ++ encL enc l).length ≤ 2 ^ 46):CallsT PZ 49 [.own 1000 0,.sl (l.map implC),.fn 52 [] [.own 1002 0,.pt (progC q0) 0]] (WrC p bs) (Ret (WrC p (bs ++ encL enc l)) (.tup [])):=by
 refine callsT_facts Tryz.func49 facts49 rfl fun hw _ => ?_
 have hn:l.length ≤ 9223372036854775807:=by have:=wf_len hw.2.1; simpa [ics] using this
 have hp':=hp
 cases hp
 all_goals
  refine callO [1000,1001] [1000,1001] (t44 hp' bs [((l.map implC).length:Int)] ?_) rfl rfl rfl rfl rfl fun _ _ => ?_
  ·simp only [encL,List.length_append,List.length_map,List.length_map,encIs,List.flatMap_cons,List.flatMap_nil,List.append_nil] at hb ⊢; omega
  refine loopN l.length 15 [] (bs ++ encI l.length) (fun _ => []) (fun s => WrCL _ s) (fun k s => s ++ (l.drop k).flatMap enc = bs ++ encL enc l) (by simp [encL]) (same_keys rfl) trivial ⟨.inl ⟨_,rfl,.inl ⟨rfl,rfl⟩⟩,.inl ⟨_,rfl,.inl ⟨?_,rfl⟩⟩,.inl ⟨_,rfl,.inl ⟨rfl,rfl⟩⟩,trivial⟩ (fun _ => rfl) (fun _ => rfl) ?_
  ·show TO.row 5 1 (bcells (bs ++ encIs [((l.map implC).length:Int)])) = _
   simp [encIs,ics]
  rintro k s hk hinv _ _ _
  refine brn_p (fun hlt => ?_) (fun hge => ?_)
  ·have hlt:k < l.length:=by simpa [ics] using hlt
   obtain ⟨x,hx,hd⟩:=drop_cons hlt
   rw [hd,List.flatMap_cons] at hinv
   have hsz:(s ++ enc x).length ≤ 2 ^ 46:=by
    rw [← hinv] at hb
    simp only [List.length_append] at hb ⊢
    omega
   refine idxT hx rfl rfl ?_
   refine callO [1000,1001,1002] [1000,1001,1002] (hc x (List.mem_of_getElem? hx) s hsz) rfl rfl rfl rfl rfl fun _ _ => ?_
   refine Fit.in64 (by omega) (by omega) ?_
   exact ⟨(k + 1,s ++ enc x),⟨hlt,by rw [← hinv]; simp⟩,⟨nextI,trivial⟩,⟨.inl ⟨_,rfl,.inl ⟨rfl,rfl⟩⟩,.inl ⟨_,rfl,.inl ⟨rfl,rfl⟩⟩,.inl ⟨_,rfl,.inl ⟨rfl,rfl⟩⟩,trivial⟩,nextM hlt⟩
  ·have hge:¬ k < l.length:=by simpa [ics] using hge
   rw [drop_end hge] at hinv
   refine retO [1000,1001,1002] rfl rfl ?_ rfl
   simp only [List.flatMap_nil,List.append_nil] at hinv
   subst hinv
   rfl
theorem t52 (q:Prog) (x:Impl) (bs:List UInt8) (hb:(bs ++ encImpl q x).length ≤ 2 ^ 46):CallsT PZ 52 [.agg (implC x),.own 1002 0,.pt (progC q) 0] (WrC (.pt (progC q) 0) bs) (Ret (WrC (.pt (progC q) 0) (bs ++ encImpl q x)) (.tup [])):=by
 have e:bs ++ encImpl q x = bs ++ encTrait (some q) x.trait ++ encIs [x.params] ++ encL (encBound (some q)) x.bounds ++ encTy (some q) x.type ++ encSs [fnameOf q x.func]:=by simp [encImpl]
 rw [e] at hb ⊢
 have h45:∀ (x:Ty) (s:List UInt8),(s ++ encTy (some q) x).length ≤ 2 ^ 46 → CallsT PZ 48 [.own 1000 0,.agg (tyC x)] (Wr (.pt (progC q) 0) s) (Ret (Wr (.pt (progC q) 0) (s ++ encTy (some q) x)) (.tup [])):=fun x s hs => t48 (.prog q) x s hs
 have h63:=t53 (.prog q) bs x.trait
 have h65:=t55 q.funcs x.func
 obtain ⟨b,h65⟩:=h65
 unfold fnameOf at hb ⊢
 generalize (elem q.funcs x.func).getD zeroF = f0 at h65 hb ⊢
 generalize encTy (some q) = E at h45 hb ⊢
 generalize encTrait (some q) x.trait = TR at h63 hb ⊢
 have hres:(C.agg [IC x.type.kind,IC x.type.id,.sl (x.type.args.map tyC)]) = .agg (tyC x.type):=by rw [tyC_eq]
 refine callsT_facts Tryz.func52 facts52 rfl fun hw _ => ?_
 refine callO [1000,1001] [1000,1001] (h63 (by simp only [List.length_append] at hb ⊢; omega)) rfl rfl rfl rfl rfl fun _ _ => ?_
 refine callO [1000,1001] [1000,1001] (t44 (.prog q) _ [x.params] (by simp only [List.length_append] at hb ⊢; omega)) rfl rfl rfl rfl rfl fun _ _ => ?_
 refine callO [1000,1001] [1000,1001] (t54 (.prog q) _ x.bounds (by simp only [List.length_append] at hb ⊢; omega)) rfl rfl rfl rfl rfl fun _ _ => ?_
 refine callO [1000,1001] [1000,1001] (h45 x.type _ (by simp only [List.length_append] at hb ⊢; omega)) rfl rfl (congrArg (fun z => [C.own 1000 0,z]) hres) rfl rfl fun _ _ => ?_
 refine callP h65 rfl fun _ => ?_
 refine callO [1000,1001] [1000,1001] (t39 (.prog q) _ [f0.name] hb) rfl rfl rfl rfl rfl fun _ _ => ?_
 exact retO [1000,1001,1002] rfl rfl rfl rfl
def WrM (q:Prog) (bs:List UInt8) (name:ByteArray):List TO:=[.box 148 [.rw 1001,.pt (progC q) 0],.row 5 1 (bcells bs),.box 9 [.str name]]
theorem t38 (q:Prog) (name:ByteArray) (m:Int) (bs:List UInt8) (hb:(bs ++ encModule q name m).length ≤ 2 ^ 46) (h1:q.datas.length ≤ 2 ^ 30) (h2:q.impls.length ≤ 2 ^ 30) (h3:q.funcs.length ≤ 2 ^ 30) :
  CallsT PZ 38 [.own 1000 0,.own 1002 0,.pt (progC q) 0,.pt [IC m] 0] (WrM q bs name) (Ret (WrM q (bs ++ encModule q name m) name) (.tup [])):=by
 have e:bs ++ encModule q name m = bs ++ encSs [name] ++ encL (encData (some q)) (q.datas.filter fun x => decide (x.module = m)) ++ encL (encImpl q) (q.impls.filter fun x => decide (x.module = m)) ++ encL (encSig (some q)) (q.funcs.filter fun x => decide (x.module = m)):=by simp [encModule]
 rw [e] at hb ⊢
 have h54:∀ (x:Api.Data) (s:List UInt8),(s ++ encData (some q) x).length ≤ 2 ^ 46 → CallsT PZ 43 [.agg (dataC x),.own 1002 0] (WrC (.pt (progC q) 0) s) (Ret (WrC (.pt (progC q) 0) (s ++ encData (some q) x)) (.tup [])):=fun x s hs => t43 (.prog q) x s hs
 have h62:∀ (x:Impl) (s:List UInt8),(s ++ encImpl q x).length ≤ 2 ^ 46 → CallsT PZ 52 [.agg (implC x),.own 1002 0,.pt (progC q) 0] (WrC (.pt (progC q) 0) s) (Ret (WrC (.pt (progC q) 0) (s ++ encImpl q x)) (.tup [])):=fun x s hs => t52 q x s hs
 have h34:∀ (x:Fun) (s:List UInt8),(s ++ encSig (some q) x).length ≤ 2 ^ 46 → CallsT PZ 59 [.own 1000 0,.agg (funC x)] (Wr (.pt (progC q) 0) s) (Ret (Wr (.pt (progC q) 0) (s ++ encSig (some q) x)) (.tup [])):=fun x s hs => t59 (.prog q) x s hs
 generalize encData (some q) = E1 at h54 hb ⊢
 generalize encImpl q = E2 at h62 hb ⊢
 generalize encSig (some q) = E3 at h34 hb ⊢
 have g1:=t41 q.datas m h1
 have g2:=t50 q.impls m h2
 have g3:=t57 q.funcs m h3
 generalize (q.datas.filter fun x => decide (x.module = m)) = l1 at g1 hb ⊢
 generalize (q.impls.filter fun x => decide (x.module = m)) = l2 at g2 hb ⊢
 generalize (q.funcs.filter fun x => decide (x.module = m)) = l3 at g3 hb ⊢
 refine callsT_facts Tryz.func38 facts38 rfl fun hw _ => ?_
 refine callO [1000,1001] [1000,1001] (t39 (.prog q) bs [name] (by simp only [List.length_append] at hb ⊢; omega)) rfl rfl rfl rfl rfl fun _ _ => ?_
 refine callPD g1 rfl fun _ => ?_
 refine callOD [1000,1001,4] [1000,1001,4] (t40 (.prog q) _ l1 E1 (fun x _ s hs => h54 x s hs) (by simp only [List.length_append] at hb ⊢; omega)) rfl rfl rfl rfl rfl fun _ _ => ?_
 refine callPD g2 rfl fun _ => ?_
 refine callOD [1000,1001,4] [1000,1001,4] (t49m (.prog q) q _ l2 E2 (fun x _ s hs => h62 x s hs) (by simp only [List.length_append] at hb ⊢; omega)) rfl rfl rfl rfl rfl fun _ _ => ?_
 refine callPD g3 rfl fun _ => ?_
 refine callOD [1000,1001] [1000,1001] (t56 (.prog q) _ l3 E3 (fun x _ s hs => h34 x s hs) hb) rfl rfl rfl rfl rfl fun _ _ => ?_
 exact retO [1000,1001,1002] rfl rfl rfl rfl
theorem t37_38 (q:Prog) (name:ByteArray) (m:Int) (hb:(encModule q name m).length ≤ 2 ^ 46) (h1:q.datas.length ≤ 2 ^ 30) (h2:q.impls.length ≤ 2 ^ 30) (h3:q.funcs.length ≤ 2 ^ 30) :
  CallsT PZ 37 [.pt (progC q) 0,.fn 38 [] [.own 1000 0,.pt (progC q) 0,.pt [IC m] 0]] [.box 9 [.str name]] (Ret [.box 9 [.str name],.row 5 1 (bcells (encModule q name m))] (.rw 1001)):=by
 have h:=t38 q name m [] hb h1 h2 h3
 generalize encModule q name m = code at h ⊢
 refine callsT_facts Tryz.func37 facts37 rfl fun hw _ => ?_
 refine callG [(8,.box 148 [.rw 2000,.pt (progC q) 0]),(1000,.box 9 [.str name]),(2000,.row 5 1 [])] [8,2000,1000] [8,2000,1000] h
  ⟨.inl ⟨_,rfl,.inr ⟨148,_,_,rfl,rfl,_,_,rfl,.inr (.inr (.inr (.inl ⟨rfl,2000,5,1,rfl,rfl,rfl⟩))),_,_,rfl,.inr (.inl ⟨rfl,rfl⟩),rfl⟩⟩,.inl ⟨_,rfl,.inl ⟨rfl,rfl⟩⟩,.inr ⟨rfl,5,1,rfl⟩,trivial⟩
  rfl rfl rfl rfl rfl fun _ _ => ?_
 exact retO [1000,2000] rfl rfl rfl rfl
theorem t11 (q:Prog) (m:Int) (hb:∀ name,elem q.modules m = some name → (encModule q name m).length ≤ 2 ^ 46) (h1:q.datas.length ≤ 2 ^ 30) (h2:q.impls.length ≤ 2 ^ 30) (h3:q.funcs.length ≤ 2 ^ 30) :
  CallsT PZ 11 [.agg (progC q),IC m] [] (Ret [] (.int .i64 (digM q m))):=by
 unfold digM
 cases hn:elem q.modules m with
 | none =>
  have h:=t36n q.modules m hn
  refine callsT_facts Tryz.func11 facts11 rfl fun hw _ => ?_
  refine callP h rfl fun _ => ?_
  exact retP rfl rfl
 | some name =>
  have h:=t36s q.modules m name hn
  have h32:=t37_38 q name m (hb name hn) h1 h2 h3
  simp only []
  generalize encModule q name m = code at h32 ⊢
  refine callsT_facts Tryz.func11 facts11 rfl fun hw _ => ?_
  refine callP h rfl fun _ => ?_
  refine callO [5] [5,17] h32 rfl rfl rfl rfl rfl fun _ _ => ?_
  refine callF [17] [] [] (t15 code) ⟨[],rfl,rfl,rfl,rfl,rfl,fun _ _ => ?_⟩
  exact retP rfl rfl
end Go.Fr.Tryz
