/- Part of the proofs of the statements of this seat. -/
import Derived.Test.YtidbpicbmklccaaDoorIfT5G
import Derived.Test.YtidbpicbmklccaaDoorIfB4G
set_option maxRecDepth 10000
set_option linter.unusedVariables false
set_option linter.unusedSimpArgs false
namespace Go.Fr.Tryd
open Go Go.RowKit Go.Proofs Go.Fr Go.Fr.T Go.Fr.Api
def vint (z:Nat):List UInt8:=if h:z < 128 then [UInt8.ofNat z] else UInt8.ofNat (128 + z % 128) :: vint (z / 128)
termination_by z
decreasing_by omega
def zz (n:Int):Nat:=if n < 0 then (-2 * n - 1).toNat else (2 * n).toNat
def numB (n:Int):List UInt8:=vint (zz n)
def numsB (l:List Int):List UInt8:=(l.map numB).flatten
def textB (s:ByteArray):List UInt8:=numB s.size ++ s.data.toList
def textsB (l:List ByteArray):List UInt8:=(l.map textB).flatten
def listB {α:Type} (f:α → List UInt8) (l:List α):List UInt8:=numB l.length ++ (l.map f).flatten
theorem vint_len (z:Nat):1 ≤ (vint z).length:=by
 rw [vint]
 split <;> simp
theorem wrapu_emod (n:Int):IntKind.wrap .u64 n = n % 18446744073709551616:=by
 simp [IntKind.wrap,IntKind.bits,IntKind.signed]
theorem zz_xor {n:Int} (h1:-9223372036854775808 ≤ n) (h2:n ≤ 9223372036854775807) :
  IntKind.wrap .u64 ((BitVec.ofInt 64 ((2 * n) % 18446744073709551616) ^^^ BitVec.ofInt 64 (if n < 0 then 18446744073709551615 else 0)).toNat:Int) = (zz n:Nat):=by
 rw [wrapu_emod]
 unfold zz
 by_cases hn:n < 0
 ·rw [if_pos hn,if_pos hn]
  have e1:BitVec.ofInt 64 18446744073709551615 = BitVec.allOnes 64:=by decide
  obtain ⟨m,hm⟩:∃ m:Nat,(2 * n) % 18446744073709551616 = (m:Int):=⟨((2 * n) % 18446744073709551616).toNat,by omega⟩
  rw [hm,e1,BitVec.ofInt_natCast,BitVec.xor_allOnes,BitVec.toNat_not,BitVec.toNat_ofNat,Nat.mod_eq_of_lt (by omega)]
  omega
 ·rw [if_neg hn,if_neg hn]
  have e1:BitVec.ofInt 64 0 = 0#64:=by decide
  obtain ⟨m,hm⟩:∃ m:Nat,(2 * n) % 18446744073709551616 = (m:Int):=⟨((2 * n) % 18446744073709551616).toNat,by omega⟩
  rw [hm,e1,BitVec.ofInt_natCast,BitVec.xor_zero,BitVec.toNat_ofNat,Nat.mod_eq_of_lt (by omega)]
  omega
theorem and127 (m:Nat) (h:m < 18446744073709551616):IntKind.wrap .u64 ((BitVec.ofInt 64 (m:Int) &&& BitVec.ofInt 64 127).toNat:Int) = ((m % 128:Nat):Int):=by
 have e1:BitVec.ofInt 64 127 = BitVec.ofNat 64 127:=by decide
 rw [wrapu_emod,e1,BitVec.ofInt_natCast,BitVec.toNat_and,BitVec.toNat_ofNat,BitVec.toNat_ofNat,Nat.mod_eq_of_lt h,Nat.mod_eq_of_lt (by decide),show (127:Nat) = 2 ^ 7 - 1 from rfl,Nat.and_two_pow_sub_one_eq_mod]
 omega
theorem or128 (m:Nat) (h:m < 128):IntKind.wrap .u64 ((BitVec.ofInt 64 128 ||| BitVec.ofInt 64 (m:Int)).toNat:Int) = ((128 + m:Nat):Int):=by
 have e1:BitVec.ofInt 64 128 = BitVec.ofNat 64 128:=by decide
 rw [wrapu_emod,e1,BitVec.ofInt_natCast,BitVec.toNat_or,BitVec.toNat_ofNat,BitVec.toNat_ofNat,Nat.mod_eq_of_lt (by decide),Nat.mod_eq_of_lt (by omega)]
 have:(128:Nat) ||| m = 128 + m:=by
  have:=Nat.two_pow_add_eq_or_of_lt (i:=7) (b:=m) (by omega) 1
  simpa using this.symm
 rw [this]
 omega
theorem u8_hi {m:Nat} (h:m < 18446744073709551616):IntKind.wrap .u8 (IntKind.wrap .u64 ((BitVec.ofInt 64 128 ||| BitVec.ofInt 64 (IntKind.wrap .u64 ((BitVec.ofInt 64 (m:Int) &&& BitVec.ofInt 64 127).toNat:Int))).toNat:Int)) = ((UInt8.ofNat (128 + m % 128)).toNat:Int):=by
 rw [and127 m h,or128 _ (Nat.mod_lt _ (by omega)),UInt8.toNat_ofNat']
 simp only [IntKind.wrap,IntKind.bits,IntKind.signed,Bool.false_and,Nat.reducePow,Int.reducePow]
 simp
theorem u8_lo (m:Nat):IntKind.wrap .u8 (m:Int) = ((UInt8.ofNat m).toNat:Int):=by
 rw [UInt8.toNat_ofNat']
 simp only [IntKind.wrap,IntKind.bits,IntKind.signed,Bool.false_and,Nat.reducePow,Int.reducePow]
 simp
structure PC where
 a:List (List C)
 b:List (List C)
 c:List (List C)
 d:List (List C)
 e:List (List C)
 f:List (List C)
 g:List (List C)
 n:Int
def PC.cs (p:PC):List C:=[.sl p.a,.sl p.b,.sl p.c,.sl p.d,.sl p.e,.sl p.f,.sl p.g,IC p.n]
abbrev WP (p:PC) (bs:List UInt8):List TO:=WB 59 p.cs bs
def WPL (p:PC) (bs:List UInt8):TL:=[(1000,.box 59 (.rw 1001 :: IC 0 :: .int .i8 0 :: p.cs)),(1001,.row 5 1 (bcells bs))]
section
theorem wb_gives {p:PC} {L:TL} {s:List UInt8} {r:TL} (h0:L.get 1000 = some (.box 59 (.rw 1001 :: IC 0 :: .int .i8 0 :: p.cs))) (h1:L.get 1001 = some (.row 5 1 (bcells s))) {L1:TL} (hk:keysO L1 (.box 59 (.rw 1001 :: IC 0 :: .int .i8 0 :: p.cs)) = true) (hr:gives L L1 r) :
  gives L L1 ((1000,.box 59 (.rw 1001 :: IC 0 :: .int .i8 0 :: p.cs)) :: (1001,.row 5 1 (bcells s)) :: r) :=
 ⟨.inl ⟨_,h0,.inl ⟨rfl,hk⟩⟩,.inl ⟨_,h1,.inl ⟨rfl,rfl⟩⟩,hr⟩
theorem t59 (p:PC) (bs:List UInt8) (ns:List Int) (hb:bs.length + (numsB ns).length ≤ 70368744177664):CallsT PZ 59 [.own 1000 0,.sl (ics ns)] (WP p bs) (Ret (WP p (bs ++ numsB ns)) (.tup [])):=by
 refine callsT_facts Tryd.func59 facts59 rfl fun hw ho => ?_
 have hln:(ics ns).length = ns.length:=by simp [ics]
 have hnm:ns.length ≤ 9223372036854775807:=by have:=wf_len hw.2.1; rwa [hln] at this
 have hwn:∀ x ∈ ns,-9223372036854775808 ≤ x ∧ x ≤ 9223372036854775807:=fun x hx => by
  have h1:=hw.2.1
  simp only [Wf] at h1
  exact wf_i64 (WfS_iff.1 (WfSS_iff.1 h1.2 [IC x] (List.mem_map.2 ⟨x,hx,rfl⟩)) (IC x) (by simp))
 refine loopN ns.length 9 [] bs (fun _ => []) (fun s => WPL p s) (fun k s => s ++ numsB (ns.drop k) = bs ++ numsB ns) rfl (same_keys rfl) trivial
  (wb_gives rfl rfl rfl trivial) (fun _ => rfl) (fun _ => rfl) ?_
 rintro k s hk hinv _ _ _
 refine brn_p (fun hlt => ?_) (fun hge => ?_)
 ·have hlt:k < ns.length:=by rw [hln] at hlt; omega
  refine withDrop hlt fun x hx hxm hd => ?_
  rw [hd] at hinv
  have hcons:numsB (x :: ns.drop (k + 1)) = numB x ++ numsB (ns.drop (k + 1)):=rfl
  rw [hcons,← List.append_assoc] at hinv
  obtain ⟨hx1,hx2⟩:=hwn x hxm
  have hlen:s.length + (numB x).length ≤ 70368744177664:=by
   have:=congrArg List.length hinv
   simp only [List.length_append] at this
   omega
  refine idxI hx ?_
  refine Fit.to (m:=x % 18446744073709551616) (wrapu_emod x) ?_
  refine ⟨by decide,Fit.to (m:=(2 * x) % 18446744073709551616) (by rw [wrapu_emod]; show (x % 18446744073709551616 * 2) % 18446744073709551616 = _; omega) ?_⟩
  refine ⟨by decide,?_⟩
  refine Fit.to (m:=if x < 0 then 18446744073709551615 else 0) (by
   rw [wrapu_emod]
   show (x.fdiv 9223372036854775808) % 18446744073709551616 = _
   rw [Int.fdiv_eq_ediv_of_nonneg _ (by decide)]
   split <;> omega) ?_
  have hz:=zz_xor hx1 hx2
  have hz64:zz x < 18446744073709551616:=by unfold zz; split <;> omega
  refine LoopT.mk ⟨Nat × List UInt8,(zz x,s),fun y => y.1 < 18446744073709551616 ∧ y.2 ++ vint y.1 = s ++ numB x,[6],fun y => [.int .u64 y.1],fun y => WPL p y.2,fun y => y.1,⟨hz64,rfl⟩,⟨.inr (.inl ⟨congrArg (C.int .u64) hz,rfl⟩),trivial⟩,
   wb_gives rfl rfl rfl trivial,fun _ => rfl,fun _ => rfl,?_⟩
  rintro ⟨m,done⟩ ⟨hm64,hmi⟩ _ _
  simp only at hmi hm64
  have hdl:done.length + (vint m).length ≤ 70368744177664:=by
   have:=congrArg List.length hmi
   simp only [List.length_append] at this
   omega
  have h1:=vint_len m
  refine brn_p (fun hm => ?_) (fun hm => ?_)
  ·have hm:128 ≤ m:=by have:(128:Int) ≤ (m:Int):=hm; omega
   have hde:vint m = UInt8.ofNat (128 + m % 128) :: vint (m / 128):=by rw [vint,dif_neg (by omega)]
   refine Fit.to (u8_hi hm64) ?_
   refine callO [1000,1001] [1000,1001] (t86T 59 p.cs rfl done (UInt8.ofNat (128 + m % 128)) (by omega)) rfl rfl rfl rfl rfl fun _ _ => ?_
   refine ⟨by decide,?_⟩
   refine ⟨(m / 128,done ++ [UInt8.ofNat (128 + m % 128)]),⟨by omega,?_⟩,⟨.inr (.inl ⟨congrArg (C.int .u64) ?_,rfl⟩),trivial⟩,wb_gives rfl rfl rfl trivial,(by show m / 128 < m; omega)⟩
   ·rw [← hmi,hde]; simp
   ·show (m:Int).fdiv 128 = _
    rw [Int.fdiv_eq_ediv_of_nonneg _ (by decide)]
    rfl
  ·have hm:m < 128:=by have:¬ (128:Int) ≤ (m:Int):=hm; omega
   have hde:vint m = [UInt8.ofNat m]:=by rw [vint,dif_pos hm]
   refine Fit.to (u8_lo m) ?_
   refine callO [1000,1001] [1000,1001] (t86T 59 p.cs rfl done (UInt8.ofNat m) (by omega)) rfl rfl rfl rfl rfl fun _ _ => ?_
   refine Fit.in64 (by omega) (by omega) ?_
   refine ⟨(k + 1,done ++ [UInt8.ofNat m]),⟨by omega,?_⟩,⟨nextI,trivial⟩,wb_gives rfl rfl rfl trivial,nextM hlt⟩
   rw [← hinv,← hmi,hde]
 ·have hge:¬ k < ns.length:=by rw [hln] at hge; omega
  rw [drop_end hge] at hinv
  have:s = bs ++ numsB ns:=by rw [← hinv]; simp [numsB]
  subst this
  exact retO [1000,1001] rfl rfl rfl rfl
def WV (p:PC) (bs:List UInt8):List TO:=WP p bs ++ [.box 53 [.own 1000 0]]
def WVL (p:PC) (bs:List UInt8):TL:=[(1000,.box 59 (.rw 1001 :: IC 0 :: .int .i8 0 :: p.cs)),(1001,.row 5 1 (bcells bs)),(1002,.box 53 [.own 1000 0])]
theorem numsB1 (n:Int):numsB [n] = numB n:=by simp [numsB]
theorem t59o (p:PC) (bs:List UInt8) (n:Int) (hb:bs.length + (numB n).length ≤ 70368744177664):CallsT PZ 59 [.own 1000 0,.sl [[IC n]]] (WP p bs) (Ret (WP p (bs ++ numB n)) (.tup [])):=by
 have:=t59 p bs [n] (by rw [numsB1]; exact hb)
 rw [numsB1] at this
 exact this
theorem numB_pos (n:Int):1 ≤ (numB n).length:=vint_len _
theorem idxS {l:List ByteArray} {k:Nat} {x:ByteArray} {K:List C → Prop} (hx:l[k]? = some x) (h:K [.str x]):IdxT (strs l) (k:Int) 1 K:=idxT (f:=fun s => [.str s]) hx rfl rfl h
theorem strs_len {l:List ByteArray}:(strs l).length = l.length:=by simp [strs]
theorem t25 (p:PC) (bs:List UInt8) (l:List ByteArray) (hb:bs.length + (textsB l).length ≤ 70368744177664):CallsT PZ 25 [.own 1000 0,.sl (strs l)] (WP p bs) (Ret (WP p (bs ++ textsB l)) (.tup [])):=by
 refine callsT_facts Tryd.func25 facts25 rfl fun hw ho => ?_
 have hnm:l.length ≤ 9223372036854775807:=by have:=wf_len hw.2.1; rwa [strs_len] at this
 refine loopN l.length 8 [] bs (fun _ => []) (fun s => WPL p s) (fun k s => s ++ textsB (l.drop k) = bs ++ textsB l) rfl (same_keys rfl) trivial
  (wb_gives rfl rfl rfl trivial) (fun _ => rfl) (fun _ => rfl) ?_
 rintro k s hk hinv _ _ _
 refine brn_p (fun hlt => ?_) (fun hge => ?_)
 ·have hlt:k < l.length:=by rw [strs_len] at hlt; omega
  refine withDrop hlt fun x hx hxm hd => ?_
  rw [hd] at hinv
  have hcons:textsB (x :: l.drop (k + 1)) = textB x ++ textsB (l.drop (k + 1)):=rfl
  rw [hcons,← List.append_assoc] at hinv
  have hlen:s.length + ((numB x.size).length + x.data.toList.length) ≤ 70368744177664:=by
   have:=congrArg List.length hinv
   simp only [List.length_append,textB] at this
   omega
  have hpos:=numB_pos x.size
  refine idxS hx ?_
  refine callO [1000,1001] [1000,1001] (t59o p s x.size (by omega)) rfl rfl rfl rfl rfl fun _ _ => ?_
  refine callO [1000,1001] [1000,1001] (t69T 59 p.cs rfl (s ++ numB x.size) x (by rw [List.length_append]; omega) (by rw [List.length_append]; omega)) rfl rfl rfl rfl rfl fun _ _ => ?_
  refine Fit.in64 (by omega) (by omega) ?_
  refine ⟨(k + 1,s ++ textB x),⟨by omega,hinv⟩,⟨nextI,trivial⟩,⟨.inl ⟨_,rfl,.inl ⟨rfl,rfl⟩⟩,.inl ⟨_,rfl,.inl ⟨?_,rfl⟩⟩,trivial⟩,nextM hlt⟩
  exact congrArg (fun q => TO.row 5 1 (bcells q)) (List.append_assoc s _ _)
 ·have hge:¬ k < l.length:=by rw [strs_len] at hge; omega
  rw [drop_end hge] at hinv
  have:s = bs ++ textsB l:=by rw [← hinv]; simp [textsB]
  subst this
  exact retO [1000,1001] rfl rfl rfl rfl
theorem textsB1 (s:ByteArray):textsB [s] = textB s:=by simp [textsB]
theorem t25o (p:PC) (bs:List UInt8) (s:ByteArray) (hb:bs.length + (textB s).length ≤ 70368744177664):CallsT PZ 25 [.own 1000 0,.sl [[.str s]]] (WP p bs) (Ret (WP p (bs ++ textB s)) (.tup [])):=by
 have:=t25 p bs [s] (by rw [textsB1]; exact hb)
 rw [textsB1] at this
 exact this
theorem t56 (p:PC) (bs:List UInt8) (s:ByteArray) (hb:bs.length + (textB s).length ≤ 70368744177664):CallsT PZ 56 [.str s,.own 1002 0] (WV p bs) (Ret (WV p (bs ++ textB s)) (.tup [])):=by
 refine callsT_facts Tryd.func56 facts56 rfl fun hw ho => ?_
 refine callO [1000,1001] [1000,1001] (t25o p bs s hb) rfl rfl rfl rfl rfl fun _ _ => ?_
 exact retO [1000,1001,1002] rfl rfl rfl rfl
theorem t58 (p:PC) (bs:List UInt8) (n:Int) (hb:bs.length + (numB n).length ≤ 70368744177664):CallsT PZ 58 [IC n,.own 1002 0] (WV p bs) (Ret (WV p (bs ++ numB n)) (.tup [])):=by
 refine callsT_facts Tryd.func58 facts58 rfl fun hw ho => ?_
 refine callO [1000,1001] [1000,1001] (t59o p bs n hb) rfl rfl rfl rfl rfl fun _ _ => ?_
 exact retO [1000,1001,1002] rfl rfl rfl rfl
theorem wv_gives {p:PC} {L:TL} {s:List UInt8} (h0:L.get 1000 = some (.box 59 (.rw 1001 :: IC 0 :: .int .i8 0 :: p.cs))) (h1:L.get 1001 = some (.row 5 1 (bcells s))) (h2:L.get 1002 = some (.box 53 [.own 1000 0])):gives L (WVL p s) (WVL p s) :=
 ⟨.inl ⟨_,h0,.inl ⟨rfl,rfl⟩⟩,.inl ⟨_,h1,.inl ⟨rfl,rfl⟩⟩,.inl ⟨_,h2,.inl ⟨rfl,rfl⟩⟩,trivial⟩
theorem t55 (p:PC) (bs:List UInt8) (l:List ByteArray) (hb:bs.length + (listB textB l).length ≤ 70368744177664):CallsT PZ 55 [.own 1000 0,.sl (strs l),.fn 56 [] [.own 1002 0]] (WV p bs) (Ret (WV p (bs ++ listB textB l)) (.tup [])):=by
 refine callsT_facts Tryd.func55 facts55 rfl fun hw ho => ?_
 have hnm:l.length ≤ 9223372036854775807:=by have:=wf_len hw.2.1; rwa [strs_len] at this
 have hbl:(listB textB l).length = (numB l.length).length + (textsB l).length:=by simp [listB,textsB]
 have hlc:C.int .i64 ((strs l).length:Int) = IC l.length:=by rw [strs_len]
 refine callO [1000,1001] [1000,1001] (t59o p bs (strs l).length (by rw [strs_len]; omega)) rfl rfl rfl rfl rfl fun _ _ => ?_
 refine loopN l.length 15 [] (bs ++ numB l.length) (fun _ => []) (fun s => WVL p s) (fun k s => s ++ textsB (l.drop k) = bs ++ listB textB l) (by simp [listB,textsB]) (same_keys rfl) trivial
  (wv_gives rfl (congrArg (fun q => some (TO.row 5 1 (bcells (bs ++ numB q)))) (by rw [strs_len])) rfl) (fun _ => rfl) (fun _ => rfl) ?_
 rintro k s hk hinv _ _ _
 refine brn_p (fun hlt => ?_) (fun hge => ?_)
 ·have hlt:k < l.length:=by rw [strs_len] at hlt; omega
  refine withDrop hlt fun x hx hxm hd => ?_
  rw [hd] at hinv
  have hcons:textsB (x :: l.drop (k + 1)) = textB x ++ textsB (l.drop (k + 1)):=rfl
  rw [hcons,← List.append_assoc] at hinv
  have hlen:s.length + (textB x).length ≤ 70368744177664:=by
   have:=congrArg List.length hinv
   simp only [List.length_append] at this
   omega
  refine idxS hx ?_
  refine callO [1000,1001,1002] [1000,1001,1002] (t56 p s x hlen) rfl rfl rfl rfl rfl fun _ _ => ?_
  refine Fit.in64 (by omega) (by omega) ?_
  exact ⟨(k + 1,s ++ textB x),⟨by omega,hinv⟩,⟨nextI,trivial⟩,wv_gives rfl rfl rfl,nextM hlt⟩
 ·have hge:¬ k < l.length:=by rw [strs_len] at hge; omega
  rw [drop_end hge] at hinv
  have:s = bs ++ listB textB l:=by rw [← hinv]; simp [textsB]
  subst this
  exact retO [1000,1001,1002] rfl rfl rfl rfl
theorem t57 (p:PC) (bs:List UInt8) (l:List Int) (hb:bs.length + (listB numB l).length ≤ 70368744177664):CallsT PZ 57 [.own 1000 0,.sl (ics l),.fn 58 [] [.own 1002 0]] (WV p bs) (Ret (WV p (bs ++ listB numB l)) (.tup [])):=by
 refine callsT_facts Tryd.func57 facts57 rfl fun hw ho => ?_
 have hln:(ics l).length = l.length:=by simp [ics]
 have hnm:l.length ≤ 9223372036854775807:=by have:=wf_len hw.2.1; rwa [hln] at this
 have hbl:(listB numB l).length = (numB l.length).length + (numsB l).length:=by simp [listB,numsB]
 refine callO [1000,1001] [1000,1001] (t59o p bs (ics l).length (by rw [hln]; omega)) rfl rfl rfl rfl rfl fun _ _ => ?_
 refine loopN l.length 15 [] (bs ++ numB l.length) (fun _ => []) (fun s => WVL p s) (fun k s => s ++ numsB (l.drop k) = bs ++ listB numB l) (by simp [listB,numsB]) (same_keys rfl) trivial
  (wv_gives rfl (congrArg (fun q => some (TO.row 5 1 (bcells (bs ++ numB q)))) (by rw [hln])) rfl) (fun _ => rfl) (fun _ => rfl) ?_
 rintro k s hk hinv _ _ _
 refine brn_p (fun hlt => ?_) (fun hge => ?_)
 ·have hlt:k < l.length:=by rw [hln] at hlt; omega
  refine withDrop hlt fun x hx hxm hd => ?_
  rw [hd] at hinv
  have hcons:numsB (x :: l.drop (k + 1)) = numB x ++ numsB (l.drop (k + 1)):=rfl
  rw [hcons,← List.append_assoc] at hinv
  have hlen:s.length + (numB x).length ≤ 70368744177664:=by
   have:=congrArg List.length hinv
   simp only [List.length_append] at this
   omega
  refine idxI hx ?_
  refine callO [1000,1001,1002] [1000,1001,1002] (t58 p s x hlen) rfl rfl rfl rfl rfl fun _ _ => ?_
  refine Fit.in64 (by omega) (by omega) ?_
  exact ⟨(k + 1,s ++ numB x),⟨by omega,hinv⟩,⟨nextI,trivial⟩,wv_gives rfl rfl rfl,nextM hlt⟩
 ·have hge:¬ k < l.length:=by rw [hln] at hge; omega
  rw [drop_end hge] at hinv
  have:s = bs ++ listB numB l:=by rw [← hinv]; simp [numsB]
  subst this
  exact retO [1000,1001,1002] rfl rfl rfl rfl
end
def validI (i:Ifc):Bool:=decide (i.uses.length = i.against.length ∧ i.digest = dig i.body)
theorem t51 (i:Ifc):CallsT PZ 51 [.agg (ifC i)] [] (Ret [] (.bool (validI i))):=by
 refine callsT_facts Tryd.func51 facts51 rfl fun hw _ => ?_
 have e:(decide (((strs i.uses).length:Int) = ((ics i.against).length:Int))) = decide (i.uses.length = i.against.length):=by
  rw [strs_len,ics_len]; exact decide_eq_decide.2 Int.ofNat_inj
 refine brn_split (fun h => ?_) (fun h => ?_)
 ·have h:i.uses.length = i.against.length:=of_decide_eq_true (e.symm.trans h)
  refine callPD (t22 i.body) rfl fun _ => ?_
  refine retP rfl (congrArg C.bool ?_)
  simp [validI,h]
 ·have h:¬ i.uses.length = i.against.length:=of_decide_eq_false (e.symm.trans h)
  refine retP rfl (congrArg C.bool ?_)
  simp [validI,h]
theorem t19 (i:Ifc):CallsT PZ 19 [.agg (ifC i)] [] (Ret [] (.bool (validI i))):=by
 refine callsT_facts Tryd.func19 facts19 rfl fun hw _ => ?_
 have e:(decide (((strs i.uses).length:Int) = ((ics i.against).length:Int))) = decide (i.uses.length = i.against.length):=by
  rw [strs_len,ics_len]; exact decide_eq_decide.2 Int.ofNat_inj
 refine brn_split (fun h => ?_) (fun h => ?_)
 ·have h:i.uses.length = i.against.length:=of_decide_eq_true (e.symm.trans h)
  refine callPD (t40 i.body) rfl fun _ => ?_
  refine retP rfl (congrArg C.bool ?_)
  simp [validI,h]
 ·have h:¬ i.uses.length = i.against.length:=of_decide_eq_false (e.symm.trans h)
  refine retP rfl (congrArg C.bool ?_)
  simp [validI,h]
def exI:Ifc:=⟨⟨#[109]⟩,[],[],7000023,[1]⟩
theorem t21:CallsT PZ 21 [] [] (Ret [] (.agg (ifC exI))):=by
 refine callsT_facts Tryd.func21 facts21 rfl fun hw _ => ?_
 exact retP rfl rfl
def encF (i:Ifc):List UInt8:=textB i.module ++ (listB textB i.uses ++ (listB numB i.against ++ (numB i.digest ++ (numB i.body.length ++ i.body))))
def encB (i:Ifc):List UInt8:=match validI i with | true => sealB (encF i) | false => []
def p0:PC:=⟨[],[],[],[],[],[],[],0⟩
theorem t38T (p:PC) (t:Nat) (bs:List UInt8) (lr:Int):CallsT PZ 38 [.own 1000 0] [.box t (.sl (bcells bs) :: IC 0 :: .int .i8 lr :: p.cs)] (Ret [.box t (.sl (bcells bs) :: IC 0 :: .int .i8 lr :: p.cs)] (.sl (bcells bs))):=by
 refine callsT_facts Tryd.func38 facts38 rfl fun hw ho => ?_
 refine SlcT.mk (by omega) (by omega) (by omega) bcells_sz ?_
 refine retO [1000] rfl rfl rfl (congrArg C.sl (?_:((bcells bs).drop 0).take (((bcells bs).length:Int).toNat - 0) = bcells bs))
 rw [bcells_slice,bcells_len,List.take_of_length_le (by simp)]; rfl
theorem nil_sl {L L1:TL}:leC L L1 .nils (.sl []):=.inr (.inr (.inl ⟨rfl,rfl⟩))
theorem t15 (i:Ifc) (hb:(encF i).length ≤ 70368744177600):CallsT PZ 15 [.agg (ifC i)] [] (Ret [] (.sl (bcells (encB i)))):=by
 refine callsT_facts Tryd.func15 facts15 rfl fun hw _ => ?_
 refine callP (t51 i) rfl fun _ => ?_
 refine brn_split (fun h => ?_) (fun h => ?_)
 ·have h:validI i = false:=by simpa using h
  refine retP rfl ?_
  rw [encB,h]; rfl
 have h:validI i = true:=by simpa using h
 have hl:(encF i).length = (textB i.module).length + ((listB textB i.uses).length + ((listB numB i.against).length + ((numB i.digest).length + ((numB i.body.length).length + i.body.length)))):=by
  simp only [encF,List.length_append]
 refine callG [(3,.box 53 [.own 8 0]),(8,.box 59 (.rw 50 :: IC 0 :: .int .i8 0 :: p0.cs)),(50,.row 5 1 [])] [8,50] [8,50] (t25o p0 [] i.module (by simp only [List.length_nil]; omega))
  ⟨.inl ⟨_,rfl,.inl ⟨rfl,rfl⟩⟩,.inl ⟨_,rfl,.inr ⟨59,_,_,rfl,rfl,⟨_,_,rfl,nil_rw rfl rfl,⟨_,_,rfl,same_keys rfl,⟨_,_,rfl,same_keys rfl,⟨_,_,rfl,nil_sl,⟨_,_,rfl,nil_sl,⟨_,_,rfl,nil_sl,⟨_,_,rfl,nil_sl,⟨_,_,rfl,nil_sl,⟨_,_,rfl,nil_sl,⟨_,_,rfl,nil_sl,⟨_,_,rfl,same_keys rfl,rfl⟩⟩⟩⟩⟩⟩⟩⟩⟩⟩⟩⟩⟩,.inr ⟨rfl,5,1,rfl⟩,trivial⟩ rfl rfl rfl rfl rfl fun _ _ => ?_
 refine callO [8,50,3] [8,50,3] (t55 p0 ([] ++ textB i.module) i.uses (by simp only [List.length_nil,List.length_append]; omega)) rfl rfl rfl rfl rfl fun _ _ => ?_
 refine callO [8,50,3] [8,50,3] (t57 p0 _ i.against (by simp only [List.length_nil,List.length_append]; omega)) rfl rfl rfl rfl rfl fun _ _ => ?_
 have hn2:numsB [i.digest,(i.body.length:Int)] = numB i.digest ++ numB i.body.length:=by simp [numsB]
 refine callO [8,50] [8,50] (t59 p0 _ [i.digest,(i.body.length:Int)] (by rw [hn2]; simp only [List.length_nil,List.length_append]; omega)) rfl rfl (congrArg (fun q => [C.own 1000 0,.sl [[IC i.digest],[IC q]]]) (by rw [bcells_len])) rfl rfl fun _ _ => ?_
 refine callOD [8,50] [8,50] (t60T 59 p0.cs rfl _ i.body (by rw [hn2]; simp only [List.length_nil,List.length_append]; omega) (by rw [hn2]; have:=numB_pos i.digest; simp only [List.length_nil,List.length_append]; omega)) rfl rfl rfl rfl rfl fun _ _ => ?_
 have he:[] ++ textB i.module ++ listB textB i.uses ++ listB numB i.against ++ numsB [i.digest,(i.body.length:Int)] ++ i.body = encF i:=by
  rw [hn2]; simp only [encF,List.nil_append,List.append_assoc]
 refine callF [50] [8] [8] (t38T p0 59 (encF i) 0) ⟨_,rfl,rfl,rfl,congrArg (fun q => [TO.box 59 (.sl (bcells q) :: IC 0 :: .int .i8 0 :: p0.cs)]) he,rfl,fun _ _ => ?_⟩
 refine callP (t43 (encF i) (by omega)) rfl fun _ => ?_
 refine retP rfl ?_
 rw [encB,h]; rfl
theorem Catch.mono {P:Program} {H:Nat} {PS PS':Value → Prop} {ns:List Nat} {out:Value → List (List Value)} (h:Catch P H PS ns out) (hp:∀ v,PS' v → PS v):Catch P H PS' ns out :=
 ⟨h.inv,h.idle,fun F bs v older w hv => h.caught F bs v older w (hp v hv)⟩
def zI:Ifc:=⟨⟨#[]⟩,[],[],0,[]⟩
def decI (bs:List UInt8):Ifc × Int :=
 if bs.length < 4 then (zI,16)
 else if ¬ sealB (bs.take (bs.length - 4)) = bs then (zI,17)
 else match ifD (bs.take (bs.length - 4)) with
  | none => (zI,16)
  | some (i,r) => if r.length = 0 ∧ validI i = true then (i,0) else (zI,16)
theorem decI_1 {bs:List UInt8} (h:bs.length < 4):decI bs = (zI,16):=by simp only [decI]; rw [if_pos h]
theorem decI_2 {bs s:List UInt8} (h:4 ≤ bs.length) (hs:bs.take (bs.length - 4) = s) (k:¬ sealB s = bs):decI bs = (zI,17):=by simp only [decI,hs]; rw [if_neg (by omega),if_pos k]
theorem decI_3 {bs s:List UInt8} (h:4 ≤ bs.length) (hs:bs.take (bs.length - 4) = s) (k:sealB s = bs) (e:ifD s = none):decI bs = (zI,16):=by
 simp only [decI,hs,e]; rw [if_neg (by omega),if_neg (fun h => h k)]
theorem decI_4 {bs s r:List UInt8} {i:Ifc} (h:4 ≤ bs.length) (hs:bs.take (bs.length - 4) = s) (k:sealB s = bs) (e:ifD s = some (i,r)) (hr:¬ (r.length = 0 ∧ validI i = true)):decI bs = (zI,16):=by
 simp only [decI,hs,e]; rw [if_neg (by omega),if_neg (fun h => h k),if_neg hr]
theorem decI_5 {bs s r:List UInt8} {i:Ifc} (h:4 ≤ bs.length) (hs:bs.take (bs.length - 4) = s) (k:sealB s = bs) (e:ifD s = some (i,r)) (hr:r.length = 0 ∧ validI i = true):decI bs = (i,0):=by
 simp only [decI,hs,e]; rw [if_neg (by omega),if_neg (fun h => h k),if_pos hr]
theorem newRd (k:Nat) {L:TL} {ρ:TEnv} {K:TL → TEnv → C → Prop} {args:List C} {s:List UInt8} (ha:(args.map fun c => c.canA.ren (toIn [] 1000)) = [.sl (bcells s)]) (hk:T.koOk L [] [k] = true)
  (h:∀ g,K (L.puts [k] [RB (pin g 134) s s]) ρ (adr g 0)):CallT PZ 44 args L ρ K:=by
 refine .mk ⟨[],[],[k],L,[],_,.inl rfl,rfl,rfl,rfl,hk,rfl,by rw [ha]; exact CallsT.pinRes (by omega) (t44 s),?_⟩
 rintro v Mo ⟨g,rfl,rfl⟩ hw hwo
 exact ⟨rfl,h g⟩
set_option maxRecDepth 20000 in
theorem t11 (bs:List UInt8) (hb:bs.length ≤ 1073741824):CallsT PZ 11 [.sl (bcells bs)] [] (Ret [] (.tup [.agg (ifC (decI bs).1),IC (decI bs).2])):=by
 obtain ⟨s,hs⟩:∃ s,bs.take (bs.length - 4) = s:=⟨_,rfl⟩
 have hsl:s.length ≤ bs.length:=by rw [← hs,List.length_take]; omega
 refine callsT_facts_catch (PS:=fun v => ∃ n,v = errV n ∧ decI bs = (zI,n) ∧ 0 ≤ n ∧ n < 64) (ns:=[5,1]) (out:=outI) Tryd.func11 facts11 (Catch.mono catch41 fun v ⟨n,h,_⟩ => ⟨n,h⟩) (fun v ⟨n,h,_⟩ => by subst h; rfl) rfl ?_ fun hw ho => ?_
 ·rintro v ⟨n,rfl,hd,h0,h1⟩
  refine ⟨.tup [.agg (ifC zI),IC n],.tuple #[.agg #[.string ⟨#[]⟩,.slice none 0 0,.slice none 0 0,.int .i64 0,.slice none 0 0],.int .i64 n],?_,?_,?_⟩
  ·intro L ρ h
   obtain ⟨a1,g1,t1,a2⟩:=h 0 2 _ rfl rfl
   obtain ⟨b1,g2,t2,b2⟩:=h 1 3 _ rfl rfl
   simp only [retV,a1,a2,b1,b2]
   rfl
  ·intro F L
   have hz:Rel F L (.sl []) (.slice none 0 0):=by
    rw [Rel]
    exact ⟨none,0,rfl,Nat.le_refl _,by decide,fun _ => ⟨rfl,rfl⟩,1,by rw [RelS]; trivial⟩
   have hs:Rel F L (.str ⟨#[]⟩) (.string ⟨#[]⟩):=by
    rw [Rel]
    exact ⟨rfl,by decide⟩
   have hi:∀ m:Int,0 ≤ m → m < 64 → Rel F L (IC m) (.int .i64 m):=fun m h0 h1 => by
    rw [Rel]
    exact ⟨rfl,by rw [wf_iff]; simp only [IntKind.min,IntKind.max,IntKind.signed,IntKind.bits,if_true]; omega⟩
   have hn:Rels F L [] []:=by rw [Rels]
   have cons:∀ {c cs v vs},Rel F L c v → Rels F L cs vs → Rels F L (c :: cs) (v :: vs):=fun h1 h2 => by
    rw [Rels]
    exact ⟨_,_,rfl,h1,h2⟩
   rw [Rel]
   refine ⟨[.agg [.string ⟨#[]⟩,.slice none 0 0,.slice none 0 0,.int .i64 0,.slice none 0 0].toArray,.int .i64 n],rfl,cons ?_ (cons (hi n h0 h1) hn)⟩
   rw [Rel]
   exact ⟨[.string ⟨#[]⟩,.slice none 0 0,.slice none 0 0,.int .i64 0,.slice none 0 0],rfl,cons hs (cons hz (cons hz (cons (hi 0 (by omega) (by omega)) (cons hz hn))))⟩
  ·intro Mo hMo
   have hMo:Mo = []:=hMo
   subst hMo
   rw [hd]
   exact ⟨rfl,rfl⟩
 refine ⟨rfl,?_⟩
 have hlen:(bcells bs).length = bs.length:=bcells_len
 refine Fit.in64 (by omega) (by omega) ?_
 refine brn_p (fun h0 => ?_) (fun h0 => ?_)
 ·exact panT rfl ⟨16,rfl,decI_1 (by omega),by omega,by omega⟩
 have h4:4 ≤ bs.length:=by omega
 have hn:((bcells bs).drop 0).take (((bcells bs).length - 4:Int).toNat - 0) = bcells s:=by
  rw [bcells_slice,hlen,show ((bs.length:Int) - 4).toNat - 0 = bs.length - 4 by omega,← hs]; rfl
 refine SlcT.mk (by omega) (by omega) (by omega) bcells_sz ?_
 refine callP (t43 s (by omega)) (congrArg (fun q => [C.sl q]) hn) fun _ => ?_
 refine callP (t42 (sealB s) bs) rfl fun _ => ?_
 refine brn_split (fun hne => ?_) (fun heq => ?_)
 ·have hne:(!decide (sealB s = bs)) = true:=hne
  have hne:¬ sealB s = bs:=by simpa using hne
  exact panT rfl ⟨17,rfl,decI_2 h4 hs hne,by omega,by omega⟩
 have heq:(!decide (sealB s = bs)) = false:=heq
 have heq:sealB s = bs:=by simpa using heq
 refine SlcT.mk (by omega) (by omega) (by omega) bcells_sz ?_
 refine newRd 25 (congrArg (fun q => [C.sl q]) hn) rfl fun g => ?_
 have pan:ifD s = none → ∃ n,errV 16 = errV n ∧ decI bs = (zI,n) ∧ 0 ≤ n ∧ n < 64:=fun h => ⟨16,rfl,decI_3 h4 hs heq h,by omega,by omega⟩
 refine rdD 25 (t45 g s s (List.suffix_refl s) (by omega)) rfl rfl rfl rfl (fun e => pan (andD_none e)) fun m r1 e1 h1 _ => ?_
 have f1:ifD s = _:=andD_some e1
 refine rdD 25 (t47 g s r1 h1 (by omega)) rfl rfl rfl rfl (fun e => pan (f1.trans (andD_none e))) fun u r2 e2 h2 _ => ?_
 have f2:ifD s = _:=f1.trans (andD_some e2)
 refine rdD 25 (t48 g s r2 (h2.trans h1) (by omega)) rfl rfl rfl rfl (fun e => pan (f2.trans (andD_none e))) fun a r3 e3 h3 _ => ?_
 have f3:ifD s = _:=f2.trans (andD_some e3)
 refine rdD 25 (t49 g s r3 (h3.trans (h2.trans h1))) rfl rfl rfl rfl (fun e => pan (f3.trans (andD_none e))) fun d r4 e4 h4' _ => ?_
 have f4:ifD s = _:=f3.trans (andD_some e4)
 have h5:=h4'.trans (h3.trans (h2.trans h1))
 refine rdD 25 (t46 g s r4 h5 (by omega)) rfl rfl rfl rfl (fun e => pan (f4.trans (andD_none e))) fun b r5 e5 h6 _ => ?_
 have f5:ifD s = some (⟨m,u,a,d,b⟩,r5):=f4.trans (andD_some e5)
 refine callO [25] [25] (t50p g s r5 (h6.trans h5)) rfl rfl rfl rfl rfl fun _ _ => ?_
 refine brn_p (fun hr => ?_) (fun hr => ?_)
 ·exact panT rfl ⟨16,rfl,decI_4 h4 hs heq f5 (fun h => by omega),by omega,by omega⟩
 refine callP (t51 ⟨m,u,a,d,b⟩) rfl fun _ => ?_
 refine brn_split (fun hv => ?_) (fun hv => ?_)
 ·have hv:(!validI ⟨m,u,a,d,b⟩) = true:=hv
  exact panT rfl ⟨16,rfl,decI_4 h4 hs heq f5 (fun h => by rw [h.2] at hv; cases hv),by omega,by omega⟩
 have hv:(!validI ⟨m,u,a,d,b⟩) = false:=hv
 have hd:=decI_5 h4 hs heq f5 ⟨by omega,by simpa using hv⟩
 exact retP rfl (by rw [hd]; rfl)
end Go.Fr.Tryd
namespace Go.Fr.Try.Pure
def stp (h x:Int):Int:=(h * 1000003 + x + 1) % 2147483647
def run (h:Int) (l:List Int):Int:=l.foldl stp h
end Go.Fr.Try.Pure
namespace Go.Fr.Tryd
open Go Go.RowKit Go.Proofs Go.Fr Go.Fr.T Go.Fr.Api
open Go.Fr.Try Go.Fr.Dm
structure RT {α:Type} (d:Dec α) (e:α → List UInt8) (ok:α → Prop):Prop where
 wr:∀ x r,ok x → d (e x ++ r) = some (x,r)
 rd:∀ l x r,d l = some (x,r) → ok x ∧ l = e x ++ r
theorem andD_inv {α β:Type} {f:Dec α} {k:α → Dec β} {l r:List UInt8} {y:β} (h:andD f k l = some (y,r)):∃ x r1,f l = some (x,r1) ∧ k x r1 = some (y,r):=by
 unfold andD at h
 split at h
 ·cases h
 ·rename_i x r1 e
  exact ⟨x,r1,e,h⟩
theorem unz_zz (n:Int):unz (zz n) = n:=by
 unfold unz zz
 split
 ·split <;> omega
 ·split <;> omega
theorem zz_unz (z:Nat):zz (unz z) = z:=by
 unfold unz zz
 split
 ·split <;> omega
 ·split <;> omega
theorem u8_of {n:Nat} (h:n < 256):(UInt8.ofNat n).toNat = n:=by
 rw [UInt8.toNat_ofNat']; exact Nat.mod_eq_of_lt h
theorem numGo_wr:∀ (f k z w:Nat) (r:List UInt8),0 < f → w < 128 ^ f → (0 < w ∨ k = 0) → numGo f k z (vint w ++ r) = some (unz (z + w * 128 ^ k),r)
 | 0,k,z,w,r,hf0,h,h0 => absurd hf0 (by omega)
 | f + 1,k,z,w,r,hf0,h,h0 => by
  rw [vint]
  split
  ·rename_i hw
   simp only [List.cons_append,List.nil_append,numGo]
   rw [u8_of (by omega),if_pos hw,if_pos h0]
  ·rename_i hw
   have hm:w % 128 < 128:=Nat.mod_lt _ (by omega)
   simp only [List.cons_append,numGo]
   rw [u8_of (by omega),if_neg (by omega)]
   have e:z + (128 + w % 128 - 128) * 128 ^ k + w / 128 * 128 ^ (k + 1) = z + w * 128 ^ k:=by
    rw [Nat.add_sub_cancel_left,Nat.pow_succ,Nat.add_assoc,Nat.mul_comm (128 ^ k) 128,← Nat.mul_assoc,← Nat.add_mul]
    congr 2
    omega
   have hf:w / 128 < 128 ^ f:=by
    rw [Nat.pow_succ] at h
    exact Nat.div_lt_of_lt_mul (by rw [Nat.mul_comm]; exact h)
   have:=numGo_wr f (k + 1) (z + (128 + w % 128 - 128) * 128 ^ k) (w / 128) r (by
    rcases Nat.eq_zero_or_pos f with e0 | e0
    ·subst e0; simp at h; omega
    ·exact e0) hf (.inl (by omega))
   rw [e] at this
   exact this
theorem numGo_rd:∀ (f k z:Nat) (l:List UInt8) (n:Int) (r:List UInt8),numGo f k z l = some (n,r) → ∃ w,l = vint w ++ r ∧ n = unz (z + w * 128 ^ k) ∧ w < 128 ^ f ∧ (0 < w ∨ k = 0)
 | 0,k,z,l,n,r,h => by cases h
 | f + 1,k,z,[],n,r,h => by cases h
 | f + 1,k,z,c :: l,n,r,h => by
  simp only [numGo] at h
  split at h
  ·rename_i hc
   split at h
   ·rename_i h0
    injection h with h
    injection h with h1 h2
    subst h1 h2
    refine ⟨c.toNat,?_,rfl,?_,h0⟩
    ·rw [vint,dif_pos hc]
     simp
    ·have:0 < 128 ^ f:=Nat.pow_pos (by omega)
     rw [Nat.pow_succ]
     calc c.toNat < 1 * 128:=by omega
      _ ≤ 128 ^ f * 128:=Nat.mul_le_mul_right _ this
   ·cases h
  ·rename_i hc
   obtain ⟨w,rfl,h2,h3,h5⟩:=numGo_rd f (k + 1) _ l n r h
   have hlt:=c.toNat_lt
   have hw:0 < w:=by rcases h5 with h5 | h5 <;> omega
   refine ⟨c.toNat - 128 + 128 * w,?_,?_,?_,.inl (by omega)⟩
   ·have e1:(c.toNat - 128 + 128 * w) % 128 = c.toNat - 128:=by omega
    have e2:(c.toNat - 128 + 128 * w) / 128 = w:=by omega
    have e3:vint (c.toNat - 128 + 128 * w) = c :: vint w:=by
     rw [vint.eq_1 (c.toNat - 128 + 128 * w),dif_neg (by omega),e1,e2,show 128 + (c.toNat - 128) = c.toNat by omega]
     simp
    rw [e3]
    rfl
   ·rw [h2]
    congr 1
    rw [Nat.pow_succ,Nat.add_mul,Nat.add_assoc,Nat.mul_comm (128 ^ k) 128,← Nat.mul_assoc,Nat.mul_comm w 128]
   ·rw [Nat.pow_succ]
    omega
def okN (n:Int):Prop:=zz n < 9223372036854775808
theorem okN_of {n:Int} (h1:-4611686018427387904 ≤ n) (h2:n < 4611686018427387904):okN n:=by
 unfold okN zz
 split <;> omega
theorem num_rt:RT numD numB okN:=by
 refine ⟨fun n r h => ?_,fun l n r h => ?_⟩
 ·have:=numGo_wr 9 0 0 (zz n) r (by omega) h (.inr rfl)
  simp only [Nat.zero_add,Nat.pow_zero,Nat.mul_one,unz_zz] at this
  exact this
 ·obtain ⟨w,rfl,h2,h3,h5⟩:=numGo_rd 9 0 0 l n r h
  simp only [Nat.zero_add,Nat.pow_zero,Nat.mul_one] at h2
  subst h2
  unfold numB okN
  rw [zz_unz]
  exact ⟨h3,rfl⟩
def okL {α:Type} (l:List α):Prop:=l.length < 4611686018427387904
def bytesB (b:List UInt8):List UInt8:=numB b.length ++ b
theorem take_inv {n:Int} {l b r:List UInt8} (h:takeD n l = some (b,r)):0 ≤ n ∧ (b.length:Int) = n ∧ l = b ++ r:=by
 unfold takeD at h
 split at h
 ·rename_i h0
  injection h with h
  injection h with h1 h2
  subst h1 h2
  refine ⟨h0.1,?_,(List.take_append_drop _ _).symm⟩
  rw [List.length_take]
  omega
 ·cases h
theorem bytes_rt:RT bytesD bytesB okL:=by
 refine ⟨fun b r h => ?_,fun l b r h => ?_⟩
 ·unfold bytesD bytesB
  rw [List.append_assoc,num_rt.wr _ _ (okN_of (by omega) (by have:=h; unfold okL at this; omega))]
  simp only []
  rw [takeD_pos (by omega) (by simp; omega)]
  simp
 ·unfold bytesD at h
  split at h
  ·rename_i n r1 e
   obtain ⟨h1,h2⟩:=num_rt.rd _ _ _ e
   obtain ⟨h3,h4,h5⟩:=take_inv h
   refine ⟨?_,?_⟩
   ·unfold okN zz at h1
    unfold okL
    split at h1 <;> omega
   ·rw [h2,h5,← h4,bytesB,List.append_assoc]
  ·cases h
def okT (s:ByteArray):Prop:=s.size < 4611686018427387904
theorem text_rt:RT textD textB okT:=by
 refine ⟨fun s r h => ?_,fun l s r h => ?_⟩
 ·have:=bytes_rt.wr s.data.toList r (by show s.data.toList.length < _; have:=h; unfold okT at this; exact this)
  unfold textD
  have e:textB s = bytesB s.data.toList:=rfl
  rw [e,this]
 ·unfold textD at h
  split at h
  ·rename_i b r1 e
   injection h with h
   injection h with h1 h2
   subst h1 h2
   obtain ⟨k1,k2⟩:=bytes_rt.rd _ _ _ e
   exact ⟨by show b.toArray.size < _; simpa [okL] using k1,k2⟩
  ·cases h
theorem rep_wr {α:Type} {d:Dec α} {e:α → List UInt8} {ok:α → Prop} (h:RT d e ok):∀ (l:List α) (r:List UInt8),(∀ x ∈ l,ok x) → repD d l.length ((l.map e).flatten ++ r) = some (l,r)
 | [],r,_ => rfl
 | x :: l,r,hl => by
  simp only [List.length_cons,repD,List.map_cons,List.flatten_cons,List.append_assoc]
  rw [h.wr x _ (hl x (List.mem_cons_self ..))]
  simp only []
  rw [rep_wr h l r fun y hy => hl y (List.mem_cons_of_mem _ hy)]
theorem rep_rd {α:Type} {d:Dec α} {e:α → List UInt8} {ok:α → Prop} (h:RT d e ok):∀ (n:Nat) (l:List UInt8) (xs:List α) (r:List UInt8),repD d n l = some (xs,r) → (∀ x ∈ xs,ok x) ∧ l = (xs.map e).flatten ++ r ∧ xs.length = n
 | 0,l,xs,r,he => by
  simp only [repD,Option.some.injEq,Prod.mk.injEq] at he
  obtain ⟨rfl,rfl⟩:=he
  exact ⟨fun x hx => (by cases hx),rfl,rfl⟩
 | n + 1,l,xs,r,he => by
  simp only [repD] at he
  split at he
  case h_2 => cases he
  rename_i x r1 e1
  split at he
  case h_2 => cases he
  rename_i ys r2 e2
  simp only [Option.some.injEq,Prod.mk.injEq] at he
  obtain ⟨rfl,rfl⟩:=he
  obtain ⟨h1,h2⟩:=h.rd _ _ _ e1
  obtain ⟨h3,h4,h5⟩:=rep_rd h n _ _ _ e2
  refine ⟨fun y hy => ?_,?_,by simp [h5]⟩
  ·rcases List.mem_cons.1 hy with rfl | hy
   ·exact h1
   ·exact h3 y hy
  ·rw [h2,h4]
   simp
theorem flat_len {α:Type} {e:α → List UInt8} (h:∀ x,1 ≤ (e x).length):∀ l:List α,l.length ≤ (l.map e).flatten.length
 | [] => by simp
 | x :: l => by
  have:=h x
  have:=flat_len h l
  simp only [List.map_cons,List.flatten_cons,List.length_append,List.length_cons]
  omega
theorem list_rt {α:Type} {d:Dec α} {e:α → List UInt8} {ok:α → Prop} (he:∀ x,1 ≤ (e x).length) (h:RT d e ok):RT (listD d) (listB e) (fun l => okL l ∧ ∀ x ∈ l,ok x):=by
 refine ⟨fun l r hl => ?_,fun l xs r hr => ?_⟩
 ·unfold listD listB
  rw [List.append_assoc,num_rt.wr _ _ (okN_of (by omega) (by have:=hl.1; unfold okL at this; omega))]
  simp only []
  have:=flat_len he l
  rw [if_pos ⟨by omega,by rw [List.length_append]; omega⟩]
  exact rep_wr h l r hl.2
 ·unfold listD at hr
  split at hr
  case h_2 => cases hr
  rename_i n r1 e1
  obtain ⟨h1,h2⟩:=num_rt.rd _ _ _ e1
  split at hr
  case isFalse => cases hr
  rename_i h0
  obtain ⟨h3,h4,h5⟩:=rep_rd h _ _ _ _ hr
  have h6:(xs.length:Int) = n:=by omega
  refine ⟨⟨?_,h3⟩,?_⟩
  ·unfold okN zz at h1
   unfold okL
   split at h1 <;> omega
  ·rw [h2,h4,← h6,listB,List.append_assoc]
theorem num_ne (n:Int):1 ≤ (numB n).length:=vint_len _
theorem text_ne (s:ByteArray):1 ≤ (textB s).length:=by
 unfold textB
 have:=num_ne s.size
 rw [List.length_append]
 omega
def okI (i:Ifc):Prop:=okT i.module ∧ (okL i.uses ∧ ∀ x ∈ i.uses,okT x) ∧ (okL i.against ∧ ∀ n ∈ i.against,okN n) ∧ okN i.digest ∧ okL i.body
theorem if_rt:RT ifD encF okI:=by
 refine ⟨fun i r ⟨h1,h2,h3,h4,h5⟩ => ?_,fun l i r h => ?_⟩
 ·unfold ifD encF
  rw [List.append_assoc,andD_some (text_rt.wr _ _ h1),List.append_assoc,andD_some ((list_rt text_ne text_rt).wr _ _ h2),List.append_assoc,andD_some ((list_rt num_ne num_rt).wr _ _ h3),List.append_assoc,andD_some (num_rt.wr _ _ h4)]
  rw [show numB ↑i.body.length ++ i.body ++ r = bytesB i.body ++ r from rfl,andD_some (bytes_rt.wr _ _ h5)]
  rfl
 ·unfold ifD at h
  obtain ⟨m,r1,e1,h⟩:=andD_inv h
  obtain ⟨u,r2,e2,h⟩:=andD_inv h
  obtain ⟨a,r3,e3,h⟩:=andD_inv h
  obtain ⟨d,r4,e4,h⟩:=andD_inv h
  obtain ⟨b,r5,e5,h⟩:=andD_inv h
  simp only [retD,Option.some.injEq,Prod.mk.injEq] at h
  obtain ⟨rfl,rfl⟩:=h
  obtain ⟨a1,b1⟩:=text_rt.rd _ _ _ e1
  obtain ⟨a2,b2⟩:=(list_rt text_ne text_rt).rd _ _ _ e2
  obtain ⟨a3,b3⟩:=(list_rt num_ne num_rt).rd _ _ _ e3
  obtain ⟨a4,b4⟩:=num_rt.rd _ _ _ e4
  obtain ⟨a5,b5⟩:=bytes_rt.rd _ _ _ e5
  refine ⟨⟨a1,a2,a3,a4,a5⟩,?_⟩
  unfold encF
  rw [b1,b2,b3,b4,b5,bytesB]
  simp only [List.append_assoc]
theorem streq_self (a:ByteArray):streq a a = true:=by simp [streq]
theorem decL {α:Type} [DecidableEq α] (a:α):(!decide (a = a)) = false:=by simp
theorem loopL {body:TL → TEnv → TK → Prop} {asg:List Nat} {L:TL} {ρ:TEnv} (n ki:Nat) (hL:L = []) (hk:leC L [] (ρ ki) (.int .i64 0))
  (h:∀ k:Nat,k ≤ n → (k:Int) ≤ 9223372036854775807 → body [] (putsT [ki] [.int .i64 k] (headE asg ρ)) fun L' ρ' => ∃ x':Nat × Unit,(x'.1 ≤ n ∧ True) ∧ holdsT L' [] [ki] [.int .i64 x'.1] ρ' ∧ gives L' [] [] ∧ n - x'.1 < n - k):LoopT body asg L ρ:=by
 subst hL
 exact loopN n ki [] () (fun _ => []) (fun _ => []) (fun _ _ => True) trivial hk trivial trivial (fun _ => rfl) (fun _ => rfl) fun k _ hkn _ _ _ h64 => h k hkn h64
theorem t13 (a:Ifc):CallsT PZ 13 [.agg (ifC a),.agg (ifC a)] [] (Ret [] (.bool true)):=by
 refine callsT_facts Tryd.func13 facts13 rfl fun hw _ => ?_
 have hu:a.uses.length ≤ 9223372036854775807:=by
  have h:=hw.1
  simp only [Wf,ifC,WfS] at h
  have h2:=wf_len (els:=strs a.uses) ⟨h.2.1.1,h.2.1.2⟩
  rwa [strs_len] at h2
 have hg:a.against.length ≤ 9223372036854775807:=by
  have h:=hw.1
  simp only [Wf,ifC,WfS] at h
  have h2:=wf_len (els:=ics a.against) ⟨h.2.2.1.1,h.2.2.1.2⟩
  rwa [ics_len] at h2
 refine brn_split (fun h => ?_) (fun _ => ?_)
 ·rw [streq_self] at h; cases h
 refine brn_split (fun h => ?_) (fun _ => ?_)
 ·rw [decL] at h; cases h
 refine BytesT.mk ⟨a.body,rfl,?_⟩
 refine BytesT.mk ⟨a.body,rfl,?_⟩
 refine brn_split (fun h => ?_) (fun _ => ?_)
 ·rw [streq_self] at h; cases h
 refine brn_split (fun h => ?_) (fun _ => ?_)
 ·rw [decL] at h; cases h
 refine brn_split (fun h => ?_) (fun _ => ?_)
 ·rw [decL] at h; cases h
 refine loopL a.uses.length 5 rfl (same_keys rfl) fun k hk hk64 => ?_
 refine brn_p (fun hlt => ?_) (fun hge => ?_)
 ·have hlt:k < a.uses.length:=by rw [strs_len] at hlt; omega
  refine withGet hlt fun x hx _ => ?_
  refine idxS hx ?_
  refine idxS hx ?_
  refine brn_split (fun h => ?_) (fun _ => ?_)
  ·rw [streq_self] at h; cases h
  refine Fit.in64 (by omega) (by omega) ?_
  exact ⟨(k + 1,()),⟨by omega,trivial⟩,⟨nextI,trivial⟩,trivial,nextM hlt⟩
 refine loopL a.against.length 6 rfl (same_keys rfl) fun k hk hk64 => ?_
 refine brn_p (fun hlt => ?_) (fun hge => ?_)
 ·have hlt:k < a.against.length:=by rw [ics_len] at hlt; omega
  refine withGet hlt fun x hx _ => ?_
  refine idxI hx ?_
  refine idxI hx ?_
  refine brn_split (fun h => ?_) (fun _ => ?_)
  ·rw [decL] at h; cases h
  refine Fit.in64 (by omega) (by omega) ?_
  exact ⟨(k + 1,()),⟨by omega,trivial⟩,⟨nextI,trivial⟩,trivial,nextM hlt⟩
 exact retP rfl rfl
theorem t8 (a:Ifc):CallsT PZ 8 [.agg (ifC a)] [] (Such True):=by
 refine callsT_facts Tryd.func8 facts8 rfl fun hw _ => ?_
 have hu:a.uses.length ≤ 9223372036854775807:=by
  have h:=hw.1
  simp only [Wf,ifC,WfS] at h
  have h2:=wf_len (els:=strs a.uses) ⟨h.2.1.1,h.2.1.2⟩
  rwa [strs_len] at h2
 refine loopL a.uses.length 3 rfl (same_keys rfl) fun k hk hk64 => ?_
 refine brn_p (fun hlt => ?_) (fun hge => ?_)
 ·have hlt:k < a.uses.length:=by rw [strs_len] at hlt; omega
  refine withGet hlt fun x hx _ => ?_
  refine idxS hx ?_
  refine brn_split (fun _ => ?_) (fun _ => ?_)
  ·exact retB false rfl rfl fun _ => trivial
  refine Fit.in64 (by omega) (by omega) ?_
  exact ⟨(k + 1,()),⟨by omega,trivial⟩,⟨nextI,trivial⟩,trivial,nextM hlt⟩
 refine brn_split (fun _ => ?_) (fun _ => ?_)
 ·refine brn_split (fun _ => ?_) (fun _ => ?_)
  ·refine brn_split (fun _ => ?_) (fun _ => ?_)
   ·exact retB _ rfl rfl fun _ => trivial
   ·exact retB _ rfl rfl fun _ => trivial
  ·exact retB _ rfl rfl fun _ => trivial
 ·exact retB _ rfl rfl fun _ => trivial
def RangedI (l:List Int):Prop:=∀ x ∈ l,-1073741824 ≤ x ∧ x ≤ 2147483647
def fitGo:List Ifc → List ByteArray → List Int → Bool
 | x :: l,u :: us,a :: ns => streq x.module u && (decide (x.digest = a) && fitGo l us ns)
 | _,_,_ => true
def fitsI (i:Ifc) (l:List Ifc):Bool:=validI i && (decide (l.length = i.uses.length) && fitGo l i.uses i.against)
theorem ifL_len {l:List Ifc}:(l.map ifC).length = l.length:=by simp
theorem t17 (i:Ifc) (l:List Ifc):CallsT PZ 17 [.agg (ifC i),.sl (l.map ifC)] [] (Ret [] (.bool (fitsI i l))):=by
 refine callsT_facts Tryd.func17 facts17 rfl fun hw _ => ?_
 have hl:l.length ≤ 9223372036854775807:=by
  have h2:=wf_len hw.2.1
  rwa [ifL_len] at h2
 refine callP (t51 i) rfl fun _ => ?_
 refine brn_split (fun h => ?_) (fun h => ?_)
 ·have h:validI i = false:=by simpa using h
  exact retP rfl (congrArg C.bool (by rw [fitsI,h]; rfl))
 have hv:validI i = true:=by simpa using h
 have e:(!decide (((l.map ifC).length:Int) = ((strs i.uses).length:Int))) = !decide (l.length = i.uses.length):=by
  rw [ifL_len,strs_len]; exact congrArg not (decide_eq_decide.2 Int.ofNat_inj)
 refine brn_split (fun h => ?_) (fun h => ?_)
 ·have h:¬ l.length = i.uses.length:=by have:=e.symm.trans h; simpa using this
  exact retP rfl (congrArg C.bool (by rw [fitsI,hv,decide_eq_false h]; rfl))
 have hlu:l.length = i.uses.length:=by have:=e.symm.trans h; simpa using this
 have hua:i.uses.length = i.against.length:=by
  simp only [validI,decide_eq_true_eq] at hv
  exact hv.1
 have hfit:fitsI i l = fitGo l i.uses i.against:=by rw [fitsI,hv,decide_eq_true hlu]; rfl
 refine loopN l.length 20 [] () (fun _ => []) (fun _ => []) (fun k _ => fitGo (l.drop k) (i.uses.drop k) (i.against.drop k) = fitGo l i.uses i.against) rfl (same_keys rfl) trivial trivial (fun _ => rfl) (fun _ => rfl) fun k _ hkn hinv _ _ h64 => ?_
 refine brn_p (fun hlt => ?_) (fun hge => ?_)
 ·have hlt:k < l.length:=by rw [ifL_len] at hlt; omega
  refine withDrop hlt fun x hx _ hd => ?_
  refine withDrop (show k < i.uses.length by omega) fun u hu _ hdu => ?_
  refine withDrop (show k < i.against.length by omega) fun a ha _ hda => ?_
  rw [hd,hdu,hda] at hinv
  simp only [fitGo] at hinv
  refine idxT hx rfl rfl ?_
  refine idxS hu ?_
  refine brn_split (fun h => ?_) (fun h => ?_)
  ·have h:streq x.module u = false:=by simpa using h
   rw [h] at hinv
   exact retP rfl (congrArg C.bool (by rw [hfit,← hinv]; rfl))
  have h1:streq x.module u = true:=by simpa using h
  refine idxI ha ?_
  refine brn_split (fun h => ?_) (fun h => ?_)
  ·have h:¬ x.digest = a:=by simpa using h
   rw [h1,decide_eq_false h] at hinv
   exact retP rfl (congrArg C.bool (by rw [hfit,← hinv]; rfl))
  have h2:x.digest = a:=by simpa using h
  rw [h1,decide_eq_true h2] at hinv
  refine Fit.in64 (by omega) (by omega) ?_
  exact ⟨(k + 1,()),⟨by omega,hinv⟩,⟨nextI,trivial⟩,trivial,nextM hlt⟩
 ·have hge:¬ k < l.length:=by rw [ifL_len] at hge; omega
  rw [drop_end hge] at hinv
  exact retP rfl (congrArg C.bool (by rw [hfit,← hinv]; rfl))
theorem t14 (a b:List UInt8):CallsT PZ 14 [.sl (bcells a),.sl (bcells b)] [] (Ret [] (.bool (decide (a = b)))):=by
 refine callsT_facts Tryd.func14 facts14 rfl fun hw _ => ?_
 refine BytesT.mk ⟨a,rfl,?_⟩
 refine BytesT.mk ⟨b,rfl,?_⟩
 exact retP rfl (congrArg C.bool (streq_bytes a b))
open Go.Fr.Try Go.Fr.Dm
theorem dig4_len (bs:List UInt8):(dig4 bs).length = 4:=rfl
theorem seal_len (b:List UInt8):(sealB b).length = b.length + 4:=by simp [sealB,dig4_len]
theorem seal_take (b:List UInt8):(sealB b).take ((sealB b).length - 4) = b:=by
 rw [seal_len,Nat.add_sub_cancel]
 simp [sealB]
theorem enc_eq {i:Ifc} (h:validI i = true):encB i = sealB (encF i):=by unfold encB; rw [h]
theorem dec_enc {i:Ifc} (hv:validI i = true) (ho:okI i):decI (encB i) = (i,0):=by
 rw [enc_eq hv]
 have hl:=seal_len (encF i)
 have e:=if_rt.wr i [] ho
 rw [List.append_nil] at e
 exact decI_5 (by omega) (seal_take _) rfl e ⟨rfl,hv⟩
theorem okI_of {i:Ifc} (hv:validI i = true) (hr:RangedI i.against) (h1:i.module.size < 4611686018427387904) (h2:i.uses.length < 4611686018427387904) (h3:∀ s ∈ i.uses,s.size < 4611686018427387904) (h4:i.against.length < 4611686018427387904) (h5:i.body.length < 4611686018427387904):okI i:=by
 unfold validI at hv
 have hv:=of_decide_eq_true hv
 obtain ⟨d0,d1⟩:=dig_bd i.body
 refine ⟨h1,⟨h2,h3⟩,⟨h4,fun n hn => ?_⟩,okN_of (by omega) (by omega),h5⟩
 have:=hr n hn
 exact okN_of (by omega) (by omega)
theorem t9z:CallsT PZ 9 [.agg [.sl [],.sl [],.sl [],.sl [],.sl [],.sl [],.sl [],IC 0],IC 0,.sl []] [] (Ret [] (.tup [.agg (ifC zI),IC 1])):=by
 refine callsT_facts Tryd.func9 facts9 rfl fun hw _ => ?_
 refine ⟨by decide,?_⟩
 exact retP rfl rfl
def exE:List UInt8:=[2,109,0,0,174,191,214,6,2,1]
theorem vint_s {z:Nat} (h:z < 128):vint z = [UInt8.ofNat z]:=by rw [vint,dif_pos h]
theorem vint_l {z:Nat} (h:¬ z < 128):vint z = UInt8.ofNat (128 + z % 128) :: vint (z / 128):=by rw [vint,dif_neg h]
theorem n0:numB 0 = [0]:=vint_s (by decide)
theorem n1:numB 1 = [2]:=vint_s (by decide)
theorem n7:numB 7000023 = [174,191,214,6]:=by
 show vint 14000046 = _
 rw [vint_l (by decide),vint_l (by decide),vint_l (by decide),vint_s (by decide)]
 rfl
theorem exI_enc:encF exI = exE:=by
 unfold encF exI textB listB
 simp only [List.map_nil,List.flatten_nil,List.length_nil,List.length_cons,List.append_nil]
 rw [show (((ByteArray.mk #[109]).size:Nat):Int) = 1 from rfl,show (((0 + 1:Nat)):Int) = 1 from rfl,show ((0:Nat):Int) = 0 from rfl,n0,n1,n7]
 rfl
theorem exI_ok:validI exI = true:=by decide +kernel
def exB:List UInt8:=exE ++ [42,104,50,138]
theorem exB_eq:encB exI = exB:=by
 rw [enc_eq exI_ok,exI_enc]
 decide +kernel
theorem ex_dec:decI exB = (exI,0):=by
 rw [← exB_eq]
 exact dec_enc exI_ok (okI_of exI_ok (fun n hn => by cases hn) (by decide) (by decide) (fun s hs => by cases hs) (by decide) (by decide))
theorem ex_cut:decI (exB.take 13) = (zI,17):=decI_2 (s:=exB.take 9) (by decide) (by decide) (by decide +kernel)
theorem dec_nil:decI [] = (zI,16):=decI_1 (by decide)
def badI:Ifc:={ exI with digest:=1 }
theorem bad_no:validI badI = false:=by decide +kernel
theorem bad_enc:encB badI = []:=by unfold encB; rw [bad_no]
theorem h15a:CallsT PZ 15 [.agg (ifC exI)] [] (Ret [] (.sl (bcells exB))):=exB_eq ▸ t15 exI (by rw [exI_enc]; decide)
theorem len_bad:(encF badI).length ≤ 100:=by
 unfold encF badI exI textB listB
 simp only [List.map_nil,List.flatten_nil,List.length_nil,List.length_cons,List.append_nil]
 rw [show (((ByteArray.mk #[109]).size:Nat):Int) = 1 from rfl,show (((0 + 1:Nat)):Int) = 1 from rfl,show ((0:Nat):Int) = 0 from rfl,n0,n1]
 decide
theorem h15b:CallsT PZ 15 [.agg (ifC badI)] [] (Ret [] (.sl (bcells []))):=bad_enc ▸ t15 badI (by have:=len_bad; omega)
theorem h11a:CallsT PZ 11 [.sl (bcells exB)] [] (Ret [] (.tup [.agg (ifC exI),IC 0])):=by
 have:=t11 exB (by decide)
 rwa [ex_dec] at this
theorem h11b:CallsT PZ 11 [.sl (bcells (exB.take 13))] [] (Ret [] (.tup [.agg (ifC zI),IC 17])):=by
 have:=t11 (exB.take 13) (by decide)
 rwa [ex_cut] at this
theorem h11c:CallsT PZ 11 [.sl (bcells [])] [] (Ret [] (.tup [.agg (ifC zI),IC 16])):=by
 have:=t11 [] (by decide)
 rwa [dec_nil] at this
theorem h17a:CallsT PZ 17 [.agg (ifC exI),.sl ([].map ifC)] [] (Ret [] (.bool true)):=by
 have:=t17 exI []
 rwa [show fitsI exI [] = true by decide +kernel] at this
theorem h17b:CallsT PZ 17 [.agg (ifC exI),.sl ([exI].map ifC)] [] (Ret [] (.bool false)):=by
 have:=t17 exI [exI]
 rwa [show fitsI exI [exI] = false by decide +kernel] at this
theorem h22:CallsT PZ 22 [.sl (bcells (exB.take 10))] [] (Ret [] (IC 711471754)):=by
 have:=t22 (exB.take 10)
 rwa [show dig (exB.take 10) = 711471754 by decide +kernel] at this
set_option maxRecDepth 20000 in
theorem t6:CallsT PZ 6 [] [] (Ret [] (.bool true)):=by
 refine callsT_facts Tryd.func6 facts6 rfl fun hw _ => ?_
 refine callP t21 rfl fun _ => ?_
 refine callP h15a rfl fun _ => ?_
 refine SlcT.mk (by omega) (by omega) (by decide) bcells_sz ?_
 refine callP h22 rfl fun _ => ?_
 refine idxB (bs:=exB) (k:=10) (x:=42) rfl ?_
 refine Fit.to (m:=42) rfl ?_
 refine Fit.to (m:=704643072) rfl ?_
 refine idxB (bs:=exB) (k:=11) (x:=104) rfl ?_
 refine Fit.to (m:=104) rfl ?_
 refine Fit.to (m:=6815744) rfl ?_
 refine Fit.to (m:=711458816) rfl ?_
 refine idxB (bs:=exB) (k:=12) (x:=50) rfl ?_
 refine Fit.to (m:=50) rfl ?_
 refine Fit.to (m:=12800) rfl ?_
 refine Fit.to (m:=711471616) rfl ?_
 refine idxB (bs:=exB) (k:=13) (x:=138) rfl ?_
 refine Fit.to (m:=138) rfl ?_
 refine Fit.to (m:=711471754) rfl ?_
 refine callP h11a rfl fun _ => ?_
 refine SlcT.mk (by omega) (by omega) (by decide) bcells_sz ?_
 refine callP h11b rfl fun _ => ?_
 refine callP h11c rfl fun _ => ?_
 refine callP t9z rfl fun _ => ?_
 refine callP t21 rfl fun _ => ?_
 refine SlcT.mk (by omega) (by omega) (by decide) bcells_sz ?_
 refine BytesT.mk ⟨exB.take 10,rfl,?_⟩
 refine BytesT.mk ⟨exE,rfl,?_⟩
 refine callPD t21 rfl fun _ => ?_
 refine callPD (t13 exI) rfl fun _ => ?_
 refine callP h15b rfl fun _ => ?_
 refine callP t21 rfl fun _ => ?_
 refine callP h17a rfl fun _ => ?_
 refine callP t21 rfl fun _ => ?_
 refine callP t21 rfl fun _ => ?_
 refine callP h17b rfl fun _ => ?_
 exact retP rfl rfl
end Go.Fr.Tryd
