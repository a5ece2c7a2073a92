/- Part of the proofs of the statements of this seat. -/
import Derived.Test.YtidbpicbmklccaaGreatDoorIzW1G
import Derived.Test.YtidbpicbmklccaaGreatDoorFW3
set_option maxRecDepth 10000
set_option linter.unusedVariables false
set_option linter.unusedSimpArgs false
namespace Go.Fr.Tryz
open Go Go.RowKit Go.Proofs Go.Fr Go.Fr.T Go.Fr.Api
def vint (z:Nat):List UInt8:=if h:z < 128 then [UInt8.ofNat z] else UInt8.ofNat (128 + z % 128) :: vint (z / 128)
termination_by z
decreasing_by omega
def zz (n:Int):Nat:=if n < 0 then (-2 * n - 1).toNat else (2 * n).toNat
def numB (n:Int):List UInt8:=vint (zz n)
def numsB (l:List Int):List UInt8:=(l.map numB).flatten
def textB (s:ByteArray):List UInt8:=numB s.size ++ s.data.toList
def textsB (l:List ByteArray):List UInt8:=(l.map textB).flatten
def listB {α:Type} (f:α → List UInt8) (l:List α):List UInt8:=numB l.length ++ (l.map f).flatten
theorem vint_len (z:Nat):1 ≤ (vint z).length:=by
 rw [vint]
 split <;> simp
theorem wrapu_emod (n:Int):IntKind.wrap .u64 n = n % 18446744073709551616:=by
 simp [IntKind.wrap,IntKind.bits,IntKind.signed]
theorem zz_xor {n:Int} (h1:-9223372036854775808 ≤ n) (h2:n ≤ 9223372036854775807) :
  IntKind.wrap .u64 ((BitVec.ofInt 64 ((2 * n) % 18446744073709551616) ^^^ BitVec.ofInt 64 (if n < 0 then 18446744073709551615 else 0)).toNat:Int) = (zz n:Nat):=by
 rw [wrapu_emod]
 unfold zz
 by_cases hn:n < 0
 ·rw [if_pos hn,if_pos hn]
  have e1:BitVec.ofInt 64 18446744073709551615 = BitVec.allOnes 64:=by decide
  obtain ⟨m,hm⟩:∃ m:Nat,(2 * n) % 18446744073709551616 = (m:Int):=⟨((2 * n) % 18446744073709551616).toNat,by omega⟩
  rw [hm,e1,BitVec.ofInt_natCast,BitVec.xor_allOnes,BitVec.toNat_not,BitVec.toNat_ofNat,Nat.mod_eq_of_lt (by omega)]
  omega
 ·rw [if_neg hn,if_neg hn]
  have e1:BitVec.ofInt 64 0 = 0#64:=by decide
  obtain ⟨m,hm⟩:∃ m:Nat,(2 * n) % 18446744073709551616 = (m:Int):=⟨((2 * n) % 18446744073709551616).toNat,by omega⟩
  rw [hm,e1,BitVec.ofInt_natCast,BitVec.xor_zero,BitVec.toNat_ofNat,Nat.mod_eq_of_lt (by omega)]
  omega
theorem and127 (m:Nat) (h:m < 18446744073709551616):IntKind.wrap .u64 ((BitVec.ofInt 64 (m:Int) &&& BitVec.ofInt 64 127).toNat:Int) = ((m % 128:Nat):Int):=by
 have e1:BitVec.ofInt 64 127 = BitVec.ofNat 64 127:=by decide
 rw [wrapu_emod,e1,BitVec.ofInt_natCast,BitVec.toNat_and,BitVec.toNat_ofNat,BitVec.toNat_ofNat,Nat.mod_eq_of_lt h,Nat.mod_eq_of_lt (by decide),show (127:Nat) = 2 ^ 7 - 1 from rfl,Nat.and_two_pow_sub_one_eq_mod]
 omega
theorem or128 (m:Nat) (h:m < 128):IntKind.wrap .u64 ((BitVec.ofInt 64 128 ||| BitVec.ofInt 64 (m:Int)).toNat:Int) = ((128 + m:Nat):Int):=by
 have e1:BitVec.ofInt 64 128 = BitVec.ofNat 64 128:=by decide
 rw [wrapu_emod,e1,BitVec.ofInt_natCast,BitVec.toNat_or,BitVec.toNat_ofNat,BitVec.toNat_ofNat,Nat.mod_eq_of_lt (by decide),Nat.mod_eq_of_lt (by omega)]
 have:(128:Nat) ||| m = 128 + m:=by
  have:=Nat.two_pow_add_eq_or_of_lt (i:=7) (b:=m) (by omega) 1
  simpa using this.symm
 rw [this]
 omega
theorem u8_hi {m:Nat} (h:m < 18446744073709551616):IntKind.wrap .u8 (IntKind.wrap .u64 ((BitVec.ofInt 64 128 ||| BitVec.ofInt 64 (IntKind.wrap .u64 ((BitVec.ofInt 64 (m:Int) &&& BitVec.ofInt 64 127).toNat:Int))).toNat:Int)) = ((UInt8.ofNat (128 + m % 128)).toNat:Int):=by
 rw [and127 m h,or128 _ (Nat.mod_lt _ (by omega)),UInt8.toNat_ofNat']
 simp only [IntKind.wrap,IntKind.bits,IntKind.signed,Bool.false_and,Nat.reducePow,Int.reducePow]
 simp
theorem u8_lo (m:Nat):IntKind.wrap .u8 (m:Int) = ((UInt8.ofNat m).toNat:Int):=by
 rw [UInt8.toNat_ofNat']
 simp only [IntKind.wrap,IntKind.bits,IntKind.signed,Bool.false_and,Nat.reducePow,Int.reducePow]
 simp
structure PC where
 a:List (List C)
 b:List (List C)
 c:List (List C)
 d:List (List C)
 e:List (List C)
 f:List (List C)
 g:List (List C)
 n:Int
def PC.cs (p:PC):List C:=[.sl p.a,.sl p.b,.sl p.c,.sl p.d,.sl p.e,.sl p.f,.sl p.g,IC p.n]
abbrev WP (p:PC) (bs:List UInt8):List TO:=WB 75 p.cs bs
def WPL (p:PC) (bs:List UInt8):TL:=[(1000,.box 75 (.rw 1001 :: IC 0 :: .int .i8 0 :: p.cs)),(1001,.row 5 1 (bcells bs))]
section
theorem wb_gives {p:PC} {L:TL} {s:List UInt8} {r:TL} (h0:L.get 1000 = some (.box 75 (.rw 1001 :: IC 0 :: .int .i8 0 :: p.cs))) (h1:L.get 1001 = some (.row 5 1 (bcells s))) {L1:TL} (hk:keysO L1 (.box 75 (.rw 1001 :: IC 0 :: .int .i8 0 :: p.cs)) = true) (hr:gives L L1 r) :
  gives L L1 ((1000,.box 75 (.rw 1001 :: IC 0 :: .int .i8 0 :: p.cs)) :: (1001,.row 5 1 (bcells s)) :: r) :=
 ⟨.inl ⟨_,h0,.inl ⟨rfl,hk⟩⟩,.inl ⟨_,h1,.inl ⟨rfl,rfl⟩⟩,hr⟩
theorem t65 (p:PC) (bs:List UInt8) (ns:List Int) (hb:bs.length + (numsB ns).length ≤ 70368744177664):CallsT PZ 65 [.own 1000 0,.sl (ics ns)] (WP p bs) (Ret (WP p (bs ++ numsB ns)) (.tup [])):=by
 refine callsT_facts Tryz.func65 facts65 rfl fun hw ho => ?_
 have hln:(ics ns).length = ns.length:=by simp [ics]
 have hnm:ns.length ≤ 9223372036854775807:=by have:=wf_len hw.2.1; rwa [hln] at this
 have hwn:∀ x ∈ ns,-9223372036854775808 ≤ x ∧ x ≤ 9223372036854775807:=fun x hx => by
  have h1:=hw.2.1
  simp only [Wf] at h1
  exact wf_i64 (WfS_iff.1 (WfSS_iff.1 h1.2 [IC x] (List.mem_map.2 ⟨x,hx,rfl⟩)) (IC x) (by simp))
 refine loopN ns.length 9 [] bs (fun _ => []) (fun s => WPL p s) (fun k s => s ++ numsB (ns.drop k) = bs ++ numsB ns) rfl (same_keys rfl) trivial
  (wb_gives rfl rfl rfl trivial) (fun _ => rfl) (fun _ => rfl) ?_
 rintro k s hk hinv _ _ _
 refine brn_p (fun hlt => ?_) (fun hge => ?_)
 ·have hlt:k < ns.length:=by rw [hln] at hlt; omega
  refine withDrop hlt fun x hx hxm hd => ?_
  rw [hd] at hinv
  have hcons:numsB (x :: ns.drop (k + 1)) = numB x ++ numsB (ns.drop (k + 1)):=rfl
  rw [hcons,← List.append_assoc] at hinv
  obtain ⟨hx1,hx2⟩:=hwn x hxm
  have hlen:s.length + (numB x).length ≤ 70368744177664:=by
   have:=congrArg List.length hinv
   simp only [List.length_append] at this
   omega
  refine idxI hx ?_
  refine Fit.to (m:=x % 18446744073709551616) (wrapu_emod x) ?_
  refine ⟨by decide,Fit.to (m:=(2 * x) % 18446744073709551616) (by rw [wrapu_emod]; show (x % 18446744073709551616 * 2) % 18446744073709551616 = _; omega) ?_⟩
  refine ⟨by decide,?_⟩
  refine Fit.to (m:=if x < 0 then 18446744073709551615 else 0) (by
   rw [wrapu_emod]
   show (x.fdiv 9223372036854775808) % 18446744073709551616 = _
   rw [Int.fdiv_eq_ediv_of_nonneg _ (by decide)]
   split <;> omega) ?_
  have hz:=zz_xor hx1 hx2
  have hz64:zz x < 18446744073709551616:=by unfold zz; split <;> omega
  refine LoopT.mk ⟨Nat × List UInt8,(zz x,s),fun y => y.1 < 18446744073709551616 ∧ y.2 ++ vint y.1 = s ++ numB x,[6],fun y => [.int .u64 y.1],fun y => WPL p y.2,fun y => y.1,⟨hz64,rfl⟩,⟨.inr (.inl ⟨congrArg (C.int .u64) hz,rfl⟩),trivial⟩,
   wb_gives rfl rfl rfl trivial,fun _ => rfl,fun _ => rfl,?_⟩
  rintro ⟨m,done⟩ ⟨hm64,hmi⟩ _ _
  simp only at hmi hm64
  have hdl:done.length + (vint m).length ≤ 70368744177664:=by
   have:=congrArg List.length hmi
   simp only [List.length_append] at this
   omega
  have h1:=vint_len m
  refine brn_p (fun hm => ?_) (fun hm => ?_)
  ·have hm:128 ≤ m:=by have:(128:Int) ≤ (m:Int):=hm; omega
   have hde:vint m = UInt8.ofNat (128 + m % 128) :: vint (m / 128):=by rw [vint,dif_neg (by omega)]
   refine Fit.to (u8_hi hm64) ?_
   refine callO [1000,1001] [1000,1001] (t93T 75 p.cs rfl done (UInt8.ofNat (128 + m % 128)) (by omega)) rfl rfl rfl rfl rfl fun _ _ => ?_
   refine ⟨by decide,?_⟩
   refine ⟨(m / 128,done ++ [UInt8.ofNat (128 + m % 128)]),⟨by omega,?_⟩,⟨.inr (.inl ⟨congrArg (C.int .u64) ?_,rfl⟩),trivial⟩,wb_gives rfl rfl rfl trivial,(by show m / 128 < m; omega)⟩
   ·rw [← hmi,hde]; simp
   ·show (m:Int).fdiv 128 = _
    rw [Int.fdiv_eq_ediv_of_nonneg _ (by decide)]
    rfl
  ·have hm:m < 128:=by have:¬ (128:Int) ≤ (m:Int):=hm; omega
   have hde:vint m = [UInt8.ofNat m]:=by rw [vint,dif_pos hm]
   refine Fit.to (u8_lo m) ?_
   refine callO [1000,1001] [1000,1001] (t93T 75 p.cs rfl done (UInt8.ofNat m) (by omega)) rfl rfl rfl rfl rfl fun _ _ => ?_
   refine Fit.in64 (by omega) (by omega) ?_
   refine ⟨(k + 1,done ++ [UInt8.ofNat m]),⟨by omega,?_⟩,⟨nextI,trivial⟩,wb_gives rfl rfl rfl trivial,nextM hlt⟩
   rw [← hinv,← hmi,hde]
 ·have hge:¬ k < ns.length:=by rw [hln] at hge; omega
  rw [drop_end hge] at hinv
  have:s = bs ++ numsB ns:=by rw [← hinv]; simp [numsB]
  subst this
  exact retO [1000,1001] rfl rfl rfl rfl
def WV (p:PC) (bs:List UInt8):List TO:=WP p bs ++ [.box 69 [.own 1000 0]]
def WVL (p:PC) (bs:List UInt8):TL:=[(1000,.box 75 (.rw 1001 :: IC 0 :: .int .i8 0 :: p.cs)),(1001,.row 5 1 (bcells bs)),(1002,.box 69 [.own 1000 0])]
theorem numsB1 (n:Int):numsB [n] = numB n:=by simp [numsB]
theorem t65o (p:PC) (bs:List UInt8) (n:Int) (hb:bs.length + (numB n).length ≤ 70368744177664):CallsT PZ 65 [.own 1000 0,.sl [[IC n]]] (WP p bs) (Ret (WP p (bs ++ numB n)) (.tup [])):=by
 have:=t65 p bs [n] (by rw [numsB1]; exact hb)
 rw [numsB1] at this
 exact this
theorem numB_pos (n:Int):1 ≤ (numB n).length:=vint_len _
theorem idxS {l:List ByteArray} {k:Nat} {x:ByteArray} {K:List C → Prop} (hx:l[k]? = some x) (h:K [.str x]):IdxT (strs l) (k:Int) 1 K:=idxT (f:=fun s => [.str s]) hx rfl rfl h
theorem strs_len {l:List ByteArray}:(strs l).length = l.length:=by simp [strs]
theorem t21 (p:PC) (bs:List UInt8) (l:List ByteArray) (hb:bs.length + (textsB l).length ≤ 70368744177664):CallsT PZ 21 [.own 1000 0,.sl (strs l)] (WP p bs) (Ret (WP p (bs ++ textsB l)) (.tup [])):=by
 refine callsT_facts Tryz.func21 facts21 rfl fun hw ho => ?_
 have hnm:l.length ≤ 9223372036854775807:=by have:=wf_len hw.2.1; rwa [strs_len] at this
 refine loopN l.length 8 [] bs (fun _ => []) (fun s => WPL p s) (fun k s => s ++ textsB (l.drop k) = bs ++ textsB l) rfl (same_keys rfl) trivial
  (wb_gives rfl rfl rfl trivial) (fun _ => rfl) (fun _ => rfl) ?_
 rintro k s hk hinv _ _ _
 refine brn_p (fun hlt => ?_) (fun hge => ?_)
 ·have hlt:k < l.length:=by rw [strs_len] at hlt; omega
  refine withDrop hlt fun x hx hxm hd => ?_
  rw [hd] at hinv
  have hcons:textsB (x :: l.drop (k + 1)) = textB x ++ textsB (l.drop (k + 1)):=rfl
  rw [hcons,← List.append_assoc] at hinv
  have hlen:s.length + ((numB x.size).length + x.data.toList.length) ≤ 70368744177664:=by
   have:=congrArg List.length hinv
   simp only [List.length_append,textB] at this
   omega
  have hpos:=numB_pos x.size
  refine idxS hx ?_
  refine callO [1000,1001] [1000,1001] (t65o p s x.size (by omega)) rfl rfl rfl rfl rfl fun _ _ => ?_
  refine callO [1000,1001] [1000,1001] (t79T 75 p.cs rfl (s ++ numB x.size) x (by rw [List.length_append]; omega) (by rw [List.length_append]; omega)) rfl rfl rfl rfl rfl fun _ _ => ?_
  refine Fit.in64 (by omega) (by omega) ?_
  refine ⟨(k + 1,s ++ textB x),⟨by omega,hinv⟩,⟨nextI,trivial⟩,⟨.inl ⟨_,rfl,.inl ⟨rfl,rfl⟩⟩,.inl ⟨_,rfl,.inl ⟨?_,rfl⟩⟩,trivial⟩,nextM hlt⟩
  exact congrArg (fun q => TO.row 5 1 (bcells q)) (List.append_assoc s _ _)
 ·have hge:¬ k < l.length:=by rw [strs_len] at hge; omega
  rw [drop_end hge] at hinv
  have:s = bs ++ textsB l:=by rw [← hinv]; simp [textsB]
  subst this
  exact retO [1000,1001] rfl rfl rfl rfl
theorem textsB1 (s:ByteArray):textsB [s] = textB s:=by simp [textsB]
theorem t21o (p:PC) (bs:List UInt8) (s:ByteArray) (hb:bs.length + (textB s).length ≤ 70368744177664):CallsT PZ 21 [.own 1000 0,.sl [[.str s]]] (WP p bs) (Ret (WP p (bs ++ textB s)) (.tup [])):=by
 have:=t21 p bs [s] (by rw [textsB1]; exact hb)
 rw [textsB1] at this
 exact this
theorem t62 (p:PC) (bs:List UInt8) (s:ByteArray) (hb:bs.length + (textB s).length ≤ 70368744177664):CallsT PZ 62 [.str s,.own 1002 0] (WV p bs) (Ret (WV p (bs ++ textB s)) (.tup [])):=by
 refine callsT_facts Tryz.func62 facts62 rfl fun hw ho => ?_
 refine callO [1000,1001] [1000,1001] (t21o p bs s hb) rfl rfl rfl rfl rfl fun _ _ => ?_
 exact retO [1000,1001,1002] rfl rfl rfl rfl
theorem t64 (p:PC) (bs:List UInt8) (n:Int) (hb:bs.length + (numB n).length ≤ 70368744177664):CallsT PZ 64 [IC n,.own 1002 0] (WV p bs) (Ret (WV p (bs ++ numB n)) (.tup [])):=by
 refine callsT_facts Tryz.func64 facts64 rfl fun hw ho => ?_
 refine callO [1000,1001] [1000,1001] (t65o p bs n hb) rfl rfl rfl rfl rfl fun _ _ => ?_
 exact retO [1000,1001,1002] rfl rfl rfl rfl
theorem wv_gives {p:PC} {L:TL} {s:List UInt8} (h0:L.get 1000 = some (.box 75 (.rw 1001 :: IC 0 :: .int .i8 0 :: p.cs))) (h1:L.get 1001 = some (.row 5 1 (bcells s))) (h2:L.get 1002 = some (.box 69 [.own 1000 0])):gives L (WVL p s) (WVL p s) :=
 ⟨.inl ⟨_,h0,.inl ⟨rfl,rfl⟩⟩,.inl ⟨_,h1,.inl ⟨rfl,rfl⟩⟩,.inl ⟨_,h2,.inl ⟨rfl,rfl⟩⟩,trivial⟩
theorem t61 (p:PC) (bs:List UInt8) (l:List ByteArray) (hb:bs.length + (listB textB l).length ≤ 70368744177664):CallsT PZ 61 [.own 1000 0,.sl (strs l),.fn 62 [] [.own 1002 0]] (WV p bs) (Ret (WV p (bs ++ listB textB l)) (.tup [])):=by
 refine callsT_facts Tryz.func61 facts61 rfl fun hw ho => ?_
 have hnm:l.length ≤ 9223372036854775807:=by have:=wf_len hw.2.1; rwa [strs_len] at this
 have hbl:(listB textB l).length = (numB l.length).length + (textsB l).length:=by simp [listB,textsB]
 have hlc:C.int .i64 ((strs l).length:Int) = IC l.length:=by rw [strs_len]
 refine callO [1000,1001] [1000,1001] (t65o p bs (strs l).length (by rw [strs_len]; omega)) rfl rfl rfl rfl rfl fun _ _ => ?_
 refine loopN l.length 15 [] (bs ++ numB l.length) (fun _ => []) (fun s => WVL p s) (fun k s => s ++ textsB (l.drop k) = bs ++ listB textB l) (by simp [listB,textsB]) (same_keys rfl) trivial
  (wv_gives rfl (congrArg (fun q => some (TO.row 5 1 (bcells (bs ++ numB q)))) (by rw [strs_len])) rfl) (fun _ => rfl) (fun _ => rfl) ?_
 rintro k s hk hinv _ _ _
 refine brn_p (fun hlt => ?_) (fun hge => ?_)
 ·have hlt:k < l.length:=by rw [strs_len] at hlt; omega
  refine withDrop hlt fun x hx hxm hd => ?_
  rw [hd] at hinv
  have hcons:textsB (x :: l.drop (k + 1)) = textB x ++ textsB (l.drop (k + 1)):=rfl
  rw [hcons,← List.append_assoc] at hinv
  have hlen:s.length + (textB x).length ≤ 70368744177664:=by
   have:=congrArg List.length hinv
   simp only [List.length_append] at this
   omega
  refine idxS hx ?_
  refine callO [1000,1001,1002] [1000,1001,1002] (t62 p s x hlen) rfl rfl rfl rfl rfl fun _ _ => ?_
  refine Fit.in64 (by omega) (by omega) ?_
  exact ⟨(k + 1,s ++ textB x),⟨by omega,hinv⟩,⟨nextI,trivial⟩,wv_gives rfl rfl rfl,nextM hlt⟩
 ·have hge:¬ k < l.length:=by rw [strs_len] at hge; omega
  rw [drop_end hge] at hinv
  have:s = bs ++ listB textB l:=by rw [← hinv]; simp [textsB]
  subst this
  exact retO [1000,1001,1002] rfl rfl rfl rfl
theorem t63 (p:PC) (bs:List UInt8) (l:List Int) (hb:bs.length + (listB numB l).length ≤ 70368744177664):CallsT PZ 63 [.own 1000 0,.sl (ics l),.fn 64 [] [.own 1002 0]] (WV p bs) (Ret (WV p (bs ++ listB numB l)) (.tup [])):=by
 refine callsT_facts Tryz.func63 facts63 rfl fun hw ho => ?_
 have hln:(ics l).length = l.length:=by simp [ics]
 have hnm:l.length ≤ 9223372036854775807:=by have:=wf_len hw.2.1; rwa [hln] at this
 have hbl:(listB numB l).length = (numB l.length).length + (numsB l).length:=by simp [listB,numsB]
 refine callO [1000,1001] [1000,1001] (t65o p bs (ics l).length (by rw [hln]; omega)) rfl rfl rfl rfl rfl fun _ _ => ?_
 refine loopN l.length 15 [] (bs ++ numB l.length) (fun _ => []) (fun s => WVL p s) (fun k s => s ++ numsB (l.drop k) = bs ++ listB numB l) (by simp [listB,numsB]) (same_keys rfl) trivial
  (wv_gives rfl (congrArg (fun q => some (TO.row 5 1 (bcells (bs ++ numB q)))) (by rw [hln])) rfl) (fun _ => rfl) (fun _ => rfl) ?_
 rintro k s hk hinv _ _ _
 refine brn_p (fun hlt => ?_) (fun hge => ?_)
 ·have hlt:k < l.length:=by rw [hln] at hlt; omega
  refine withDrop hlt fun x hx hxm hd => ?_
  rw [hd] at hinv
  have hcons:numsB (x :: l.drop (k + 1)) = numB x ++ numsB (l.drop (k + 1)):=rfl
  rw [hcons,← List.append_assoc] at hinv
  have hlen:s.length + (numB x).length ≤ 70368744177664:=by
   have:=congrArg List.length hinv
   simp only [List.length_append] at this
   omega
  refine idxI hx ?_
  refine callO [1000,1001,1002] [1000,1001,1002] (t64 p s x hlen) rfl rfl rfl rfl rfl fun _ _ => ?_
  refine Fit.in64 (by omega) (by omega) ?_
  exact ⟨(k + 1,s ++ numB x),⟨by omega,hinv⟩,⟨nextI,trivial⟩,wv_gives rfl rfl rfl,nextM hlt⟩
 ·have hge:¬ k < l.length:=by rw [hln] at hge; omega
  rw [drop_end hge] at hinv
  have:s = bs ++ listB numB l:=by rw [← hinv]; simp [numsB]
  subst this
  exact retO [1000,1001,1002] rfl rfl rfl rfl
end
end Go.Fr.Tryz
namespace Go.Fr.Tryz
open Go Go.RowKit Go.Proofs Go.Fr Go.Fr.T Go.Fr.Api Go.Fr.Dm
def pcQ (q:Prog):PC:=⟨scs q.modules,q.uses.map fun l => [.sl (ics l)],q.datas.map dataC,scs q.traits,ics q.homes,q.impls.map implC,q.funcs.map funC,q.main⟩
theorem vint_encN:∀ z:Nat,vint z = encN z
 | z => by
  rw [vint,encN]
  split
  ·rfl
  ·rw [vint_encN (z / 128)]
termination_by z => z
decreasing_by omega
theorem numB_encI (n:Int):numB n = encI n:=vint_encN _
theorem numsB_encIs (l:List Int):numsB l = encIs l:=by
 unfold numsB encIs
 rw [← List.flatMap_def]
 congr 1
 funext n
 exact numB_encI n
theorem textB_encS (s:ByteArray):textB s = encS s:=by unfold textB encS; rw [numB_encI]
theorem textsB_encSs (l:List ByteArray):textsB l = encSs l:=by
 unfold textsB encSs
 rw [← List.flatMap_def]
 congr 1
 funext n
 exact textB_encS n
def WQ (q:Prog) (bs:List UInt8):List TO:=WP (pcQ q) bs
def WQL (q:Prog) (bs:List UInt8):TL:=WPL (pcQ q) bs
def WQC (q:Prog) (bs:List UInt8):List TO:=WV (pcQ q) bs
def WQCL (q:Prog) (bs:List UInt8):TL:=WVL (pcQ q) bs
theorem w65 (q:Prog) (bs:List UInt8) (l:List Int) (hb:(bs ++ encIs l).length ≤ 2 ^ 46):CallsT PZ 65 [.own 1000 0,.sl (ics l)] (WQ q bs) (Ret (WQ q (bs ++ encIs l)) (.tup [])):=by
 rw [← numsB_encIs] at hb ⊢
 exact t65 (pcQ q) bs l (by rw [List.length_append] at hb; omega)
theorem w21 (q:Prog) (bs:List UInt8) (l:List ByteArray) (hb:(bs ++ encSs l).length ≤ 2 ^ 46):CallsT PZ 21 [.own 1000 0,.sl (scs l)] (WQ q bs) (Ret (WQ q (bs ++ encSs l)) (.tup [])):=by
 rw [← textsB_encSs] at hb ⊢
 exact t21 (pcQ q) bs l (by rw [List.length_append] at hb; omega)
theorem w22 (q:Prog) (bs:List UInt8) (l:List Api.Data) (enc:Api.Data → List UInt8) (hc:∀ x ∈ l,∀ s:List UInt8,(s ++ enc x).length ≤ 2 ^ 46 → CallsT PZ 25 [.own 1000 0,.agg (dataC x)] (WQ q s) (Ret (WQ q (s ++ enc x)) (.tup [])))
  (hb:(bs ++ encL enc l).length ≤ 2 ^ 46):CallsT PZ 22 [.own 1000 0,.sl (l.map dataC),.fn 25 [.own 1000 0] []] (WQ q bs) (Ret (WQ q (bs ++ encL enc l)) (.tup [])):=by
 refine callsT_facts Tryz.func22 facts22 rfl fun hw _ => ?_
 have hll:(l.map dataC).length = l.length:=by simp [ics]
 have hn:l.length ≤ 9223372036854775807:=by have:=wf_len hw.2.1; simpa [ics] using this
 refine callO [1000,1001] [1000,1001] (w65 q bs [((l.map dataC).length:Int)] ?_) rfl rfl rfl rfl rfl fun _ _ => ?_
 ·simp only [encL,List.length_append,hll,encIs,List.flatMap_cons,List.flatMap_nil,List.append_nil] at hb ⊢; omega
 refine loopN l.length 15 [] (bs ++ encI l.length) (fun _ => []) (fun s => WQL q s) (fun k s => s ++ (l.drop k).flatMap enc = bs ++ encL enc l) (by simp [encL]) (same_keys rfl) trivial ⟨.inl ⟨_,rfl,.inl ⟨rfl,rfl⟩⟩,.inl ⟨_,rfl,.inl ⟨?_,rfl⟩⟩,trivial⟩ (fun _ => rfl) (fun _ => rfl) ?_
 ·show TO.row 5 1 (bcells (bs ++ encIs [((l.map dataC).length:Int)])) = _
  rw [hll]; simp [encIs]
 rintro k s hk hinv _ _ _
 refine brn_p (fun hlt => ?_) (fun hge => ?_)
 ·have hlt:k < l.length:=by rw [hll] at hlt; omega
  refine withDrop hlt fun x hx hxm hd => ?_
  rw [hd,List.flatMap_cons] at hinv
  have hsz:(s ++ enc x).length ≤ 2 ^ 46:=by
   rw [← hinv] at hb
   simp only [List.length_append] at hb ⊢
   omega
  refine idxT hx rfl rfl ?_
  refine callO [1000,1001] [1000,1001] (hc x hxm s hsz) rfl rfl rfl rfl rfl fun _ _ => ?_
  refine Fit.in64 (by omega) (by omega) ?_
  exact ⟨(k + 1,s ++ enc x),⟨hlt,by rw [← hinv]; simp⟩,⟨nextI,trivial⟩,⟨.inl ⟨_,rfl,.inl ⟨rfl,rfl⟩⟩,.inl ⟨_,rfl,.inl ⟨rfl,rfl⟩⟩,trivial⟩,nextM hlt⟩
 ·have hge:¬ k < l.length:=by rw [hll] at hge; omega
  rw [drop_end hge] at hinv
  refine retO [1000,1001] rfl rfl ?_ rfl
  simp only [List.flatMap_nil,List.append_nil] at hinv
  subst hinv
  rfl
theorem w26 (q:Prog) (bs:List UInt8) (l:List Impl) (enc:Impl → List UInt8) (hc:∀ x ∈ l,∀ s:List UInt8,(s ++ enc x).length ≤ 2 ^ 46 → CallsT PZ 29 [.own 1000 0,.agg (implC x)] (WQ q s) (Ret (WQ q (s ++ enc x)) (.tup [])))
  (hb:(bs ++ encL enc l).length ≤ 2 ^ 46):CallsT PZ 26 [.own 1000 0,.sl (l.map implC),.fn 29 [.own 1000 0] []] (WQ q bs) (Ret (WQ q (bs ++ encL enc l)) (.tup [])):=by
 refine callsT_facts Tryz.func26 facts26 rfl fun hw _ => ?_
 have hll:(l.map implC).length = l.length:=by simp [ics]
 have hn:l.length ≤ 9223372036854775807:=by have:=wf_len hw.2.1; simpa [ics] using this
 refine callO [1000,1001] [1000,1001] (w65 q bs [((l.map implC).length:Int)] ?_) rfl rfl rfl rfl rfl fun _ _ => ?_
 ·simp only [encL,List.length_append,hll,encIs,List.flatMap_cons,List.flatMap_nil,List.append_nil] at hb ⊢; omega
 refine loopN l.length 15 [] (bs ++ encI l.length) (fun _ => []) (fun s => WQL q s) (fun k s => s ++ (l.drop k).flatMap enc = bs ++ encL enc l) (by simp [encL]) (same_keys rfl) trivial ⟨.inl ⟨_,rfl,.inl ⟨rfl,rfl⟩⟩,.inl ⟨_,rfl,.inl ⟨?_,rfl⟩⟩,trivial⟩ (fun _ => rfl) (fun _ => rfl) ?_
 ·show TO.row 5 1 (bcells (bs ++ encIs [((l.map implC).length:Int)])) = _
  rw [hll]; simp [encIs]
 rintro k s hk hinv _ _ _
 refine brn_p (fun hlt => ?_) (fun hge => ?_)
 ·have hlt:k < l.length:=by rw [hll] at hlt; omega
  refine withDrop hlt fun x hx hxm hd => ?_
  rw [hd,List.flatMap_cons] at hinv
  have hsz:(s ++ enc x).length ≤ 2 ^ 46:=by
   rw [← hinv] at hb
   simp only [List.length_append] at hb ⊢
   omega
  refine idxT hx rfl rfl ?_
  refine callO [1000,1001] [1000,1001] (hc x hxm s hsz) rfl rfl rfl rfl rfl fun _ _ => ?_
  refine Fit.in64 (by omega) (by omega) ?_
  exact ⟨(k + 1,s ++ enc x),⟨hlt,by rw [← hinv]; simp⟩,⟨nextI,trivial⟩,⟨.inl ⟨_,rfl,.inl ⟨rfl,rfl⟩⟩,.inl ⟨_,rfl,.inl ⟨rfl,rfl⟩⟩,trivial⟩,nextM hlt⟩
 ·have hge:¬ k < l.length:=by rw [hll] at hge; omega
  rw [drop_end hge] at hinv
  refine retO [1000,1001] rfl rfl ?_ rfl
  simp only [List.flatMap_nil,List.append_nil] at hinv
  subst hinv
  rfl
theorem w30 (q:Prog) (bs:List UInt8) (l:List Fun) (enc:Fun → List UInt8) (hc:∀ x ∈ l,∀ s:List UInt8,(s ++ enc x).length ≤ 2 ^ 46 → CallsT PZ 33 [.own 1000 0,.agg (funC x)] (WQ q s) (Ret (WQ q (s ++ enc x)) (.tup [])))
  (hb:(bs ++ encL enc l).length ≤ 2 ^ 46):CallsT PZ 30 [.own 1000 0,.sl (l.map funC),.fn 33 [.own 1000 0] []] (WQ q bs) (Ret (WQ q (bs ++ encL enc l)) (.tup [])):=by
 refine callsT_facts Tryz.func30 facts30 rfl fun hw _ => ?_
 have hll:(l.map funC).length = l.length:=by simp [ics]
 have hn:l.length ≤ 9223372036854775807:=by have:=wf_len hw.2.1; simpa [ics] using this
 refine callO [1000,1001] [1000,1001] (w65 q bs [((l.map funC).length:Int)] ?_) rfl rfl rfl rfl rfl fun _ _ => ?_
 ·simp only [encL,List.length_append,hll,encIs,List.flatMap_cons,List.flatMap_nil,List.append_nil] at hb ⊢; omega
 refine loopN l.length 15 [] (bs ++ encI l.length) (fun _ => []) (fun s => WQL q s) (fun k s => s ++ (l.drop k).flatMap enc = bs ++ encL enc l) (by simp [encL]) (same_keys rfl) trivial ⟨.inl ⟨_,rfl,.inl ⟨rfl,rfl⟩⟩,.inl ⟨_,rfl,.inl ⟨?_,rfl⟩⟩,trivial⟩ (fun _ => rfl) (fun _ => rfl) ?_
 ·show TO.row 5 1 (bcells (bs ++ encIs [((l.map funC).length:Int)])) = _
  rw [hll]; simp [encIs]
 rintro k s hk hinv _ _ _
 refine brn_p (fun hlt => ?_) (fun hge => ?_)
 ·have hlt:k < l.length:=by rw [hll] at hlt; omega
  refine withDrop hlt fun x hx hxm hd => ?_
  rw [hd,List.flatMap_cons] at hinv
  have hsz:(s ++ enc x).length ≤ 2 ^ 46:=by
   rw [← hinv] at hb
   simp only [List.length_append] at hb ⊢
   omega
  refine idxT hx rfl rfl ?_
  refine callO [1000,1001] [1000,1001] (hc x hxm s hsz) rfl rfl rfl rfl rfl fun _ _ => ?_
  refine Fit.in64 (by omega) (by omega) ?_
  exact ⟨(k + 1,s ++ enc x),⟨hlt,by rw [← hinv]; simp⟩,⟨nextI,trivial⟩,⟨.inl ⟨_,rfl,.inl ⟨rfl,rfl⟩⟩,.inl ⟨_,rfl,.inl ⟨rfl,rfl⟩⟩,trivial⟩,nextM hlt⟩
 ·have hge:¬ k < l.length:=by rw [hll] at hge; omega
  rw [drop_end hge] at hinv
  refine retO [1000,1001] rfl rfl ?_ rfl
  simp only [List.flatMap_nil,List.append_nil] at hinv
  subst hinv
  rfl
theorem w80 (q:Prog) (bs:List UInt8) (l:List Variant) (enc:Variant → List UInt8) (hc:∀ x ∈ l,∀ s:List UInt8,(s ++ enc x).length ≤ 2 ^ 46 → CallsT PZ 81 [.agg (variantC x),.own 1002 0] (WQC q s) (Ret (WQC q (s ++ enc x)) (.tup [])))
  (hb:(bs ++ encL enc l).length ≤ 2 ^ 46):CallsT PZ 80 [.own 1000 0,.sl (l.map variantC),.fn 81 [] [.own 1002 0]] (WQC q bs) (Ret (WQC q (bs ++ encL enc l)) (.tup [])):=by
 refine callsT_facts Tryz.func80 facts80 rfl fun hw _ => ?_
 have hll:(l.map variantC).length = l.length:=by simp [ics]
 have hn:l.length ≤ 9223372036854775807:=by have:=wf_len hw.2.1; simpa [ics] using this
 refine callO [1000,1001] [1000,1001] (w65 q bs [((l.map variantC).length:Int)] ?_) rfl rfl rfl rfl rfl fun _ _ => ?_
 ·simp only [encL,List.length_append,hll,encIs,List.flatMap_cons,List.flatMap_nil,List.append_nil] at hb ⊢; omega
 refine loopN l.length 15 [] (bs ++ encI l.length) (fun _ => []) (fun s => WQCL q s) (fun k s => s ++ (l.drop k).flatMap enc = bs ++ encL enc l) (by simp [encL]) (same_keys rfl) trivial ⟨.inl ⟨_,rfl,.inl ⟨rfl,rfl⟩⟩,.inl ⟨_,rfl,.inl ⟨?_,rfl⟩⟩,.inl ⟨_,rfl,.inl ⟨rfl,rfl⟩⟩,trivial⟩ (fun _ => rfl) (fun _ => rfl) ?_
 ·show TO.row 5 1 (bcells (bs ++ encIs [((l.map variantC).length:Int)])) = _
  rw [hll]; simp [encIs]
 rintro k s hk hinv _ _ _
 refine brn_p (fun hlt => ?_) (fun hge => ?_)
 ·have hlt:k < l.length:=by rw [hll] at hlt; omega
  refine withDrop hlt fun x hx hxm hd => ?_
  rw [hd,List.flatMap_cons] at hinv
  have hsz:(s ++ enc x).length ≤ 2 ^ 46:=by
   rw [← hinv] at hb
   simp only [List.length_append] at hb ⊢
   omega
  refine idxT hx rfl rfl ?_
  refine callO [1000,1001,1002] [1000,1001,1002] (hc x hxm s hsz) rfl rfl rfl rfl rfl fun _ _ => ?_
  refine Fit.in64 (by omega) (by omega) ?_
  exact ⟨(k + 1,s ++ enc x),⟨hlt,by rw [← hinv]; simp⟩,⟨nextI,trivial⟩,⟨.inl ⟨_,rfl,.inl ⟨rfl,rfl⟩⟩,.inl ⟨_,rfl,.inl ⟨rfl,rfl⟩⟩,.inl ⟨_,rfl,.inl ⟨rfl,rfl⟩⟩,trivial⟩,nextM hlt⟩
 ·have hge:¬ k < l.length:=by rw [hll] at hge; omega
  rw [drop_end hge] at hinv
  refine retO [1000,1001,1002] rfl rfl ?_ rfl
  simp only [List.flatMap_nil,List.append_nil] at hinv
  subst hinv
  rfl
theorem w82 (q:Prog) (bs:List UInt8) (l:List Ty) (enc:Ty → List UInt8) (hc:∀ x ∈ l,∀ s:List UInt8,(s ++ enc x).length ≤ 2 ^ 46 → CallsT PZ 83 [.own 1000 0,.agg (tyC x)] (WQ q s) (Ret (WQ q (s ++ enc x)) (.tup [])))
  (hb:(bs ++ encL enc l).length ≤ 2 ^ 46):CallsT PZ 82 [.own 1000 0,.sl (l.map tyC),.fn 83 [.own 1000 0] []] (WQ q bs) (Ret (WQ q (bs ++ encL enc l)) (.tup [])):=by
 refine callsT_facts Tryz.func82 facts82 rfl fun hw _ => ?_
 have hll:(l.map tyC).length = l.length:=by simp [ics]
 have hn:l.length ≤ 9223372036854775807:=by have:=wf_len hw.2.1; simpa [ics] using this
 refine callO [1000,1001] [1000,1001] (w65 q bs [((l.map tyC).length:Int)] ?_) rfl rfl rfl rfl rfl fun _ _ => ?_
 ·simp only [encL,List.length_append,hll,encIs,List.flatMap_cons,List.flatMap_nil,List.append_nil] at hb ⊢; omega
 refine loopN l.length 15 [] (bs ++ encI l.length) (fun _ => []) (fun s => WQL q s) (fun k s => s ++ (l.drop k).flatMap enc = bs ++ encL enc l) (by simp [encL]) (same_keys rfl) trivial ⟨.inl ⟨_,rfl,.inl ⟨rfl,rfl⟩⟩,.inl ⟨_,rfl,.inl ⟨?_,rfl⟩⟩,trivial⟩ (fun _ => rfl) (fun _ => rfl) ?_
 ·show TO.row 5 1 (bcells (bs ++ encIs [((l.map tyC).length:Int)])) = _
  rw [hll]; simp [encIs]
 rintro k s hk hinv _ _ _
 refine brn_p (fun hlt => ?_) (fun hge => ?_)
 ·have hlt:k < l.length:=by rw [hll] at hlt; omega
  refine withDrop hlt fun x hx hxm hd => ?_
  rw [hd,List.flatMap_cons] at hinv
  have hsz:(s ++ enc x).length ≤ 2 ^ 46:=by
   rw [← hinv] at hb
   simp only [List.length_append] at hb ⊢
   omega
  refine idxTy hx ?_
  refine callO [1000,1001] [1000,1001] (hc x hxm s hsz) rfl rfl ?_ rfl rfl fun _ _ => ?_
  ·simp only [tyC_eq]; rfl
  refine Fit.in64 (by omega) (by omega) ?_
  exact ⟨(k + 1,s ++ enc x),⟨hlt,by rw [← hinv]; simp⟩,⟨nextI,trivial⟩,⟨.inl ⟨_,rfl,.inl ⟨rfl,rfl⟩⟩,.inl ⟨_,rfl,.inl ⟨rfl,rfl⟩⟩,trivial⟩,nextM hlt⟩
 ·have hge:¬ k < l.length:=by rw [hll] at hge; omega
  rw [drop_end hge] at hinv
  refine retO [1000,1001] rfl rfl ?_ rfl
  simp only [List.flatMap_nil,List.append_nil] at hinv
  subst hinv
  rfl
theorem w85 (q:Prog) (bs:List UInt8) (l:List Bound) (enc:Bound → List UInt8) (hc:∀ x ∈ l,∀ s:List UInt8,(s ++ enc x).length ≤ 2 ^ 46 → CallsT PZ 86 [.own 1000 0,.agg (boundC x)] (WQ q s) (Ret (WQ q (s ++ enc x)) (.tup [])))
  (hb:(bs ++ encL enc l).length ≤ 2 ^ 46):CallsT PZ 85 [.own 1000 0,.sl (l.map boundC),.fn 86 [.own 1000 0] []] (WQ q bs) (Ret (WQ q (bs ++ encL enc l)) (.tup [])):=by
 refine callsT_facts Tryz.func85 facts85 rfl fun hw _ => ?_
 have hll:(l.map boundC).length = l.length:=by simp [ics]
 have hn:l.length ≤ 9223372036854775807:=by have:=wf_len hw.2.1; simpa [ics] using this
 refine callO [1000,1001] [1000,1001] (w65 q bs [((l.map boundC).length:Int)] ?_) rfl rfl rfl rfl rfl fun _ _ => ?_
 ·simp only [encL,List.length_append,hll,encIs,List.flatMap_cons,List.flatMap_nil,List.append_nil] at hb ⊢; omega
 refine loopN l.length 15 [] (bs ++ encI l.length) (fun _ => []) (fun s => WQL q s) (fun k s => s ++ (l.drop k).flatMap enc = bs ++ encL enc l) (by simp [encL]) (same_keys rfl) trivial ⟨.inl ⟨_,rfl,.inl ⟨rfl,rfl⟩⟩,.inl ⟨_,rfl,.inl ⟨?_,rfl⟩⟩,trivial⟩ (fun _ => rfl) (fun _ => rfl) ?_
 ·show TO.row 5 1 (bcells (bs ++ encIs [((l.map boundC).length:Int)])) = _
  rw [hll]; simp [encIs]
 rintro k s hk hinv _ _ _
 refine brn_p (fun hlt => ?_) (fun hge => ?_)
 ·have hlt:k < l.length:=by rw [hll] at hlt; omega
  refine withDrop hlt fun x hx hxm hd => ?_
  rw [hd,List.flatMap_cons] at hinv
  have hsz:(s ++ enc x).length ≤ 2 ^ 46:=by
   rw [← hinv] at hb
   simp only [List.length_append] at hb ⊢
   omega
  refine idxT hx rfl rfl ?_
  refine callO [1000,1001] [1000,1001] (hc x hxm s hsz) rfl rfl rfl rfl rfl fun _ _ => ?_
  refine Fit.in64 (by omega) (by omega) ?_
  exact ⟨(k + 1,s ++ enc x),⟨hlt,by rw [← hinv]; simp⟩,⟨nextI,trivial⟩,⟨.inl ⟨_,rfl,.inl ⟨rfl,rfl⟩⟩,.inl ⟨_,rfl,.inl ⟨rfl,rfl⟩⟩,trivial⟩,nextM hlt⟩
 ·have hge:¬ k < l.length:=by rw [hll] at hge; omega
  rw [drop_end hge] at hinv
  refine retO [1000,1001] rfl rfl ?_ rfl
  simp only [List.flatMap_nil,List.append_nil] at hinv
  subst hinv
  rfl
theorem w63 (q:Prog) (bs:List UInt8) (l:List Int) (enc:Int → List UInt8) (hc:∀ x ∈ l,∀ s:List UInt8,(s ++ enc x).length ≤ 2 ^ 46 → CallsT PZ 88 [IC x,.own 1002 0] (WQC q s) (Ret (WQC q (s ++ enc x)) (.tup [])))
  (hb:(bs ++ encL enc l).length ≤ 2 ^ 46):CallsT PZ 63 [.own 1000 0,.sl (ics l),.fn 88 [] [.own 1002 0]] (WQC q bs) (Ret (WQC q (bs ++ encL enc l)) (.tup [])):=by
 refine callsT_facts Tryz.func63 facts63 rfl fun hw _ => ?_
 have hll:(ics l).length = l.length:=by simp [ics]
 have hn:l.length ≤ 9223372036854775807:=by have:=wf_len hw.2.1; simpa [ics] using this
 refine callO [1000,1001] [1000,1001] (w65 q bs [((ics l).length:Int)] ?_) rfl rfl rfl rfl rfl fun _ _ => ?_
 ·simp only [encL,List.length_append,hll,encIs,List.flatMap_cons,List.flatMap_nil,List.append_nil] at hb ⊢; omega
 refine loopN l.length 15 [] (bs ++ encI l.length) (fun _ => []) (fun s => WQCL q s) (fun k s => s ++ (l.drop k).flatMap enc = bs ++ encL enc l) (by simp [encL]) (same_keys rfl) trivial ⟨.inl ⟨_,rfl,.inl ⟨rfl,rfl⟩⟩,.inl ⟨_,rfl,.inl ⟨?_,rfl⟩⟩,.inl ⟨_,rfl,.inl ⟨rfl,rfl⟩⟩,trivial⟩ (fun _ => rfl) (fun _ => rfl) ?_
 ·show TO.row 5 1 (bcells (bs ++ encIs [((ics l).length:Int)])) = _
  rw [hll]; simp [encIs]
 rintro k s hk hinv _ _ _
 refine brn_p (fun hlt => ?_) (fun hge => ?_)
 ·have hlt:k < l.length:=by rw [hll] at hlt; omega
  refine withDrop hlt fun x hx hxm hd => ?_
  rw [hd,List.flatMap_cons] at hinv
  have hsz:(s ++ enc x).length ≤ 2 ^ 46:=by
   rw [← hinv] at hb
   simp only [List.length_append] at hb ⊢
   omega
  refine idxI hx ?_
  refine callO [1000,1001,1002] [1000,1001,1002] (hc x hxm s hsz) rfl rfl rfl rfl rfl fun _ _ => ?_
  refine Fit.in64 (by omega) (by omega) ?_
  exact ⟨(k + 1,s ++ enc x),⟨hlt,by rw [← hinv]; simp⟩,⟨nextI,trivial⟩,⟨.inl ⟨_,rfl,.inl ⟨rfl,rfl⟩⟩,.inl ⟨_,rfl,.inl ⟨rfl,rfl⟩⟩,.inl ⟨_,rfl,.inl ⟨rfl,rfl⟩⟩,trivial⟩,nextM hlt⟩
 ·have hge:¬ k < l.length:=by rw [hll] at hge; omega
  rw [drop_end hge] at hinv
  refine retO [1000,1001,1002] rfl rfl ?_ rfl
  simp only [List.flatMap_nil,List.append_nil] at hinv
  subst hinv
  rfl
theorem t84 (l:List ByteArray) (i:Int):CallsT PZ 84 [.sl (scs l),IC i] [] (Ret [] (.str (nm l i))):=by
 have hl:(scs l).length = l.length:=by simp [scs]
 refine callsT_facts Tryz.func84 facts84 rfl fun hw _ => ?_
 cases he:elem l i with
 | none =>
  have hn:nm l i = ⟨#[]⟩:=by simp [nm,he]
  rw [hn]
  have h:=elem_none he
  refine brn_p (fun h0 => ?_) (fun h0 => ?_)
  ·refine brn_p (fun h1 => ?_) (fun h1 => ?_)
   ·exfalso; rw [hl] at h1; omega
   ·exact retP rfl rfl
  ·exact retP rfl rfl
 | some s =>
  have hn:nm l i = s:=by simp [nm,he]
  rw [hn]
  obtain ⟨h0,h1,h2⟩:=elem_some he
  refine brn_p (fun _ => ?_) (fun h => absurd (by omega) h)
  refine brn_p (fun _ => ?_) (fun h => absurd (by rw [hl]; omega) h)
  refine idxE (f:=fun s => [C.str s]) h0 h2 rfl rfl ?_
  exact retP rfl rfl
theorem t87 (l:List Fun) (i:Int):CallsT PZ 87 [.sl (l.map funC),IC i] [] (Ret [] (.agg (funC ((elem l i).getD zeroF)))):=by
 have hl:(l.map funC).length = l.length:=by simp
 refine callsT_facts Tryz.func87 facts87 rfl fun hw _ => ?_
 cases he:elem l i with
 | none =>
  have h:=elem_none he
  refine brn_p (fun h0 => ?_) (fun h0 => ?_)
  ·refine brn_p (fun h1 => ?_) (fun h1 => ?_)
   ·exfalso; rw [hl] at h1; omega
   ·exact retP rfl rfl
  ·exact retP rfl rfl
 | some s =>
  obtain ⟨h0,h1,h2⟩:=elem_some he
  refine brn_p (fun _ => ?_) (fun h => absurd (by omega) h)
  refine brn_p (fun _ => ?_) (fun h => absurd (by rw [hl]; omega) h)
  refine idxE (f:=funC) h0 h2 rfl rfl ?_
  exact retP rfl rfl
theorem w83 (q:Prog):∀ (t:Ty) (bs:List UInt8) (hb:(bs ++ encTy (some q) t).length ≤ 2 ^ 46),CallsT PZ 83 [.own 1000 0,.agg (tyC t)] (WQ q bs) (Ret (WQ q (bs ++ encTy (some q) t)) (.tup []))
 | .mk k i l,bs,hb => by
  have ih:∀ x ∈ l,∀ s:List UInt8,(s ++ encTy (some q) x).length ≤ 2 ^ 46 → CallsT PZ 83 [.own 1000 0,.agg (tyC x)] (WQ q s) (Ret (WQ q (s ++ encTy (some q) x)) (.tup [])):=fun x hx s hs => w83 q x s hs
  rw [tyC_eq]
  simp only [Ty.kind,Ty.id,Ty.args]
  have hdl:(pcQ q).c.length = q.datas.length:=by simp [pcQ]
  cases hn:encName (some q) k i with
  | none =>
   have e:bs ++ encTy (some q) (.mk k i l) = bs ++ encIs [k] ++ encIs [i] ++ encL (encTy (some q)) l:=by rw [encTy_eq]; simp [encIs,Ty.kind,Ty.id,Ty.args,hn]
   rw [e] at hb ⊢
   have hno:¬ (k = 2 ∧ 0 ≤ i ∧ i < q.datas.length):=by
    rintro ⟨hk,h0,h1⟩
    simp only [encName,hk,if_true] at hn
    cases he:elem q.datas i with
    | none => have:=elem_none he; omega
    | some d => rw [he] at hn; cases hn
   generalize encTy (some q) = E at ih hb ⊢
   refine callsT_facts Tryz.func83 facts83 rfl fun hw _ => ?_
   refine callO [1000,1001] [1000,1001] (w65 q bs [k] (by simp only [List.length_append] at hb ⊢; omega)) rfl rfl rfl rfl rfl fun _ _ => ?_
   refine brn_p (fun hk => ?_) (fun hk => ?_)
   ·refine brn_p (fun h0 => ?_) (fun h0 => ?_)
    ·refine brn_p (fun h1 => ?_) (fun h1 => ?_)
     ·exact absurd ⟨hk,h0,by rw [hdl] at h1; exact h1⟩ hno
     ·refine callO [1000,1001] [1000,1001] (w65 q (bs ++ encIs [k]) [i] (by simp only [List.length_append] at hb ⊢; omega)) rfl rfl rfl rfl rfl fun _ _ => ?_
      refine callO [1000,1001] [1000,1001] (w82 q (bs ++ encIs [k] ++ encIs [i]) l E ih hb) rfl rfl rfl rfl rfl fun _ _ => ?_
      exact retO [1000,1001] rfl rfl rfl rfl
    ·refine callO [1000,1001] [1000,1001] (w65 q (bs ++ encIs [k]) [i] (by simp only [List.length_append] at hb ⊢; omega)) rfl rfl rfl rfl rfl fun _ _ => ?_
     refine callO [1000,1001] [1000,1001] (w82 q (bs ++ encIs [k] ++ encIs [i]) l E ih hb) rfl rfl rfl rfl rfl fun _ _ => ?_
     exact retO [1000,1001] rfl rfl rfl rfl
   ·refine callO [1000,1001] [1000,1001] (w65 q (bs ++ encIs [k]) [i] (by simp only [List.length_append] at hb ⊢; omega)) rfl rfl rfl rfl rfl fun _ _ => ?_
    refine callO [1000,1001] [1000,1001] (w82 q (bs ++ encIs [k] ++ encIs [i]) l E ih hb) rfl rfl rfl rfl rfl fun _ _ => ?_
    exact retO [1000,1001] rfl rfl rfl rfl
  | some b =>
   have e:bs ++ encTy (some q) (.mk k i l) = bs ++ encIs [k] ++ b ++ encL (encTy (some q)) l:=by rw [encTy_eq]; simp [encIs,Ty.kind,Ty.id,Ty.args,hn]
   rw [e] at hb ⊢
   have hyes:k = 2 ∧ ∃ d,elem q.datas i = some d ∧ b = encSs [nm q.modules d.module,d.name]:=by
    by_cases hk:k = 2
    ·refine ⟨hk,?_⟩
     simp only [encName,hk,if_true] at hn
     cases he:elem q.datas i with
     | none => rw [he] at hn; cases hn
     | some d => rw [he] at hn; injection hn with hn; exact ⟨d,rfl,hn.symm⟩
    ·simp [encName,hk] at hn
   obtain ⟨hk2,d,hd,hbq⟩:=hyes
   obtain ⟨h0,h1,h2⟩:=elem_some hd
   subst hbq
   generalize encTy (some q) = E at ih hb ⊢
   refine callsT_facts Tryz.func83 facts83 rfl fun hw _ => ?_
   refine callO [1000,1001] [1000,1001] (w65 q bs [k] (by simp only [List.length_append] at hb ⊢; omega)) rfl rfl rfl rfl rfl fun _ _ => ?_
   refine brn_p (fun _ => ?_) (fun h => absurd hk2 h)
   refine brn_p (fun _ => ?_) (fun h => absurd (by omega) h)
   refine brn_p (fun _ => ?_) (fun h => absurd (by rw [hdl]; omega) h)
   refine idxE (f:=dataC) h0 h2 rfl rfl ?_
   refine callPD (t84 q.modules d.module) rfl fun _ => ?_
   refine callOD [1000,1001] [1000,1001] (w21 q (bs ++ encIs [k]) [nm q.modules d.module,d.name] (by simp only [List.length_append] at hb ⊢; omega)) rfl rfl rfl rfl rfl fun _ _ => ?_
   refine callO [1000,1001] [1000,1001] (w82 q (bs ++ encIs [k] ++ encSs [nm q.modules d.module,d.name]) l E ih hb) rfl rfl rfl rfl rfl fun _ _ => ?_
   exact retO [1000,1001] rfl rfl rfl rfl
termination_by t => SizeOf.sizeOf t
decreasing_by
 have:=List.sizeOf_lt_of_mem hx
 simp only [Ty.mk.sizeOf_spec]
 omega
theorem w86 (q:Prog) (b:Bound) (bs:List UInt8) (hb:(bs ++ encBound (some q) b).length ≤ 2 ^ 46):CallsT PZ 86 [.own 1000 0,.agg (boundC b)] (WQ q bs) (Ret (WQ q (bs ++ encBound (some q) b)) (.tup [])):=by
 have e:bs ++ encBound (some q) b = bs ++ encIs [b.param] ++ encSs [nm q.traits b.trait]:=by simp [encBound,encTrait]
 rw [e] at hb ⊢
 refine callsT_facts Tryz.func86 facts86 rfl fun hw _ => ?_
 refine callO [1000,1001] [1000,1001] (w65 q bs [b.param] (by simp only [List.length_append] at hb ⊢; omega)) rfl rfl rfl rfl rfl fun _ _ => ?_
 refine callPD (t84 q.traits b.trait) rfl fun _ => ?_
 refine callOD [1000,1001] [1000,1001] (w21 q _ [nm q.traits b.trait] hb) rfl rfl rfl rfl rfl fun _ _ => ?_
 exact retO [1000,1001] rfl rfl rfl rfl
theorem w85b (q:Prog) (bs:List UInt8) (l:List Bound) (hb:(bs ++ encL (encBound (some q)) l).length ≤ 2 ^ 46):CallsT PZ 85 [.own 1000 0,.sl (l.map boundC),.fn 86 [.own 1000 0] []] (WQ q bs) (Ret (WQ q (bs ++ encL (encBound (some q)) l)) (.tup [])) :=
 w85 q bs l (encBound (some q)) (fun x _ s hs => w86 q x s hs) hb
theorem w82t (q:Prog) (bs:List UInt8) (l:List Ty) (hb:(bs ++ encL (encTy (some q)) l).length ≤ 2 ^ 46):CallsT PZ 82 [.own 1000 0,.sl (l.map tyC),.fn 83 [.own 1000 0] []] (WQ q bs) (Ret (WQ q (bs ++ encL (encTy (some q)) l)) (.tup [])) :=
 w82 q bs l (encTy (some q)) (fun x _ s hs => w83 q x s hs) hb
theorem w29 (q:Prog) (x:Impl) (bs:List UInt8) (hb:(bs ++ encImpl q x).length ≤ 2 ^ 46):CallsT PZ 29 [.own 1000 0,.agg (implC x)] (WQ q bs) (Ret (WQ q (bs ++ encImpl q x)) (.tup [])):=by
 have e:bs ++ encImpl q x = bs ++ encSs [nm q.traits x.trait] ++ encIs [x.params] ++ encL (encBound (some q)) x.bounds ++ encTy (some q) x.type ++ encSs [fnameOf q x.func]:=by simp [encImpl,encTrait]
 rw [e] at hb ⊢
 have ht:(C.agg [IC x.type.kind,IC x.type.id,.sl (x.type.args.map tyC)]) = .agg (tyC x.type):=by rw [tyC_eq]
 have h73:=w83 q x.type
 have h75:=fun s => w85b q s x.bounds
 generalize encTy (some q) x.type = E at h73 hb ⊢
 generalize encL (encBound (some q)) x.bounds = B at h75 hb ⊢
 refine callsT_facts Tryz.func29 facts29 rfl fun hw _ => ?_
 refine callPD (t84 q.traits x.trait) rfl fun _ => ?_
 refine callOD [1000,1001] [1000,1001] (w21 q _ [nm q.traits x.trait] (by simp only [List.length_append] at hb ⊢; omega)) rfl rfl rfl rfl rfl fun _ _ => ?_
 refine callO [1000,1001] [1000,1001] (w65 q _ [x.params] (by simp only [List.length_append] at hb ⊢; omega)) rfl rfl rfl rfl rfl fun _ _ => ?_
 refine callO [1000,1001] [1000,1001] (h75 _ (by simp only [List.length_append] at hb ⊢; omega)) rfl rfl rfl rfl rfl fun _ _ => ?_
 refine callO [1000,1001] [1000,1001] (h73 _ (by simp only [List.length_append] at hb ⊢; omega)) rfl rfl (congrArg (fun z => [C.own 1000 0,z]) ht) rfl rfl fun _ _ => ?_
 refine callPD (t87 q.funcs x.func) rfl fun _ => ?_
 refine callOD [1000,1001] [1000,1001] (w21 q _ [fnameOf q x.func] hb) rfl rfl rfl rfl rfl fun _ _ => ?_
 exact retO [1000,1001] rfl rfl rfl rfl
theorem w81 (q:Prog) (v:Variant) (bs:List UInt8) (hb:(bs ++ encVariant (some q) v).length ≤ 2 ^ 46):CallsT PZ 81 [.agg (variantC v),.own 1002 0] (WQC q bs) (Ret (WQC q (bs ++ encVariant (some q) v)) (.tup [])):=by
 have e:bs ++ encVariant (some q) v = bs ++ encSs [v.name] ++ encL (encTy (some q)) v.fields:=by simp [encVariant]
 rw [e] at hb ⊢
 have h72:=fun s => w82t q s v.fields
 generalize encL (encTy (some q)) v.fields = B at h72 hb ⊢
 refine callsT_facts Tryz.func81 facts81 rfl fun hw _ => ?_
 refine callO [1000,1001] [1000,1001] (w21 q _ [v.name] (by simp only [List.length_append] at hb ⊢; omega)) rfl rfl rfl rfl rfl fun _ _ => ?_
 refine callO [1000,1001] [1000,1001] (h72 _ hb) rfl rfl rfl rfl rfl fun _ _ => ?_
 exact retO [1000,1001,1002] rfl rfl rfl rfl
theorem w25 (q:Prog) (d:Api.Data) (bs:List UInt8) (hb:(bs ++ encData (some q) d).length ≤ 2 ^ 46):CallsT PZ 25 [.own 1000 0,.agg (dataC d)] (WQ q bs) (Ret (WQ q (bs ++ encData (some q) d)) (.tup [])):=by
 have e:bs ++ encData (some q) d = bs ++ encSs [d.name] ++ encIs [d.params,d.drop] ++ encL (encVariant (some q)) d.variants:=by simp [encData]
 rw [e] at hb ⊢
 have h70:=fun s => w80 q s d.variants (encVariant (some q)) (fun x _ s hs => w81 q x s hs)
 generalize encL (encVariant (some q)) d.variants = B at h70 hb ⊢
 refine callsT_facts Tryz.func25 facts25 rfl fun hw _ => ?_
 refine callO [1000,1001] [1000,1001] (w21 q _ [d.name] (by simp only [List.length_append] at hb ⊢; omega)) rfl rfl rfl rfl rfl fun _ _ => ?_
 refine callO [1000,1001] [1000,1001] (w65 q _ [d.params,d.drop] (by simp only [List.length_append] at hb ⊢; omega)) rfl rfl rfl rfl rfl fun _ _ => ?_
 refine callO [1000,1001,2] [1000,1001,2] (h70 _ hb) rfl rfl rfl rfl rfl fun _ _ => ?_
 exact retO [1000,1001] rfl rfl rfl rfl
theorem w88 (q:Prog) (n:Int) (bs:List UInt8) (hb:(bs ++ encI n).length ≤ 2 ^ 46):CallsT PZ 88 [IC n,.own 1002 0] (WQC q bs) (Ret (WQC q (bs ++ encI n)) (.tup [])):=by
 have e:bs ++ encI n = bs ++ encIs [n]:=by simp [encIs]
 rw [e] at hb ⊢
 refine callsT_facts Tryz.func88 facts88 rfl fun hw _ => ?_
 refine callO [1000,1001] [1000,1001] (w65 q bs [n] hb) rfl rfl rfl rfl rfl fun _ _ => ?_
 exact retO [1000,1001,1002] rfl rfl rfl rfl
theorem w33 (q:Prog) (f:Fun) (bs:List UInt8) (hb:(bs ++ encSig (some q) f).length ≤ 2 ^ 46):CallsT PZ 33 [.own 1000 0,.agg (funC f)] (WQ q bs) (Ret (WQ q (bs ++ encSig (some q) f)) (.tup [])):=by
 have e:bs ++ encSig (some q) f = bs ++ encSs [f.name] ++ encIs [f.params] ++ encL (encBound (some q)) f.bounds ++ encIs [f.arity] ++ encL (encTy (some q)) (argsOf f) ++ encTy (some q) f.result ++ encL encI f.ties:=by simp [encSig]
 rw [e] at hb ⊢
 have h73:=fun s => w83 q f.result s
 have h72:=fun s => w82t q s (argsOf f)
 have h75:=fun s => w85b q s f.bounds
 have h57:=fun s => w63 q s f.ties encI (fun x _ s hs => w88 q x s hs)
 generalize encL (encTy (some q)) (argsOf f) = A at h72 hb ⊢
 generalize encTy (some q) f.result = E at h73 hb ⊢
 generalize encL (encBound (some q)) f.bounds = B at h75 hb ⊢
 generalize encL encI f.ties = T at h57 hb ⊢
 refine callsT_facts Tryz.func33 facts33 rfl fun hw _ => ?_
 have hwa:(Lit.int .i64 f.arity).wf = true:=hw.2.1.2.2.2.2.1
 have hwl:Wf (.sl (f.locals.map tyC)):=hw.2.1.2.2.2.2.2.2.2.2.1
 have hn:=wf_lenM hwl
 have hn':(f.locals.map tyC).length ≤ 9223372036854775807:=by rw [List.length_map]; exact hn
 have hm1:=mn_wf hwa hn'
 have hm2:=mx0_wf hm1
 have hbd:=mx0_bd (n:=(f.locals.map tyC).length) (a:=f.arity)
 have hsl:((f.locals.map tyC).drop (Int.toNat 0)).take ((mx0 (mn (f.locals.map tyC).length f.arity)).toNat - Int.toNat 0) = (argsOf f).map tyC:=by
  show ((f.locals.map tyC).drop 0).take ((mx0 (mn (f.locals.map tyC).length f.arity)).toNat - 0) = _
  rw [mx0_eq,argsOf,List.map_take,List.length_map]
  rfl
 have hsz:∀ es ∈ f.locals.map tyC,es.length = 3:=by
  intro es he
  obtain ⟨t,_,rfl⟩:=List.mem_map.1 he
  exact tyC_len t
 have hres:(C.agg [IC f.result.kind,IC f.result.id,.sl (f.result.args.map tyC)]) = .agg (tyC f.result):=by rw [tyC_eq]
 refine callO [1000,1001] [1000,1001] (w21 q bs [f.name] (by simp only [List.length_append] at hb ⊢; omega)) rfl rfl rfl rfl rfl fun _ _ => ?_
 refine callO [1000,1001] [1000,1001] (w65 q _ [f.params] (by simp only [List.length_append] at hb ⊢; omega)) rfl rfl rfl rfl rfl fun _ _ => ?_
 refine callO [1000,1001] [1000,1001] (h75 _ (by simp only [List.length_append] at hb ⊢; omega)) rfl rfl rfl rfl rfl fun _ _ => ?_
 refine callO [1000,1001] [1000,1001] (w65 q _ [f.arity] (by simp only [List.length_append] at hb ⊢; omega)) rfl rfl rfl rfl rfl fun _ _ => ?_
 refine ⟨hm1,?_⟩
 refine ⟨hm2,?_⟩
 refine SlcT.mk (Int.le_refl 0) hbd.1 hbd.2 hsz ?_
 refine callOD [1000,1001] [1000,1001] (h72 _ (by simp only [List.length_append] at hb ⊢; omega)) rfl rfl (congrArg (fun z => [C.own 1000 0,.sl z,.fn 83 [.own 1000 0] []]) hsl) rfl rfl fun _ _ => ?_
 refine callO [1000,1001] [1000,1001] (h73 _ (by simp only [List.length_append] at hb ⊢; omega)) rfl rfl (congrArg (fun z => [C.own 1000 0,z]) hres) rfl rfl fun _ _ => ?_
 refine callO [1000,1001,2] [1000,1001,2] (h57 _ hb) rfl rfl rfl rfl rfl fun _ _ => ?_
 exact retO [1000,1001] rfl rfl rfl rfl
theorem t24 (x:Api.Data) (m:Int):CallsT PZ 24 [.agg (dataC x),.pt [IC m] 0] [] (Ret [] (.bool (decide (x.module = m)))):=by
 refine callsT_facts Tryz.func24 facts24 rfl fun hw _ => ?_
 exact retP rfl rfl
theorem t23 (l:List Api.Data) (m:Int) (hl:l.length ≤ 2 ^ 30):CallsT PZ 23 [.sl (l.map dataC),.fn 24 [] [.pt [IC m] 0]] [] (Ret [] (.sl ((l.filter fun x => decide (x.module = m)).map dataC))):=by
 refine callsT_facts Tryz.func23 facts23 rfl fun hw _ => ?_
 refine loopN l.length 10 [5] [] (fun _ => [.rw 5]) (fun s => [(5,.row 80 5 (s.map dataC))]) (fun k s => s.length ≤ k ∧ s ++ (l.drop k).filter (fun x => decide (x.module = m)) = l.filter fun x => decide (x.module = m)) ⟨Nat.le_refl _,by simp⟩
  (same_keys rfl) ⟨.inr (.inr (.inr (.inl ⟨rfl,5,80,5,rfl,rfl,rfl⟩))),trivial⟩ ⟨.inr ⟨rfl,80,5,rfl⟩,trivial⟩ (fun _ => rfl) (fun _ => rfl) ?_
 rintro k s hk ⟨hsk,hinv⟩ _ _ _
 refine brn_p (fun hlt => ?_) (fun hge => ?_)
 ·have hlt:k < l.length:=by simpa using hlt
  refine withDrop hlt fun x hx hxm hd => ?_
  rw [hd] at hinv
  refine idxT hx rfl rfl ?_
  refine callP (t24 x m) rfl fun _ => ?_
  refine brn_p (fun he => ?_) (fun he => ?_)
  ·refine app1r s.length rfl (by rw [List.length_map]) (by omega) (by omega) ?_
   refine Fit.in64 (by omega) (by omega) ?_
   refine ⟨(k + 1,s ++ [x]),⟨hlt,by simpa using hsk,?_⟩,⟨nextI,same_keys rfl,trivial⟩,⟨.inl ⟨_,rfl,.inl ⟨?_,rfl⟩⟩,trivial⟩,nextM hlt⟩
   ·rw [← hinv,List.filter_cons,if_pos (by simpa using he)]; simp
   ·refine congrArg (TO.row 80 5) ?_
    rw [List.map_append]; rfl
  ·refine Fit.in64 (by omega) (by omega) ?_
   refine ⟨(k + 1,s),⟨hlt,by show s.length ≤ k + 1; omega,?_⟩,⟨nextI,same_keys rfl,trivial⟩,⟨.inl ⟨_,rfl,.inl ⟨rfl,rfl⟩⟩,trivial⟩,nextM hlt⟩
   rw [← hinv,List.filter_cons,if_neg (by simpa using he)]
 ·have hge:¬ k < l.length:=by simpa using hge
  rw [drop_end hge] at hinv
  refine retF [5] [] ⟨_,[],rfl,rfl,rfl,rfl,?_⟩
  simp only [List.filter_nil,List.append_nil] at hinv
  subst hinv
  rfl
theorem t28 (x:Impl) (m:Int):CallsT PZ 28 [.agg (implC x),.pt [IC m] 0] [] (Ret [] (.bool (decide (x.module = m)))):=by
 refine callsT_facts Tryz.func28 facts28 rfl fun hw _ => ?_
 exact retP rfl rfl
theorem t27 (l:List Impl) (m:Int) (hl:l.length ≤ 2 ^ 30):CallsT PZ 27 [.sl (l.map implC),.fn 28 [] [.pt [IC m] 0]] [] (Ret [] (.sl ((l.filter fun x => decide (x.module = m)).map implC))):=by
 refine callsT_facts Tryz.func27 facts27 rfl fun hw _ => ?_
 refine loopN l.length 10 [5] [] (fun _ => [.rw 5]) (fun s => [(5,.row 50 8 (s.map implC))]) (fun k s => s.length ≤ k ∧ s ++ (l.drop k).filter (fun x => decide (x.module = m)) = l.filter fun x => decide (x.module = m)) ⟨Nat.le_refl _,by simp⟩
  (same_keys rfl) ⟨.inr (.inr (.inr (.inl ⟨rfl,5,50,8,rfl,rfl,rfl⟩))),trivial⟩ ⟨.inr ⟨rfl,50,8,rfl⟩,trivial⟩ (fun _ => rfl) (fun _ => rfl) ?_
 rintro k s hk ⟨hsk,hinv⟩ _ _ _
 refine brn_p (fun hlt => ?_) (fun hge => ?_)
 ·have hlt:k < l.length:=by simpa using hlt
  refine withDrop hlt fun x hx hxm hd => ?_
  rw [hd] at hinv
  refine idxT hx rfl rfl ?_
  refine callP (t28 x m) rfl fun _ => ?_
  refine brn_p (fun he => ?_) (fun he => ?_)
  ·refine app1r s.length rfl (by rw [List.length_map]) (by omega) (by omega) ?_
   refine Fit.in64 (by omega) (by omega) ?_
   refine ⟨(k + 1,s ++ [x]),⟨hlt,by simpa using hsk,?_⟩,⟨nextI,same_keys rfl,trivial⟩,⟨.inl ⟨_,rfl,.inl ⟨?_,rfl⟩⟩,trivial⟩,nextM hlt⟩
   ·rw [← hinv,List.filter_cons,if_pos (by simpa using he)]; simp
   ·refine congrArg (TO.row 50 8) ?_
    rw [List.map_append]; rfl
  ·refine Fit.in64 (by omega) (by omega) ?_
   refine ⟨(k + 1,s),⟨hlt,by show s.length ≤ k + 1; omega,?_⟩,⟨nextI,same_keys rfl,trivial⟩,⟨.inl ⟨_,rfl,.inl ⟨rfl,rfl⟩⟩,trivial⟩,nextM hlt⟩
   rw [← hinv,List.filter_cons,if_neg (by simpa using he)]
 ·have hge:¬ k < l.length:=by simpa using hge
  rw [drop_end hge] at hinv
  refine retF [5] [] ⟨_,[],rfl,rfl,rfl,rfl,?_⟩
  simp only [List.filter_nil,List.append_nil] at hinv
  subst hinv
  rfl
theorem t32 (x:Fun) (m:Int):CallsT PZ 32 [.agg (funC x),.pt [IC m] 0] [] (Ret [] (.bool (decide (x.module = m)))):=by
 refine callsT_facts Tryz.func32 facts32 rfl fun hw _ => ?_
 exact retP rfl rfl
theorem t31 (l:List Fun) (m:Int) (hl:l.length ≤ 2 ^ 30):CallsT PZ 31 [.sl (l.map funC),.fn 32 [] [.pt [IC m] 0]] [] (Ret [] (.sl ((l.filter fun x => decide (x.module = m)).map funC))):=by
 refine callsT_facts Tryz.func31 facts31 rfl fun hw _ => ?_
 refine loopN l.length 10 [5] [] (fun _ => [.rw 5]) (fun s => [(5,.row 36 11 (s.map funC))]) (fun k s => s.length ≤ k ∧ s ++ (l.drop k).filter (fun x => decide (x.module = m)) = l.filter fun x => decide (x.module = m)) ⟨Nat.le_refl _,by simp⟩
  (same_keys rfl) ⟨.inr (.inr (.inr (.inl ⟨rfl,5,36,11,rfl,rfl,rfl⟩))),trivial⟩ ⟨.inr ⟨rfl,36,11,rfl⟩,trivial⟩ (fun _ => rfl) (fun _ => rfl) ?_
 rintro k s hk ⟨hsk,hinv⟩ _ _ _
 refine brn_p (fun hlt => ?_) (fun hge => ?_)
 ·have hlt:k < l.length:=by simpa using hlt
  refine withDrop hlt fun x hx hxm hd => ?_
  rw [hd] at hinv
  refine idxT hx rfl rfl ?_
  refine callP (t32 x m) rfl fun _ => ?_
  refine brn_p (fun he => ?_) (fun he => ?_)
  ·refine app1r s.length rfl (by rw [List.length_map]) (by omega) (by omega) ?_
   refine Fit.in64 (by omega) (by omega) ?_
   refine ⟨(k + 1,s ++ [x]),⟨hlt,by simpa using hsk,?_⟩,⟨nextI,same_keys rfl,trivial⟩,⟨.inl ⟨_,rfl,.inl ⟨?_,rfl⟩⟩,trivial⟩,nextM hlt⟩
   ·rw [← hinv,List.filter_cons,if_pos (by simpa using he)]; simp
   ·refine congrArg (TO.row 36 11) ?_
    rw [List.map_append]; rfl
  ·refine Fit.in64 (by omega) (by omega) ?_
   refine ⟨(k + 1,s),⟨hlt,by show s.length ≤ k + 1; omega,?_⟩,⟨nextI,same_keys rfl,trivial⟩,⟨.inl ⟨_,rfl,.inl ⟨rfl,rfl⟩⟩,trivial⟩,nextM hlt⟩
   rw [← hinv,List.filter_cons,if_neg (by simpa using he)]
 ·have hge:¬ k < l.length:=by simpa using hge
  rw [drop_end hge] at hinv
  refine retF [5] [] ⟨_,[],rfl,rfl,rfl,rfl,?_⟩
  simp only [List.filter_nil,List.append_nil] at hinv
  subst hinv
  rfl
theorem t20 (l:List Int) (hl:l.length ≤ 2 ^ 30):CallsT PZ 20 [.sl (ics l)] [] (Ret [] (.sl (ics l))):=by
 refine callsT_facts Tryz.func20 facts20 rfl fun hw _ => ?_
 intro b hb
 refine brn_split (fun h => ?_) (fun h => ?_)
 ·have h:b = true:=h
  cases l with
  | nil => exact retP rfl rfl
  | cons x l => rw [hb (by simp [ics])] at h; cases h
 ·refine AppT.mk (fun es he => ?_) ?_ ?_ ?_
  ·obtain ⟨x,_,rfl⟩:=List.mem_map.1 he; rfl
  ·show 0 + (ics l).length ≤ maxLen
   simp only [ics,List.length_map,maxLen]; omega
  ·show (0 + (ics l).length) * 8 ≤ _
   simp only [ics,List.length_map]; omega
  refine retF [5] [] ⟨_,[],rfl,rfl,rfl,rfl,?_⟩
  rfl
end Go.Fr.Tryz
