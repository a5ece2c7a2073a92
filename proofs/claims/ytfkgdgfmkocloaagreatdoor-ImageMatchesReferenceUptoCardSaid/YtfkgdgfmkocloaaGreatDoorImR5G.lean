/- Part of the proofs of the statements of this seat. -/
import Derived.Test.YtfkgdgfmkocloaaGreatDoorImR1G
set_option maxRecDepth 10000
set_option linter.unusedVariables false
set_option linter.unusedSimpArgs false
namespace Go.Fr.Tryz
open Go Go.RowKit Go.Proofs Go.Fr Go.Fr.T Go.Fr.Api
def WR (s:WS):List TO:=[.box 91 [.rw 1001,.bool s.2],.row 5 1 (bcells s.1)]
def WRL (s:WS):TL:=[(1000,.box 91 [.rw 1001,.bool s.2]),(1001,.row 5 1 (bcells s.1))]
abbrev mxR:Nat:=70368744177664
def WrR (f:Nat) (args:List C) (g:WS → WS):Prop:=∀ s:WS,(g s).1.length ≤ mxR → CallsT PZ f args (WR s) (Ret (WR (g s)) (.tup []))
theorem wR {f:Nat} {args args':List C} {g:WS → WS} {L:TL} {ρ:TEnv} {K:TL → TEnv → C → Prop} (s:WS) (h:WrR f args' g) (hb:(g s).1.length ≤ mxR) (hs:L.sub [1000,1001] = some (WR s))
  (ha:(args.map fun c => c.canA.ren (toIn [1000,1001] 1000)) = args')
  (k:K (((L.dels [1000,1001]).kills (rowsOf L [1000,1001])).puts [1000,1001] (WR (g s))) (killsE (rowsOf L [1000,1001]) ρ) (.tup [])):CallT PZ f args L ρ K :=
 callO [1000,1001] [1000,1001] (h s hb) hs rfl ha rfl rfl fun _ _ => k
theorem eachR_lo {α:Type} {f:α → WS → WS} (h:∀ x s,s.1.length ≤ (f x s).1.length):∀ (l:List α) (s:WS),s.1.length ≤ (eachR f l s).1.length
 | [],s => Nat.le_refl _
 | x :: l,s => by
  rw [eachR]
  split
  ·exact Nat.le_refl _
  ·exact Nat.le_trans (h x s) (eachR_lo h l _)
theorem allR_lo {α:Type} {f:α → WS → WS} (h:∀ x s,s.1.length ≤ (f x s).1.length):∀ (l:List α) (s:WS),s.1.length ≤ (allR f l s).1.length
 | [],s => Nat.le_refl _
 | x :: l,s => Nat.le_trans (h x s) (allR_lo h l _)
theorem each_step {α:Type} {f:α → WS → WS} {l:List α} {k:Nat} {x:α} {s s0:WS} (hd:l.drop k = x :: l.drop (k + 1)) (hb:(!s.2) = true) (h:eachR f (l.drop k) s = s0):eachR f (l.drop (k + 1)) (f x s) = s0:=by
 rw [hd,eachR] at h
 have:s.2 = false:=by simpa using hb
 rw [this] at h
 exact h
theorem each_bad {α:Type} {f:α → WS → WS} {l:List α} {s s0:WS} (hb:(!s.2) = false) (h:eachR f l s = s0):s = s0:=by
 have:s.2 = true:=by simpa using hb
 cases l with
 | nil => exact h
 | cons x l => rw [eachR,this] at h; exact h
theorem each_end {α:Type} {f:α → WS → WS} {l:List α} {k:Nat} {s s0:WS} (hk:¬ k < l.length) (h:eachR f (l.drop k) s = s0):s = s0:=by
 rw [drop_end hk] at h; exact h
theorem lo_le {g:WS → WS} {n B:Nat} {s:WS} (h:Grow g n) (hb:(g s).1.length ≤ B):s.1.length ≤ B:=Nat.le_trans (h.lo s) hb
theorem bcells_app (a b:List UInt8):bcells (a ++ b) = bcells a ++ bcells b:=by simp [bcells]
theorem row_app {a b:List UInt8}:TO.row 5 1 (bcells a ++ bcells b) = TO.row 5 1 (bcells (a ++ b)):=by rw [bcells_app]
theorem appR {bs:List UInt8} {els:List (List C)} {K:Prop} (n:Nat) (hn:els.length = n) (h:n + bs.length ≤ mxR) (k:K):AppT els (bcells bs) 1 1 K:=appB n hn (by simp only [mxR] at h; omega) k
theorem r49 (n:Int):WrR 49 [.own 1000 0,IC n] (numR n):=by
 intro s hb
 obtain ⟨p,b⟩:=s
 by_cases hn:-1099511627776 ≤ n ∧ n ≤ 1099511627776
 ·have hg:numR n (p,b) = (p ++ vint (zz n),b):=by rw [numR,if_pos hn]
  rw [hg] at hb ⊢
  have hz:zz n ≤ 2199023255552:=by unfold zz; split <;> omega
  refine callsT_facts Tryz.func49 facts49 rfl fun hw ho => ?_
  refine brn_p (fun h1 => absurd hn.1 (by omega)) (fun h1 => ?_)
  refine brn_p (fun h2 => absurd hn.2 (by omega)) (fun h2 => ?_)
  refine Fit.in64 (by omega) (by omega) ?_
  refine brn_p (fun hneg => Fit.in64 (by omega) (by omega) (Fit.in64 (by omega) (by omega) ?_)) (fun hpos => ?_)
  all_goals
   refine LoopT.mk ⟨Nat × List UInt8,(zz n,p),fun y => y.1 ≤ 2199023255552 ∧ y.2 ++ vint y.1 = p ++ vint (zz n),[4],fun y => [.int .i64 y.1],fun y => WRL (y.2,b),fun y => y.1,⟨hz,rfl⟩,⟨.inr (.inl ⟨?_,rfl⟩),trivial⟩,
    ⟨.inl ⟨_,rfl,.inl ⟨rfl,rfl⟩⟩,.inl ⟨_,rfl,.inl ⟨rfl,rfl⟩⟩,trivial⟩,fun _ => rfl,fun _ => rfl,?_⟩
   ·exact congrArg (C.int .i64) (by unfold zz; first | (rw [if_pos hneg]; omega) | (rw [if_neg hpos]; omega))
   rintro ⟨m,done⟩ ⟨hm64,hmi⟩ _ _
   simp only at hmi hm64 hb
   have hdl:done.length + (vint m).length ≤ mxR:=by
    have:=congrArg List.length hmi
    simp only [List.length_append] at this hb
    omega
   have hdone:(bcells done).length = done.length:=bcells_len
   have h1:=vint_len m
   refine brn_p (fun hm => ?_) (fun hm => ?_)
   ·have hm:128 ≤ m:=by have:(128:Int) ≤ (m:Int):=hm; omega
    have hde:vint m = UInt8.ofNat (128 + m % 128) :: vint (m / 128):=by rw [vint,dif_neg (by omega)]
    refine NonZ.mk (by omega) ?_
    refine Fit.to (m:=128 + (m:Int).tmod 128) (wrap64_id (by rw [show (m:Int).tmod 128 = ((m % 128:Nat):Int) from rfl]; omega) (by rw [show (m:Int).tmod 128 = ((m % 128:Nat):Int) from rfl]; omega)) ?_
    refine Fit.to (u8_hi' m) ?_
    refine appR (bs:=[UInt8.ofNat (128 + m % 128)]) done.length hdone (by simp only [List.length_cons,List.length_nil]; omega) ?_
    refine NonZ.mk (by omega) ?_
    refine Fit.to (m:=((m / 128:Nat):Int)) (by show IntKind.wrap .i64 ((m / 128:Nat):Int) = _; exact wrap64_id (by omega) (by omega)) ?_
    refine ⟨(m / 128,done ++ [UInt8.ofNat (128 + m % 128)]),⟨?_,?_⟩,⟨.inr (.inl ⟨rfl,rfl⟩),trivial⟩,⟨.inl ⟨_,rfl,.inl ⟨rfl,rfl⟩⟩,.inl ⟨_,rfl,.inl ⟨row_app (a:=done) (b:=[UInt8.ofNat (128 + m % 128)]),rfl⟩⟩,trivial⟩,?_⟩
    ·show m / 128 ≤ _; omega
    ·show done ++ [UInt8.ofNat (128 + m % 128)] ++ vint (m / 128) = p ++ vint (zz n)
     rw [← hmi,hde]; simp
    ·show m / 128 < m; omega
   ·have hm:m < 128:=by have:¬ (128:Int) ≤ (m:Int):=hm; omega
    have hde:vint m = [UInt8.ofNat m]:=by rw [vint,dif_pos hm]
    refine Fit.to (u8_lo' m) ?_
    refine appR (bs:=[UInt8.ofNat m]) done.length hdone (by simp only [List.length_cons,List.length_nil]; omega) ?_
    refine retO [1000,1001] rfl rfl (?_:[TO.box 91 [.rw 1001,.bool b],.row 5 1 (bcells done ++ bcells [UInt8.ofNat m])] = _) rfl
    rw [WR,← hmi,hde,bcells_app]
 ·have hg:numR n (p,b) = (p,true):=by rw [numR,if_neg hn]
  rw [hg]
  refine callsT_facts Tryz.func49 facts49 rfl fun hw ho => ?_
  refine brn_p (fun h1 => ?_) (fun h1 => ?_)
  ·exact retO [1000,1001] rfl rfl rfl rfl
  refine brn_p (fun h2 => ?_) (fun h2 => absurd ⟨by omega,by omega⟩ hn)
  exact retO [1000,1001] rfl rfl rfl rfl
theorem r46 (n:Nat):WrR 46 [.own 1000 0,IC n] (lenR n):=by
 intro s hb
 obtain ⟨p,b⟩:=s
 cases b with
 | true =>
  refine callsT_facts Tryz.func46 facts46 rfl fun hw ho => ?_
  refine wR (p,true) (r49 n) hb rfl rfl ?_
  exact retO [1000,1001] rfl rfl rfl rfl
 | false =>
  refine callsT_facts Tryz.func46 facts46 rfl fun hw ho => ?_
  refine wR (p,decide (400 < (n:Int))) (r49 n) hb rfl rfl ?_
  exact retO [1000,1001] rfl rfl rfl rfl
theorem r92 (x:ByteArray):WrR 92 [.own 1000 0,.str x] (nameR x):=by
 intro s hb
 have h1:(numR x.size (badR (decide (200 < (x.size:Int))) s)).1.length ≤ mxR:=lo_le (bytesR_g x.data.toList) hb
 have hx:x.data.toList.length = x.size:=by simp
 have hb2:(numR x.size (badR (decide (200 < (x.size:Int))) s)).1.length + x.data.toList.length ≤ mxR:=by
  have:(nameR x s).1 = (numR x.size (badR (decide (200 < (x.size:Int))) s)).1 ++ x.data.toList:=rfl
  rw [this,List.length_append] at hb
  exact hb
 obtain ⟨p,b⟩:=s
 cases b with
 | true =>
  refine callsT_facts Tryz.func92 facts92 rfl fun hw ho => ?_
  refine wR (p,true) (r49 x.size) h1 rfl rfl ?_
  refine appR (bs:=x.data.toList) _ bcells_len hb2 ?_
  exact retO [1000,1001] rfl rfl (congrArg (fun q => [TO.box 91 [.rw 1001,.bool _],.row 5 1 q]) (bcells_app _ _).symm) rfl
 | false =>
  refine callsT_facts Tryz.func92 facts92 rfl fun hw ho => ?_
  refine wR (p,decide (200 < (x.size:Int))) (r49 x.size) h1 rfl rfl ?_
  refine appR (bs:=x.data.toList) _ bcells_len hb2 ?_
  exact retO [1000,1001] rfl rfl (congrArg (fun q => [TO.box 91 [.rw 1001,.bool _],.row 5 1 q]) (bcells_app _ _).symm) rfl
theorem r138 (b:Bool):WrR 138 [.own 1000 0,.bool b] (numR (bitI b)):=by
 intro s hb
 cases b with
 | true =>
  refine callsT_facts Tryz.func138 facts138 rfl fun hw ho => ?_
  refine wR s (r49 1) hb rfl rfl ?_
  exact retO [1000,1001] rfl rfl rfl rfl
 | false =>
  refine callsT_facts Tryz.func138 facts138 rfl fun hw ho => ?_
  refine wR s (r49 0) hb rfl rfl ?_
  exact retO [1000,1001] rfl rfl rfl rfl
theorem r95 (l:List Int):WrR 95 [.own 1000 0,.sl (ics l)] (intsR l):=by
 intro s hb
 have h1:(lenR l.length s).1.length ≤ mxR:=Nat.le_trans (allR_lo (fun x s => (numR_g x).lo s) l _) hb
 refine callsT_facts Tryz.func95 facts95 rfl fun hw ho => ?_
 refine wR (s) (r46 (l).length) h1 rfl (congrArg (fun q:Nat => [C.own 1000 0,IC q]) lenI) ?_
 refine loopN (l).length 4 [] (lenR l.length s) (fun _ => []) (fun q => WRL q) (fun k q => allR (numR) ((l).drop k) q = allR (numR) (l) (lenR l.length s)) rfl (same_keys rfl) trivial ⟨.inl ⟨_,rfl,.inl ⟨rfl,rfl⟩⟩,.inl ⟨_,rfl,.inl ⟨rfl,rfl⟩⟩,trivial⟩ (fun _ => rfl) (fun _ => rfl) ?_
 rintro kA sA hkA invA _ _ _
 refine brn_p (fun ltA => ?_) (fun geA => ?_)
 ·have ltA:kA < (l).length:=by rw [lenI] at ltA; omega
  have mxA:(l).length ≤ 9223372036854775807:=(wf_lenM hw.2.1:l.length ≤ _)
  obtain ⟨xA,hxA,hdA⟩:=drop_cons ltA
  have nxA:allR (numR) ((l).drop (kA + 1)) ((numR) xA sA) = allR (numR) (l) (lenR l.length s):=by rw [hdA] at invA; exact invA
  have nbA:((numR) xA sA).1.length ≤ mxR:=Nat.le_trans (allR_lo (fun x s => (numR_g x).lo s) _ _) (by rw [nxA]; exact hb)
  refine idxI hxA ?_
  refine wR (sA) (r49 xA) (nbA) rfl rfl ?_
  refine Fit.in64 (by omega) (by omega) ?_
  exact ⟨(kA + 1,(numR) xA sA),⟨ltA,nxA⟩,⟨nextI,trivial⟩,⟨.inl ⟨_,rfl,.inl ⟨rfl,rfl⟩⟩,.inl ⟨_,rfl,.inl ⟨rfl,rfl⟩⟩,trivial⟩,nextM ltA⟩
 ·have geA:¬ kA < (l).length:=by rw [lenI] at geA; omega
  have eA:sA = allR (numR) (l) (lenR l.length s):=by rw [drop_end geA] at invA; exact invA
  exact retO [1000,1001] rfl rfl (congrArg WR eA) rfl
theorem typR_lo (d:Nat) (x:Ty) (s:WS):s.1.length ≤ (typR d x s).1.length:=(typR_g d x).lo s
theorem fullR_lo (x:Ty) (s:WS):s.1.length ≤ (fullR x s).1.length:=(fullR_g x).lo s
theorem r94:∀ (d:Nat) (m:Int),m.toNat = d → ∀ x:Ty,WrR 94 [.own 1000 0,tyA x,IC m] (typR d x)
 | 0,m,hm,x => by
  intro s hb
  have bt4:((badR true (lenR x.args.length (numR x.id (numR x.kind s))))).1.length ≤ mxR:=hb
  have bt3:((lenR x.args.length (numR x.id (numR x.kind s)))).1.length ≤ mxR:=lo_le (badR_g _) bt4
  have bt2:((numR x.id (numR x.kind s))).1.length ≤ mxR:=lo_le (lenR_g _) bt3
  have bt1:((numR x.kind s)).1.length ≤ mxR:=lo_le (numR_g _) bt2
  refine callsT_facts Tryz.func94 facts94 rfl fun hw ho => ?_
  refine wR (s) (r49 x.kind) (bt1) rfl rfl ?_
  refine wR ((numR x.kind s)) (r49 x.id) (bt2) rfl rfl ?_
  refine wR ((numR x.id (numR x.kind s))) (r46 (x.args).length) bt3 rfl (congrArg (fun q:Nat => [C.own 1000 0,IC q]) lenM) ?_
  refine brn_p (fun _ => ?_) (fun h => absurd h (by omega))
  refine retO [1000,1001] rfl rfl (congrArg WR (?_:(_,true) = _)) rfl
  simp [typR,badR]
 | d + 1,m,hm,x => by
  intro s hb
  have ih:=r94 d (m - 1) (by omega)
  have bt3:((lenR x.args.length (numR x.id (numR x.kind s)))).1.length ≤ mxR:=Nat.le_trans (eachR_lo (typR_lo d) x.args _) hb
  have bt2:((numR x.id (numR x.kind s))).1.length ≤ mxR:=lo_le (lenR_g _) bt3
  have bt1:((numR x.kind s)).1.length ≤ mxR:=lo_le (numR_g _) bt2
  refine callsT_facts Tryz.func94 facts94 rfl fun hw ho => ?_
  have hwl:Wf (.sl (x.args.map tyC)):=by have h:=hw.2.1; simp only [tyA,Wf,WfS] at h; exact h.2.2.1
  have hm2:m ≤ 9223372036854775807:=(wf_I hw.2.2.1).2
  refine wR (s) (r49 x.kind) (bt1) rfl rfl ?_
  refine wR ((numR x.kind s)) (r49 x.id) (bt2) rfl rfl ?_
  refine wR ((numR x.id (numR x.kind s))) (r46 (x.args).length) bt3 rfl (congrArg (fun q:Nat => [C.own 1000 0,IC q]) lenM) ?_
  refine brn_p (fun h => absurd h (by omega)) (fun _ => ?_)
  refine loopN (x.args).length 6 [] ((lenR x.args.length (numR x.id (numR x.kind s)))) (fun _ => []) (fun q => WRL q) (fun k q => eachR (typR d) ((x.args).drop k) q = eachR (typR d) (x.args) ((lenR x.args.length (numR x.id (numR x.kind s))))) rfl (same_keys rfl) trivial ⟨.inl ⟨_,rfl,.inl ⟨rfl,rfl⟩⟩,.inl ⟨_,rfl,.inl ⟨rfl,rfl⟩⟩,trivial⟩ (fun _ => rfl) (fun _ => rfl) ?_
  rintro kA sA hkA invA _ _ _
  refine brn_p (fun ltA => ?_) (fun geA => ?_)
  ·have ltA:kA < (x.args).length:=by rw [lenM] at ltA; omega
   have mxA:(x.args).length ≤ 9223372036854775807:=wf_lenM hwl
   obtain ⟨xA,hxA,hdA⟩:=drop_cons ltA
   refine brn_split (fun okA => ?_) (fun badA => ?_)
   ·have nxA:=each_step hdA okA invA
    have nbA:((typR d) xA sA).1.length ≤ mxR:=Nat.le_trans (eachR_lo (typR_lo d) _ _) (by rw [nxA]; exact hb)
    refine idxTy hxA ?_
    refine Fit.in64 (by omega) (by omega) ?_
    refine wR (sA) (ih xA) (nbA) rfl rfl ?_
    refine Fit.in64 (by omega) (by omega) ?_
    exact ⟨(kA + 1,(typR d) xA sA),⟨ltA,nxA⟩,⟨nextI,trivial⟩,⟨.inl ⟨_,rfl,.inl ⟨rfl,rfl⟩⟩,.inl ⟨_,rfl,.inl ⟨rfl,rfl⟩⟩,trivial⟩,nextM ltA⟩
   ·have eA:sA = eachR (typR d) (x.args) ((lenR x.args.length (numR x.id (numR x.kind s)))):=each_bad badA invA
    exact retO [1000,1001] rfl rfl (congrArg WR eA) rfl
  ·have geA:¬ kA < (x.args).length:=by rw [lenM] at geA; omega
   have eA:sA = eachR (typR d) (x.args) ((lenR x.args.length (numR x.id (numR x.kind s)))):=each_end geA invA
   exact retO [1000,1001] rfl rfl (congrArg WR eA) rfl
theorem r94f (x:Ty):WrR 94 [.own 1000 0,tyA x,IC 8] (fullR x):=r94 8 8 rfl x
theorem r93 (l:List Ty):WrR 93 [.own 1000 0,.sl (l.map tyC)] (typesR l):=by
 intro s hb
 have h1:(lenR l.length s).1.length ≤ mxR:=Nat.le_trans (eachR_lo fullR_lo l _) hb
 refine callsT_facts Tryz.func93 facts93 rfl fun hw ho => ?_
 refine wR (s) (r46 (l).length) h1 rfl (congrArg (fun q:Nat => [C.own 1000 0,IC q]) lenM) ?_
 refine loopN (l).length 4 [] (lenR l.length s) (fun _ => []) (fun q => WRL q) (fun k q => eachR (fullR) ((l).drop k) q = eachR (fullR) (l) (lenR l.length s)) rfl (same_keys rfl) trivial ⟨.inl ⟨_,rfl,.inl ⟨rfl,rfl⟩⟩,.inl ⟨_,rfl,.inl ⟨rfl,rfl⟩⟩,trivial⟩ (fun _ => rfl) (fun _ => rfl) ?_
 rintro kA sA hkA invA _ _ _
 refine brn_p (fun ltA => ?_) (fun geA => ?_)
 ·have ltA:kA < (l).length:=by rw [lenM] at ltA; omega
  have mxA:(l).length ≤ 9223372036854775807:=wf_lenM hw.2.1
  obtain ⟨xA,hxA,hdA⟩:=drop_cons ltA
  refine brn_split (fun okA => ?_) (fun badA => ?_)
  ·have nxA:=each_step hdA okA invA
   have nbA:((fullR) xA sA).1.length ≤ mxR:=Nat.le_trans (eachR_lo (fullR_lo) _ _) (by rw [nxA]; exact hb)
   refine idxTy hxA ?_
   refine wR (sA) (r94f xA) (nbA) rfl rfl ?_
   refine Fit.in64 (by omega) (by omega) ?_
   exact ⟨(kA + 1,(fullR) xA sA),⟨ltA,nxA⟩,⟨nextI,trivial⟩,⟨.inl ⟨_,rfl,.inl ⟨rfl,rfl⟩⟩,.inl ⟨_,rfl,.inl ⟨rfl,rfl⟩⟩,trivial⟩,nextM ltA⟩
  ·have eA:sA = eachR (fullR) (l) (lenR l.length s):=each_bad badA invA
   exact retO [1000,1001] rfl rfl (congrArg WR eA) rfl
 ·have geA:¬ kA < (l).length:=by rw [lenM] at geA; omega
  have eA:sA = eachR (fullR) (l) (lenR l.length s):=each_end geA invA
  exact retO [1000,1001] rfl rfl (congrArg WR eA) rfl
theorem varR_lo (x:Variant) (s:WS):s.1.length ≤ (varR x s).1.length:=(varR_g x).lo s
theorem r47 (d:Api.Data):WrR 47 [.own 1000 0,.agg (dataC d)] (dataR d):=by
 intro s hb
 have bt5:((lenR d.variants.length (numR d.drop (numR d.params (numR d.module (nameR d.name s)))))).1.length ≤ mxR:=Nat.le_trans (eachR_lo varR_lo d.variants _) hb
 have bt4:((numR d.drop (numR d.params (numR d.module (nameR d.name s))))).1.length ≤ mxR:=lo_le (lenR_g _) bt5
 have bt3:((numR d.params (numR d.module (nameR d.name s)))).1.length ≤ mxR:=lo_le (numR_g _) bt4
 have bt2:((numR d.module (nameR d.name s))).1.length ≤ mxR:=lo_le (numR_g _) bt3
 have bt1:((nameR d.name s)).1.length ≤ mxR:=lo_le (numR_g _) bt2
 refine callsT_facts Tryz.func47 facts47 rfl fun hw ho => ?_
 have hwl:Wf (.sl (d.variants.map variantC)):=by have h:=hw.2.1; simp only [dataC,Wf,WfS] at h; simp only [Wf]; exact h.2.2.2.1
 refine wR (s) (r92 d.name) (bt1) rfl rfl ?_
 refine wR ((nameR d.name s)) (r49 d.module) (bt2) rfl rfl ?_
 refine wR ((numR d.module (nameR d.name s))) (r49 d.params) (bt3) rfl rfl ?_
 refine wR ((numR d.params (numR d.module (nameR d.name s)))) (r49 d.drop) (bt4) rfl rfl ?_
 refine wR ((numR d.drop (numR d.params (numR d.module (nameR d.name s))))) (r46 (d.variants).length) bt5 rfl (congrArg (fun q:Nat => [C.own 1000 0,IC q]) lenM) ?_
 refine loopN (d.variants).length 4 [] ((lenR d.variants.length (numR d.drop (numR d.params (numR d.module (nameR d.name s)))))) (fun _ => []) (fun q => WRL q) (fun k q => eachR (varR) ((d.variants).drop k) q = eachR (varR) (d.variants) ((lenR d.variants.length (numR d.drop (numR d.params (numR d.module (nameR d.name s))))))) rfl (same_keys rfl) trivial ⟨.inl ⟨_,rfl,.inl ⟨rfl,rfl⟩⟩,.inl ⟨_,rfl,.inl ⟨rfl,rfl⟩⟩,trivial⟩ (fun _ => rfl) (fun _ => rfl) ?_
 rintro kA sA hkA invA _ _ _
 refine brn_p (fun ltA => ?_) (fun geA => ?_)
 ·have ltA:kA < (d.variants).length:=by rw [lenM] at ltA; omega
  have mxA:(d.variants).length ≤ 9223372036854775807:=wf_lenM hwl
  obtain ⟨xA,hxA,hdA⟩:=drop_cons ltA
  refine brn_split (fun okA => ?_) (fun badA => ?_)
  ·have nxA:=each_step hdA okA invA
   have nbA:((varR) xA sA).1.length ≤ mxR:=Nat.le_trans (eachR_lo (varR_lo) _ _) (by rw [nxA]; exact hb)
   refine idxT hxA rfl rfl ?_
   refine wR (sA) (r92 xA.name) (lo_le (typesR_g xA.fields) nbA) rfl rfl ?_
   refine idxT hxA rfl rfl ?_
   refine wR (nameR xA.name sA) (r93 xA.fields) (nbA) rfl rfl ?_
   refine Fit.in64 (by omega) (by omega) ?_
   exact ⟨(kA + 1,(varR) xA sA),⟨ltA,nxA⟩,⟨nextI,trivial⟩,⟨.inl ⟨_,rfl,.inl ⟨rfl,rfl⟩⟩,.inl ⟨_,rfl,.inl ⟨rfl,rfl⟩⟩,trivial⟩,nextM ltA⟩
  ·have eA:sA = eachR (varR) (d.variants) ((lenR d.variants.length (numR d.drop (numR d.params (numR d.module (nameR d.name s)))))):=each_bad badA invA
   exact retO [1000,1001] rfl rfl (congrArg WR eA) rfl
 ·have geA:¬ kA < (d.variants).length:=by rw [lenM] at geA; omega
  have eA:sA = eachR (varR) (d.variants) ((lenR d.variants.length (numR d.drop (numR d.params (numR d.module (nameR d.name s)))))):=each_end geA invA
  exact retO [1000,1001] rfl rfl (congrArg WR eA) rfl
theorem insR_lo (x:Ins) (s:WS):s.1.length ≤ (insR x s).1.length:=(insR_g x).lo s
theorem r96 (b:Block):WrR 96 [.own 1000 0,.agg (blockC b)] (blockR b):=by
 intro s hb
 have bt4:(numR b.fin.a (numR b.fin.kind (listR insR b.code s))).1.length ≤ mxR:=lo_le (intsR_g b.fin.targets) hb
 have bt3:(numR b.fin.kind (listR insR b.code s)).1.length ≤ mxR:=lo_le (numR_g b.fin.a) bt4
 have bt2:(listR insR b.code s).1.length ≤ mxR:=lo_le (numR_g b.fin.kind) bt3
 have bt1:(lenR b.code.length s).1.length ≤ mxR:=Nat.le_trans (eachR_lo insR_lo b.code _) bt2
 refine callsT_facts Tryz.func96 facts96 rfl fun hw ho => ?_
 have hwl:Wf (.sl (b.code.map insC)):=by have h:=hw.2.1; simp only [blockC,Wf,WfS] at h; simp only [Wf]; exact h.1
 refine wR (s) (r46 (b.code).length) bt1 rfl (congrArg (fun q:Nat => [C.own 1000 0,IC q]) lenM) ?_
 refine loopN (b.code).length 4 [] (lenR b.code.length s) (fun _ => []) (fun q => WRL q) (fun k q => eachR (insR) ((b.code).drop k) q = eachR (insR) (b.code) (lenR b.code.length s)) rfl (same_keys rfl) trivial ⟨.inl ⟨_,rfl,.inl ⟨rfl,rfl⟩⟩,.inl ⟨_,rfl,.inl ⟨rfl,rfl⟩⟩,trivial⟩ (fun _ => rfl) (fun _ => rfl) ?_
 rintro kA sA hkA invA _ _ _
 refine brn_p (fun ltA => ?_) (fun geA => ?_)
 ·have ltA:kA < (b.code).length:=by rw [lenM] at ltA; omega
  have mxA:(b.code).length ≤ 9223372036854775807:=wf_lenM hwl
  obtain ⟨xA,hxA,hdA⟩:=drop_cons ltA
  refine brn_split (fun okA => ?_) (fun badA => ?_)
  ·have nxA:=each_step hdA okA invA
   have nbA:((insR) xA sA).1.length ≤ mxR:=Nat.le_trans (eachR_lo (insR_lo) _ _) (by rw [nxA]; exact bt2)
   refine idxT hxA rfl rfl ?_
   have bu7:((typesR xA.types (intsR xA.args (numR xA.n (numR xA.b (numR xA.a (numR xA.dst (numR xA.op sA)))))))).1.length ≤ mxR:=nbA
   have bu6:((intsR xA.args (numR xA.n (numR xA.b (numR xA.a (numR xA.dst (numR xA.op sA))))))).1.length ≤ mxR:=lo_le (typesR_g _) bu7
   have bu5:((numR xA.n (numR xA.b (numR xA.a (numR xA.dst (numR xA.op sA)))))).1.length ≤ mxR:=lo_le (intsR_g _) bu6
   have bu4:((numR xA.b (numR xA.a (numR xA.dst (numR xA.op sA))))).1.length ≤ mxR:=lo_le (numR_g _) bu5
   have bu3:((numR xA.a (numR xA.dst (numR xA.op sA)))).1.length ≤ mxR:=lo_le (numR_g _) bu4
   have bu2:((numR xA.dst (numR xA.op sA))).1.length ≤ mxR:=lo_le (numR_g _) bu3
   have bu1:((numR xA.op sA)).1.length ≤ mxR:=lo_le (numR_g _) bu2
   refine wR (sA) (r49 xA.op) (bu1) rfl rfl ?_
   refine wR ((numR xA.op sA)) (r49 xA.dst) (bu2) rfl rfl ?_
   refine wR ((numR xA.dst (numR xA.op sA))) (r49 xA.a) (bu3) rfl rfl ?_
   refine wR ((numR xA.a (numR xA.dst (numR xA.op sA)))) (r49 xA.b) (bu4) rfl rfl ?_
   refine wR ((numR xA.b (numR xA.a (numR xA.dst (numR xA.op sA))))) (r49 xA.n) (bu5) rfl rfl ?_
   refine wR ((numR xA.n (numR xA.b (numR xA.a (numR xA.dst (numR xA.op sA)))))) (r95 xA.args) (bu6) rfl rfl ?_
   refine wR ((intsR xA.args (numR xA.n (numR xA.b (numR xA.a (numR xA.dst (numR xA.op sA))))))) (r93 xA.types) (bu7) rfl rfl ?_
   refine Fit.in64 (by omega) (by omega) ?_
   exact ⟨(kA + 1,(insR) xA sA),⟨ltA,nxA⟩,⟨nextI,trivial⟩,⟨.inl ⟨_,rfl,.inl ⟨rfl,rfl⟩⟩,.inl ⟨_,rfl,.inl ⟨rfl,rfl⟩⟩,trivial⟩,nextM ltA⟩
  ·have eA:sA = eachR (insR) (b.code) (lenR b.code.length s):=each_bad badA invA
   have e:sA = listR insR b.code s:=eA
   refine wR (sA) (r49 b.fin.kind) (by rw [e]; exact bt3) rfl rfl ?_
   refine wR (numR b.fin.kind sA) (r49 b.fin.a) (by rw [e]; exact bt4) rfl rfl ?_
   refine wR (numR b.fin.a (numR b.fin.kind sA)) (r95 b.fin.targets) (by rw [e]; exact hb) rfl rfl ?_
   exact retO [1000,1001] rfl rfl (congrArg (fun q => WR (intsR b.fin.targets (numR b.fin.a (numR b.fin.kind q)))) e) rfl
 ·have geA:¬ kA < (b.code).length:=by rw [lenM] at geA; omega
  have eA:sA = eachR (insR) (b.code) (lenR b.code.length s):=each_end geA invA
  have e:sA = listR insR b.code s:=eA
  refine wR (sA) (r49 b.fin.kind) (by rw [e]; exact bt3) rfl rfl ?_
  refine wR (numR b.fin.kind sA) (r49 b.fin.a) (by rw [e]; exact bt4) rfl rfl ?_
  refine wR (numR b.fin.a (numR b.fin.kind sA)) (r95 b.fin.targets) (by rw [e]; exact hb) rfl rfl ?_
  exact retO [1000,1001] rfl rfl (congrArg (fun q => WR (intsR b.fin.targets (numR b.fin.a (numR b.fin.kind q)))) e) rfl
theorem lentR_lo (x:Lent) (s:WS):s.1.length ≤ (lentR x s).1.length:=(lentR_g x).lo s
theorem slotR_lo (x:Slot) (s:WS):s.1.length ≤ (slotR x s).1.length:=(slotR_g x).lo s
theorem r97 (l:List Slot):WrR 97 [.own 1000 0,.sl (l.map slotC)] (slotsR l):=by
 intro s hb
 have h1:(lenR l.length s).1.length ≤ mxR:=Nat.le_trans (eachR_lo slotR_lo l _) hb
 refine callsT_facts Tryz.func97 facts97 rfl fun hw ho => ?_
 refine wR (s) (r46 (l).length) h1 rfl (congrArg (fun q:Nat => [C.own 1000 0,IC q]) lenM) ?_
 refine loopN l.length 4 [] (lenR l.length s) (fun _ => []) (fun q => WRL q) (fun k q => eachR slotR (l.drop k) q = eachR slotR l (lenR l.length s)) rfl (same_keys rfl) trivial ⟨.inl ⟨_,rfl,.inl ⟨rfl,rfl⟩⟩,.inl ⟨_,rfl,.inl ⟨rfl,rfl⟩⟩,trivial⟩ (fun _ => rfl) (fun _ => rfl) ?_
 rintro kA sA hkA invA _ _ _
 refine brn_p (fun ltA => ?_) (fun geA => ?_)
 ·have ltA:kA < l.length:=by rw [lenM] at ltA; omega
  have mxA:l.length ≤ 9223372036854775807:=wf_lenM hw.2.1
  obtain ⟨xA,hxA,hdA⟩:=drop_cons ltA
  refine brn_split (fun okA => ?_) (fun badA => ?_)
  ·have nxA:=each_step hdA okA invA
   have nbA:(slotR xA sA).1.length ≤ mxR:=Nat.le_trans (eachR_lo slotR_lo _ _) (by rw [nxA]; exact hb)
   have hwA:Wf (.sl (xA.lent.map lentC)):=by
    have h:=wf_mem hw.2.1 (List.mem_of_getElem? hxA)
    simp only [slotC,WfS] at h
    exact h.2.2.2.2.2.2.1
   have bu5:((lenR xA.lent.length (numR xA.flag (numR xA.var (fullR xA.type (numR xA.state sA)))))).1.length ≤ mxR:=Nat.le_trans (eachR_lo lentR_lo xA.lent _) nbA
   have bu4:((numR xA.flag (numR xA.var (fullR xA.type (numR xA.state sA))))).1.length ≤ mxR:=lo_le (lenR_g _) bu5
   have bu3:((numR xA.var (fullR xA.type (numR xA.state sA)))).1.length ≤ mxR:=lo_le (numR_g _) bu4
   have bu2:((fullR xA.type (numR xA.state sA))).1.length ≤ mxR:=lo_le (numR_g _) bu3
   have bu1:((numR xA.state sA)).1.length ≤ mxR:=lo_le (fullR_g _) bu2
   refine idxT hxA rfl rfl ?_
   refine wR (sA) (r49 xA.state) (bu1) rfl rfl ?_
   refine idxT hxA rfl rfl ?_
   refine wR ((numR xA.state sA)) (r94f xA.type) (bu2) rfl rfl ?_
   refine idxT hxA rfl rfl ?_
   refine wR ((fullR xA.type (numR xA.state sA))) (r49 xA.var) (bu3) rfl rfl ?_
   refine idxT hxA rfl rfl ?_
   refine wR ((numR xA.var (fullR xA.type (numR xA.state sA)))) (r49 xA.flag) (bu4) rfl rfl ?_
   refine idxT hxA rfl rfl ?_
   refine wR ((numR xA.flag (numR xA.var (fullR xA.type (numR xA.state sA))))) (r46 (xA.lent).length) bu5 rfl (congrArg (fun q:Nat => [C.own 1000 0,IC q]) lenM) ?_
   refine loopN (xA.lent).length 5 [] ((lenR xA.lent.length (numR xA.flag (numR xA.var (fullR xA.type (numR xA.state sA)))))) (fun _ => []) (fun q => WRL q) (fun k q => eachR (lentR) ((xA.lent).drop k) q = eachR (lentR) (xA.lent) ((lenR xA.lent.length (numR xA.flag (numR xA.var (fullR xA.type (numR xA.state sA))))))) rfl (same_keys rfl) trivial ⟨.inl ⟨_,rfl,.inl ⟨rfl,rfl⟩⟩,.inl ⟨_,rfl,.inl ⟨rfl,rfl⟩⟩,trivial⟩ (fun _ => rfl) (fun _ => rfl) ?_
   rintro kB sB hkB invB _ _ _
   refine idxT hxA rfl rfl ?_
   refine brn_p (fun ltB => ?_) (fun geB => ?_)
   ·have ltB:kB < (xA.lent).length:=by rw [lenM] at ltB; omega
    have mxB:(xA.lent).length ≤ 9223372036854775807:=wf_lenM hwA
    obtain ⟨xB,hxB,hdB⟩:=drop_cons ltB
    refine brn_split (fun okB => ?_) (fun badB => ?_)
    ·have nxB:=each_step hdB okB invB
     have nbB:((lentR) xB sB).1.length ≤ mxR:=Nat.le_trans (eachR_lo (lentR_lo) _ _) (by rw [nxB]; exact nbA)
     have bv3:((numR (bitI xB.re) (numR (bitI xB.excl) (numR xB.slot sB)))).1.length ≤ mxR:=nbB
     have bv2:((numR (bitI xB.excl) (numR xB.slot sB))).1.length ≤ mxR:=lo_le (numR_g _) bv3
     have bv1:((numR xB.slot sB)).1.length ≤ mxR:=lo_le (numR_g _) bv2
     refine idxT hxA rfl rfl ?_
     refine idxT hxB rfl rfl ?_
     refine wR (sB) (r49 xB.slot) (bv1) rfl rfl ?_
     refine idxT hxA rfl rfl ?_
     refine idxT hxB rfl rfl ?_
     refine wR ((numR xB.slot sB)) (r138 xB.excl) (bv2) rfl rfl ?_
     refine idxT hxA rfl rfl ?_
     refine idxT hxB rfl rfl ?_
     refine wR ((numR (bitI xB.excl) (numR xB.slot sB))) (r138 xB.re) (bv3) rfl rfl ?_
     refine Fit.in64 (by omega) (by omega) ?_
     exact ⟨(kB + 1,(lentR) xB sB),⟨ltB,nxB⟩,⟨nextI,trivial⟩,⟨.inl ⟨_,rfl,.inl ⟨rfl,rfl⟩⟩,.inl ⟨_,rfl,.inl ⟨rfl,rfl⟩⟩,trivial⟩,nextM ltB⟩
    ·have eB:sB = eachR (lentR) (xA.lent) ((lenR xA.lent.length (numR xA.flag (numR xA.var (fullR xA.type (numR xA.state sA)))))):=each_bad badB invB
     have e:sB = slotR xA sA:=eB
     refine Fit.in64 (by omega) (by omega) ?_
     exact ⟨(kA + 1,sB),⟨ltA,by rw [e]; exact nxA⟩,⟨nextI,trivial⟩,⟨.inl ⟨_,rfl,.inl ⟨rfl,rfl⟩⟩,.inl ⟨_,rfl,.inl ⟨rfl,rfl⟩⟩,trivial⟩,nextM ltA⟩
   ·have geB:¬ kB < (xA.lent).length:=by rw [lenM] at geB; omega
    have eB:sB = eachR (lentR) (xA.lent) ((lenR xA.lent.length (numR xA.flag (numR xA.var (fullR xA.type (numR xA.state sA)))))):=each_end geB invB
    have e:sB = slotR xA sA:=eB
    refine Fit.in64 (by omega) (by omega) ?_
    exact ⟨(kA + 1,sB),⟨ltA,by rw [e]; exact nxA⟩,⟨nextI,trivial⟩,⟨.inl ⟨_,rfl,.inl ⟨rfl,rfl⟩⟩,.inl ⟨_,rfl,.inl ⟨rfl,rfl⟩⟩,trivial⟩,nextM ltA⟩
  ·have eA:sA = eachR slotR l (lenR l.length s):=each_bad badA invA
   exact retO [1000,1001] rfl rfl (congrArg WR eA) rfl
 ·have geA:¬ kA < l.length:=by rw [lenM] at geA; omega
  have eA:sA = eachR slotR l (lenR l.length s):=each_end geA invA
  exact retO [1000,1001] rfl rfl (congrArg WR eA) rfl
theorem blockR_lo (x:Block) (s:WS):s.1.length ≤ (blockR x s).1.length:=(blockR_g x).lo s
theorem slotsR_lo (x:List Slot) (s:WS):s.1.length ≤ (slotsR x s).1.length:=(slotsR_g x).lo s
theorem r48 (r:Rout):WrR 48 [.own 1000 0,.agg (routC r)] (routR r):=by
 intro s hb
 have c1:(lenR r.entry.length (listR blockR r.blocks (numR r.slots (intsR r.ties (fullR r.result (typesR r.params (nameR r.name s))))))).1.length ≤ mxR:=Nat.le_trans (eachR_lo slotsR_lo r.entry _) hb
 have c0:(listR blockR r.blocks (numR r.slots (intsR r.ties (fullR r.result (typesR r.params (nameR r.name s)))))).1.length ≤ mxR:=lo_le (lenR_g _) c1
 have bt6:((lenR r.blocks.length (numR r.slots (intsR r.ties (fullR r.result (typesR r.params (nameR r.name s))))))).1.length ≤ mxR:=Nat.le_trans (eachR_lo blockR_lo r.blocks _) c0
 have bt5:((numR r.slots (intsR r.ties (fullR r.result (typesR r.params (nameR r.name s)))))).1.length ≤ mxR:=lo_le (lenR_g _) bt6
 have bt4:((intsR r.ties (fullR r.result (typesR r.params (nameR r.name s))))).1.length ≤ mxR:=lo_le (numR_g _) bt5
 have bt3:((fullR r.result (typesR r.params (nameR r.name s)))).1.length ≤ mxR:=lo_le (intsR_g _) bt4
 have bt2:((typesR r.params (nameR r.name s))).1.length ≤ mxR:=lo_le (fullR_g _) bt3
 have bt1:((nameR r.name s)).1.length ≤ mxR:=lo_le (typesR_g _) bt2
 refine callsT_facts Tryz.func48 facts48 rfl fun hw ho => ?_
 have hw1:Wf (.sl (r.blocks.map blockC)):=hw.2.1.2.2.2.2.2.2.2.1
 have hw2:Wf (.sl (r.entry.map slotsC)):=hw.2.1.2.2.2.2.2.2.2.2.1
 refine wR (s) (r92 r.name) (bt1) rfl rfl ?_
 refine wR ((nameR r.name s)) (r93 r.params) (bt2) rfl rfl ?_
 refine wR ((typesR r.params (nameR r.name s))) (r94f r.result) (bt3) rfl rfl ?_
 refine wR ((fullR r.result (typesR r.params (nameR r.name s)))) (r95 r.ties) (bt4) rfl rfl ?_
 refine wR ((intsR r.ties (fullR r.result (typesR r.params (nameR r.name s))))) (r49 r.slots) (bt5) rfl rfl ?_
 refine wR ((numR r.slots (intsR r.ties (fullR r.result (typesR r.params (nameR r.name s)))))) (r46 (r.blocks).length) bt6 rfl (congrArg (fun q:Nat => [C.own 1000 0,IC q]) lenM) ?_
 refine loopN (r.blocks).length 4 [] ((lenR r.blocks.length (numR r.slots (intsR r.ties (fullR r.result (typesR r.params (nameR r.name s))))))) (fun _ => []) (fun q => WRL q) (fun k q => eachR (blockR) ((r.blocks).drop k) q = eachR (blockR) (r.blocks) ((lenR r.blocks.length (numR r.slots (intsR r.ties (fullR r.result (typesR r.params (nameR r.name s)))))))) rfl (same_keys rfl) trivial ⟨.inl ⟨_,rfl,.inl ⟨rfl,rfl⟩⟩,.inl ⟨_,rfl,.inl ⟨rfl,rfl⟩⟩,trivial⟩ (fun _ => rfl) (fun _ => rfl) ?_
 rintro kA sA hkA invA _ _ _
 refine brn_p (fun ltA => ?_) (fun geA => ?_)
 ·have ltA:kA < (r.blocks).length:=by rw [lenM] at ltA; omega
  have mxA:(r.blocks).length ≤ 9223372036854775807:=wf_lenM hw1
  obtain ⟨xA,hxA,hdA⟩:=drop_cons ltA
  refine brn_split (fun okA => ?_) (fun badA => ?_)
  ·have nxA:=each_step hdA okA invA
   have nbA:((blockR) xA sA).1.length ≤ mxR:=Nat.le_trans (eachR_lo (blockR_lo) _ _) (by rw [nxA]; exact c0)
   refine idxT hxA rfl rfl ?_
   refine wR (sA) (r96 xA) (nbA) rfl rfl ?_
   refine Fit.in64 (by omega) (by omega) ?_
   exact ⟨(kA + 1,(blockR) xA sA),⟨ltA,nxA⟩,⟨nextI,trivial⟩,⟨.inl ⟨_,rfl,.inl ⟨rfl,rfl⟩⟩,.inl ⟨_,rfl,.inl ⟨rfl,rfl⟩⟩,trivial⟩,nextM ltA⟩
  ·have eA:sA = eachR (blockR) (r.blocks) ((lenR r.blocks.length (numR r.slots (intsR r.ties (fullR r.result (typesR r.params (nameR r.name s))))))):=each_bad badA invA
   have e:sA = listR blockR r.blocks (numR r.slots (intsR r.ties (fullR r.result (typesR r.params (nameR r.name s))))):=eA
   have d1:(lenR r.entry.length sA).1.length ≤ mxR:=by rw [e]; exact c1
   have d2:(eachR slotsR r.entry (lenR r.entry.length sA)).1.length ≤ mxR:=by rw [e]; exact hb
   refine wR (sA) (r46 (r.entry).length) d1 rfl (congrArg (fun q:Nat => [C.own 1000 0,IC q]) lenM) ?_
   refine loopN (r.entry).length 5 [] (lenR r.entry.length sA) (fun _ => []) (fun q => WRL q) (fun k q => eachR (slotsR) ((r.entry).drop k) q = eachR (slotsR) (r.entry) (lenR r.entry.length sA)) rfl (same_keys rfl) trivial ⟨.inl ⟨_,rfl,.inl ⟨rfl,rfl⟩⟩,.inl ⟨_,rfl,.inl ⟨rfl,rfl⟩⟩,trivial⟩ (fun _ => rfl) (fun _ => rfl) ?_
   rintro kB sB hkB invB _ _ _
   refine brn_p (fun ltB => ?_) (fun geB => ?_)
   ·have ltB:kB < (r.entry).length:=by rw [lenM] at ltB; omega
    have mxB:(r.entry).length ≤ 9223372036854775807:=wf_lenM hw2
    obtain ⟨xB,hxB,hdB⟩:=drop_cons ltB
    refine brn_split (fun okB => ?_) (fun badB => ?_)
    ·have nxB:=each_step hdB okB invB
     have nbB:((slotsR) xB sB).1.length ≤ mxR:=Nat.le_trans (eachR_lo (slotsR_lo) _ _) (by rw [nxB]; exact d2)
     refine idxT hxB rfl rfl ?_
     refine wR (sB) (r97 xB) (nbB) rfl rfl ?_
     refine Fit.in64 (by omega) (by omega) ?_
     exact ⟨(kB + 1,(slotsR) xB sB),⟨ltB,nxB⟩,⟨nextI,trivial⟩,⟨.inl ⟨_,rfl,.inl ⟨rfl,rfl⟩⟩,.inl ⟨_,rfl,.inl ⟨rfl,rfl⟩⟩,trivial⟩,nextM ltB⟩
    ·have eB:sB = eachR (slotsR) (r.entry) (lenR r.entry.length sA):=each_bad badB invB
     exact retO [1000,1001] rfl rfl (congrArg WR (eB.trans (congrArg (listR slotsR r.entry) e))) rfl
   ·have geB:¬ kB < (r.entry).length:=by rw [lenM] at geB; omega
    have eB:sB = eachR (slotsR) (r.entry) (lenR r.entry.length sA):=each_end geB invB
    exact retO [1000,1001] rfl rfl (congrArg WR (eB.trans (congrArg (listR slotsR r.entry) e))) rfl
 ·have geA:¬ kA < (r.blocks).length:=by rw [lenM] at geA; omega
  have eA:sA = eachR (blockR) (r.blocks) ((lenR r.blocks.length (numR r.slots (intsR r.ties (fullR r.result (typesR r.params (nameR r.name s))))))):=each_end geA invA
  have e:sA = listR blockR r.blocks (numR r.slots (intsR r.ties (fullR r.result (typesR r.params (nameR r.name s))))):=eA
  have d1:(lenR r.entry.length sA).1.length ≤ mxR:=by rw [e]; exact c1
  have d2:(eachR slotsR r.entry (lenR r.entry.length sA)).1.length ≤ mxR:=by rw [e]; exact hb
  refine wR (sA) (r46 (r.entry).length) d1 rfl (congrArg (fun q:Nat => [C.own 1000 0,IC q]) lenM) ?_
  refine loopN (r.entry).length 5 [] (lenR r.entry.length sA) (fun _ => []) (fun q => WRL q) (fun k q => eachR (slotsR) ((r.entry).drop k) q = eachR (slotsR) (r.entry) (lenR r.entry.length sA)) rfl (same_keys rfl) trivial ⟨.inl ⟨_,rfl,.inl ⟨rfl,rfl⟩⟩,.inl ⟨_,rfl,.inl ⟨rfl,rfl⟩⟩,trivial⟩ (fun _ => rfl) (fun _ => rfl) ?_
  rintro kB sB hkB invB _ _ _
  refine brn_p (fun ltB => ?_) (fun geB => ?_)
  ·have ltB:kB < (r.entry).length:=by rw [lenM] at ltB; omega
   have mxB:(r.entry).length ≤ 9223372036854775807:=wf_lenM hw2
   obtain ⟨xB,hxB,hdB⟩:=drop_cons ltB
   refine brn_split (fun okB => ?_) (fun badB => ?_)
   ·have nxB:=each_step hdB okB invB
    have nbB:((slotsR) xB sB).1.length ≤ mxR:=Nat.le_trans (eachR_lo (slotsR_lo) _ _) (by rw [nxB]; exact d2)
    refine idxT hxB rfl rfl ?_
    refine wR (sB) (r97 xB) (nbB) rfl rfl ?_
    refine Fit.in64 (by omega) (by omega) ?_
    exact ⟨(kB + 1,(slotsR) xB sB),⟨ltB,nxB⟩,⟨nextI,trivial⟩,⟨.inl ⟨_,rfl,.inl ⟨rfl,rfl⟩⟩,.inl ⟨_,rfl,.inl ⟨rfl,rfl⟩⟩,trivial⟩,nextM ltB⟩
   ·have eB:sB = eachR (slotsR) (r.entry) (lenR r.entry.length sA):=each_bad badB invB
    exact retO [1000,1001] rfl rfl (congrArg WR (eB.trans (congrArg (listR slotsR r.entry) e))) rfl
  ·have geB:¬ kB < (r.entry).length:=by rw [lenM] at geB; omega
   have eB:sB = eachR (slotsR) (r.entry) (lenR r.entry.length sA):=each_end geB invB
   exact retO [1000,1001] rfl rfl (congrArg WR (eB.trans (congrArg (listR slotsR r.entry) e))) rfl
def RR (s:WS):List TO:=[.box 71 [.sl (bcells s.1),.bool s.2]]
structure Got {α:Type} (e:α → Enc) (bulk:α → Nat) (s:WS) (x:α) (s':WS):Prop where
 le:s'.1.length ≤ s.1.length
 ok:s'.2 = false → s.2 = false ∧ bulk x + 1 + 2 * s'.1.length ≤ 2 * s.1.length
 code:∀ y r,s = ((e y).1 ++ r,false) → (e y).2 = true → x = y ∧ s' = (r,false)
def GotR {α:Type} (e:α → Enc) (bulk:α → Nat) (cell:α → C) (s:WS):List TO → C → Prop:=fun Mo v => ∃ x s',Mo = RR s' ∧ v = cell x ∧ Got e bulk s x s'
def RrdR {α:Type} (f:Nat) (args:List C) (e:α → Enc) (bulk:α → Nat) (cell:α → C):Prop:=∀ s:WS,s.1.length ≤ mxR → CallsT PZ f args (RR s) (GotR e bulk cell s)
theorem qN {α:Type} {f:Nat} {args args':List C} {e:α → Enc} {bulk:α → Nat} {cell:α → C} {L:TL} {ρ:TEnv} {K:TL → TEnv → C → Prop} (s:WS) (h:RrdR f args' e bulk cell) (hb:s.1.length ≤ mxR) (hs:L.sub [1000] = some (RR s))
  (ha:(args.map fun c => c.canA.ren (toIn [1000] 1000)) = args')
  (k:∀ x s',Got e bulk s x s' → Wf (cell x) → K ((L.dels [1000]).puts [1000] (RR s')) ρ ((cell x).ren (fromIn [1000])).slt):CallT PZ f args L ρ K:=by
 subst ha
 refine ⟨[],[1000],[1000],L,_,_,.inl rfl,hs,rfl,rfl,rfl,rfl,h s hb,?_⟩
 rintro v Mo ⟨x,s',rfl,rfl,hg⟩ hw hwo
 refine ⟨rfl,?_⟩
 rw [show rowsOf L [1000] = [] from rows1 hs]
 exact k x s' hg hw
structure NumI (s:WS) (k:Nat) (rest:List UInt8) (z:Nat):Prop where
 k6:k ≤ 6
 zb:z < 128 ^ k
 len:rest.length + k = s.1.length
 code:∀ y r,s.1 = vint (zz y) ++ r → zz y ≤ 2199023255552 → ∃ w,rest = vint w ++ r ∧ zz y = z + w * 128 ^ k ∧ (0 < w ∨ k = 0)
theorem zz_le {n:Int} (h:(numE n).2 = true):zz n ≤ 2199023255552 ∧ (numE n).1 = vint (zz n):=by
 unfold numE at h ⊢
 split at h
 ·rename_i hb
  rw [if_pos hb]
  refine ⟨?_,rfl⟩
  unfold zz; split <;> omega
 ·cases h
theorem pow6 {k:Nat} (h:k ≤ 6):128 ^ k ≤ 4398046511104:=by
 have:128 ^ k ≤ 128 ^ 6:=Nat.pow_le_pow_right (by omega) h
 omega
theorem num_next {s:WS} {k z:Nat} {c:UInt8} {rest:List UInt8} (h:NumI s k (c :: rest) z) (hk:k < 6) (hc:128 ≤ c.toNat):NumI s (k + 1) rest (z + 128 ^ k * (c.toNat % 128)):=by
 have hlt:=c.toNat_lt
 refine ⟨by omega,?_,by have:=h.len; simp only [List.length_cons] at this; omega,fun y r hy hb => ?_⟩
 ·have h1:128 ^ k * (c.toNat % 128) ≤ 128 ^ k * 127:=Nat.mul_le_mul_left _ (by omega)
  have:=h.zb
  rw [Nat.pow_succ]
  omega
 ·obtain ⟨w,h1,h2,h3⟩:=h.code y r hy hb
  rw [vint] at h1
  split at h1
  ·rename_i hw
   simp only [List.cons_append,List.nil_append,List.cons.injEq] at h1
   have:=congrArg UInt8.toNat h1.1
   rw [u8_of (by omega)] at this
   omega
  ·rename_i hw
   simp only [List.cons_append,List.cons.injEq] at h1
   have hm:w % 128 < 128:=Nat.mod_lt _ (by omega)
   have:=congrArg UInt8.toNat h1.1
   rw [u8_of (by omega)] at this
   refine ⟨w / 128,h1.2,?_,.inl (by omega)⟩
   rw [h2,this,Nat.add_mod_left,Nat.mod_mod,Nat.pow_succ]
   have e:w = w % 128 + 128 * (w / 128):=by omega
   calc z + w * 128 ^ k = z + (w % 128 + 128 * (w / 128)) * 128 ^ k:=by rw [← e]
    _ = z + 128 ^ k * (w % 128) + w / 128 * (128 ^ k * 128):=by
     rw [Nat.add_mul,Nat.mul_comm (w % 128),Nat.mul_comm (128:Nat) (w / 128),Nat.mul_assoc,Nat.mul_comm 128 (128 ^ k),Nat.add_assoc]
theorem num_last {s:WS} {k z:Nat} {c:UInt8} {rest:List UInt8} (hs:s.2 = false) (h:NumI s k (c :: rest) z) (hc:c.toNat < 128):Got numE (fun _ => 1) s (unz (z + 128 ^ k * (c.toNat % 128))) (rest,false):=by
 have hl:=h.len
 simp only [List.length_cons] at hl
 refine ⟨by simp only; omega,fun _ => ⟨hs,by simp only; omega⟩,fun y r hy he => ?_⟩
 obtain ⟨hb,e1⟩:=zz_le he
 rw [e1] at hy
 obtain ⟨w,h1,h2,h3⟩:=h.code y r (by rw [hy]) hb
 rw [vint] at h1
 split at h1
 ·rename_i hw
  simp only [List.cons_append,List.nil_append,List.cons.injEq] at h1
  have:=congrArg UInt8.toNat h1.1
  rw [u8_of (by omega)] at this
  refine ⟨?_,by rw [h1.2]⟩
  rw [this,Nat.mod_eq_of_lt hw,Nat.mul_comm,← h2,unz_zz]
 ·rename_i hw
  simp only [List.cons_append,List.cons.injEq] at h1
  have:=congrArg UInt8.toNat h1.1
  have hm:w % 128 < 128:=Nat.mod_lt _ (by omega)
  rw [u8_of (by omega)] at this
  omega
theorem num_fail {s:WS} {rest:List UInt8} {n:Int} (hr:rest.length ≤ s.1.length) (h:∀ y r,s = ((numE y).1 ++ r,false) → (numE y).2 = true → False):Got numE (fun _ => 1) s n (rest,true) :=
 ⟨hr,fun h => (by cases h),fun y r h1 h2 => (h y r h1 h2).elim⟩
theorem retQ {α:Type} {e:α → Enc} {bulk:α → Nat} {cell:α → C} {s:WS} {Lin Mo:List TO} {L:TL} {v:C} (x:α) (s':WS) (hs:L.sub [1000] = some Mo) (hc:(T.nodup? [1000] && boxesAt Lin (List.range' 1000 Lin.length) [1000]) = true)
  (hl:Mo.map (TO.mapC (C.ren (toIn [1000] 1000))) = RR s') (he:v.canR.ren (toIn [1000] 1000) = cell x) (h:Got e bulk s x s'):RetT Lin L v (GotR e bulk cell s) :=
 retR [1000] hs hc hl he ⟨x,s',rfl,rfl,h⟩
theorem num_out {s:WS} {rest:List UInt8} {z k:Nat} (h:NumI s k rest z) (h6:¬ k < 6) (y:Int) (r:List UInt8) (hy:s = ((numE y).1 ++ r,false)) (he:(numE y).2 = true):False:=by
 obtain ⟨hb,e1⟩:=zz_le he
 rw [e1] at hy
 have hk:k = 6:=by have:=h.k6; omega
 subst hk
 obtain ⟨w,_,h2,h3⟩:=h.code y r (by rw [hy]) hb
 have:0 < w:=by omega
 omega
theorem num_nil {s:WS} {z k:Nat} (h:NumI s k [] z) (y:Int) (r:List UInt8) (hy:s = ((numE y).1 ++ r,false)) (he:(numE y).2 = true):False:=by
 obtain ⟨hb,e1⟩:=zz_le he
 rw [e1] at hy
 obtain ⟨w,h1,_,_⟩:=h.code y r (by rw [hy]) hb
 rw [vint] at h1
 split at h1 <;> simp at h1
theorem q37:RrdR 37 [.own 1000 0] numE (fun _ => 1) IC:=by
 intro s hb
 obtain ⟨p,b⟩:=s
 cases b with
 | true =>
  refine callsT_facts Tryz.func37 facts37 rfl fun hw ho => ?_
  refine loopN 6 5 [] () (fun _ => []) (fun _ => [(1000,.box 71 [.sl (bcells p),.bool true])]) (fun k _ => k = 0) rfl (same_keys rfl) trivial ⟨.inl ⟨_,rfl,.inl ⟨rfl,rfl⟩⟩,trivial⟩ (fun _ => rfl) (fun _ => rfl) ?_
  rintro k ⟨⟩ hk hk0 _ _ _
  refine brn_p (fun h1 => ?_) (fun h1 => absurd (by omega) h1)
  refine retQ 0 (p,true) rfl rfl rfl rfl (num_fail (Nat.le_refl _) fun y r hy _ => by cases hy)
 | false =>
  have hpl:p.length ≤ 70368744177664:=hb
  refine callsT_facts Tryz.func37 facts37 rfl fun hw ho => ?_
  refine loopN 6 5 [3,4] ((0,1,p):Nat × Nat × List UInt8) (fun q => [.int .i64 q.1,.int .i64 q.2.1]) (fun q => [(1000,.box 71 [.sl (bcells q.2.2),.bool false])])
   (fun k q => NumI (p,false) k q.2.2 q.1 ∧ q.2.1 = 128 ^ k) ⟨⟨by omega,by simp,rfl,fun y r hy _ => ⟨zz y,hy,by simp,.inr rfl⟩⟩,rfl⟩ (same_keys rfl) ⟨same_keys rfl,same_keys rfl,trivial⟩ ⟨.inl ⟨_,rfl,.inl ⟨rfl,rfl⟩⟩,trivial⟩ (fun _ => rfl) (fun _ => rfl) ?_
  rintro k ⟨z,fac,rest⟩ hk ⟨hi,hf⟩ _ _ _
  simp only at hi hf
  refine brn_p (fun h1 => ?_) (fun h1 => ?_)
  ·refine brn_p (fun h2 => ?_) (fun h2 => ?_)
   ·have hr:rest = []:=by
     have h2:((bcells rest).length:Int) = 0:=h2
     rw [bcells_len] at h2
     exact List.eq_nil_of_length_eq_zero (by omega)
    refine retQ 0 (rest,true) rfl rfl rfl rfl (num_fail (by have:=hi.len; simp only at this ⊢; omega) fun y r hy he => ?_)
    rw [hr] at hi
    exact num_nil hi y r hy he
   ·have h2:¬ ((bcells rest).length:Int) = 0:=h2
    rw [bcells_len] at h2
    have hk6:k < 6:=by omega
    have hlen:=hi.len
    simp only at hlen
    obtain ⟨c,rest',rfl⟩:∃ c rest',rest = c :: rest':=by
     cases rest with
     | nil => simp at h2
     | cons c r => exact ⟨c,r,rfl⟩
    have hcb:=c.toNat_lt
    have hzb:=hi.zb
    have hfb:=pow6 (k:=k) (by omega)
    have hfb2:=pow6 (k:=k + 1) (by omega)
    have hm:fac * (c.toNat % 128) ≤ fac * 127:=Nat.mul_le_mul_left _ (by omega)
    have hz2:z + fac * (c.toNat % 128) < 128 ^ (k + 1):=by rw [hf] at hm ⊢; rw [Nat.pow_succ]; omega
    have hpow:128 ^ (k + 1) = 128 * fac:=by rw [hf,Nat.pow_succ,Nat.mul_comm]
    have e1:(c.toNat:Int).tmod 128 = ((c.toNat % 128:Nat):Int):=rfl
    have e2:((bcells (c :: rest')).drop (1:Int).toNat).take (((bcells (c :: rest')).length:Int).toNat - (1:Int).toNat) = bcells rest':=by
     rw [bcells_slice,bcells_len]
     simp
    refine idxB (bs:=c :: rest') (k:=0) rfl ?_
    refine Fit.in64 (by omega) (by omega) ?_
    refine SlcT.mk (by omega) (by show (1:Int) ≤ ((bcells (c :: rest')).length:Int); rw [bcells_len]; simp only [List.length_cons]; omega) (Int.le_refl _) bcells_sz ?_
    refine NonZ.mk (by omega) ?_
    refine Fit.to (m:=((fac * (c.toNat % 128):Nat):Int)) (by show IntKind.wrap .i64 ((fac:Int) * ((c.toNat % 128:Nat):Int)) = _; rw [← Int.natCast_mul]; exact wrap64_id (by omega) (by omega)) ?_
    refine Fit.to (m:=((z + fac * (c.toNat % 128):Nat):Int)) (by show IntKind.wrap .i64 ((z:Int) + ((fac * (c.toNat % 128):Nat):Int)) = _; rw [← Int.natCast_add]; exact wrap64_id (by omega) (by omega)) ?_
    refine Fit.to (m:=((fac * 128:Nat):Int)) (by show IntKind.wrap .i64 ((fac:Int) * 128) = _; rw [show (fac:Int) * 128 = ((fac * 128:Nat):Int) by rw [Int.natCast_mul]; rfl]; exact wrap64_id (by omega) (by omega)) ?_
    refine brn_p (fun h3 => ?_) (fun h3 => ?_)
    ·have hc:c.toNat < 128:=by have:(c.toNat:Int) < 128:=h3; omega
     have hgot:=num_last (s:=(p,false)) rfl hi hc
     rw [← hf] at hgot
     refine NonZ.mk (by omega) ?_
     refine brn_p (fun h4 => ?_) (fun h4 => ?_)
     ·have h4:((z + fac * (c.toNat % 128):Nat):Int).tmod 2 = 1:=h4
      rw [show ((z + fac * (c.toNat % 128):Nat):Int).tmod 2 = (((z + fac * (c.toNat % 128)) % 2:Nat):Int) from rfl] at h4
      refine Fit.in64 (by omega) (by omega) ?_
      refine Fit.to (m:=-(((z + fac * (c.toNat % 128):Nat):Int) + 1)) (by rw [wrap64_id (by omega) (by omega)]; omega) ?_
      refine NonZ.mk (by omega) ?_
      refine Fit.to (m:=unz (z + fac * (c.toNat % 128))) (by
       rw [unz,if_neg (by omega),Int.neg_tdiv,show (((z + fac * (c.toNat % 128):Nat):Int) + 1).tdiv 2 = (((z + fac * (c.toNat % 128) + 1) / 2:Nat):Int) from rfl,wrap64_id (by omega) (by omega)]
       omega) ?_
      exact retQ _ (rest',false) rfl rfl (congrArg (fun q => [TO.box 71 [.sl q,.bool false]]) e2) rfl hgot
     ·have h4:¬ ((z + fac * (c.toNat % 128):Nat):Int).tmod 2 = 1:=h4
      rw [show ((z + fac * (c.toNat % 128):Nat):Int).tmod 2 = (((z + fac * (c.toNat % 128)) % 2:Nat):Int) from rfl] at h4
      refine NonZ.mk (by omega) ?_
      refine Fit.to (m:=unz (z + fac * (c.toNat % 128))) (by
       rw [unz,if_pos (by omega),show (((z + fac * (c.toNat % 128):Nat):Int)).tdiv 2 = (((z + fac * (c.toNat % 128)) / 2:Nat):Int) from rfl,wrap64_id (by omega) (by omega)]) ?_
      exact retQ _ (rest',false) rfl rfl (congrArg (fun q => [TO.box 71 [.sl q,.bool false]]) e2) rfl hgot
    ·have hc:128 ≤ c.toNat:=by have:¬ (c.toNat:Int) < 128:=h3; omega
     have hnx:=num_next hi hk6 hc
     rw [← hf] at hnx
     refine Fit.in64 (by omega) (by omega) ?_
     exact ⟨(k + 1,(z + fac * (c.toNat % 128),fac * 128,rest')),⟨by omega,hnx,(Nat.mul_comm fac 128).trans hpow.symm⟩,⟨nextI,same_keys rfl,same_keys rfl,trivial⟩,⟨.inl ⟨_,rfl,.inl ⟨congrArg (fun q => TO.box 71 [.sl q,.bool false]) e2,rfl⟩⟩,trivial⟩,nextM hk6⟩
  ·refine retQ 0 (rest,true) rfl rfl rfl rfl (num_fail (by have:=hi.len; simp only at this ⊢; omega) fun y r hy he => num_out hi (by omega) y r hy he)
theorem andE_nil (a:Enc):andE a okE = a:=by
 obtain ⟨p,b⟩:=a
 cases b <;> simp [andE,okE]
theorem Got.pair {α β:Type} {e1:α → Enc} {e2:β → Enc} {b1:α → Nat} {b2:β → Nat} {s s1 s2:WS} {x:α} {y:β} (h:Got e1 b1 s x s1) (k:Got e2 b2 s1 y s2) :
  Got (fun p:α × β => andE (e1 p.1) (e2 p.2)) (fun p => b1 p.1 + b2 p.2 + 1) s (x,y) s2:=by
 refine ⟨Nat.le_trans k.le h.le,fun hs => ?_,fun p r hp he => ?_⟩
 ·obtain ⟨k1,k2⟩:=k.ok hs
  obtain ⟨h1,h2⟩:=h.ok k1
  exact ⟨h1,by simp only; omega⟩
 ·obtain ⟨he1,he2⟩:=andE_t.1 he
  obtain ⟨rfl,h2⟩:=h.code p.1 ((e2 p.2).1 ++ r) (by rw [hp,andE_1 he1,List.append_assoc]) he1
  obtain ⟨rfl,k2⟩:=k.code p.2 r h2 he2
  exact ⟨rfl,k2⟩
theorem Got.map {α β:Type} {e:α → Enc} {b:α → Nat} {e':β → Enc} {b':β → Nat} {s s':WS} {x:α} (f:α → β) (fi:β → α) (h:Got e b s x s') (he:∀ y,e' y = e (fi y)) (hf:∀ y,f (fi y) = y) (hb:b' (f x) ≤ b x):Got e' b' s (f x) s':=by
 refine ⟨h.le,fun hs => ?_,fun y r hy hk => ?_⟩
 ·obtain ⟨h1,h2⟩:=h.ok hs
  exact ⟨h1,by omega⟩
 ·rw [he] at hy hk
  obtain ⟨h1,h2⟩:=h.code (fi y) r hy hk
  exact ⟨by rw [h1,hf],h2⟩
structure GotN (most:Int) (s:WS) (n:Nat) (s':WS):Prop where
 le:s'.1.length ≤ s.1.length
 nm:n ≠ 0 → (n:Int) ≤ most
 nl:n ≤ s'.1.length
 ok:s'.2 = false → s.2 = false ∧ 2 + 2 * s'.1.length ≤ 2 * s.1.length
 code:∀ (y:Nat) r,s = ((numE y).1 ++ r,false) → (numE y).2 = true → (y:Int) ≤ most → y ≤ r.length → n = y ∧ s' = (r,false)
def GotNR (most:Int) (s:WS):List TO → C → Prop:=fun Mo v => ∃ (n:Nat) (s':WS),Mo = RR s' ∧ v = IC n ∧ GotN most s n s'
theorem qL {f:Nat} {args args':List C} {most:Int} {L:TL} {ρ:TEnv} {K:TL → TEnv → C → Prop} (s:WS) (h:∀ s:WS,s.1.length ≤ mxR → CallsT PZ f args' (RR s) (GotNR most s)) (hb:s.1.length ≤ mxR) (hs:L.sub [1000] = some (RR s))
  (ha:(args.map fun c => c.canA.ren (toIn [1000] 1000)) = args')
  (k:∀ (n:Nat) (s':WS),GotN most s n s' → K ((L.dels [1000]).puts [1000] (RR s')) ρ (IC n)):CallT PZ f args L ρ K:=by
 subst ha
 refine ⟨[],[1000],[1000],L,_,_,.inl rfl,hs,rfl,rfl,rfl,rfl,h s hb,?_⟩
 rintro v Mo ⟨x,s',rfl,rfl,hg⟩ hw hwo
 refine ⟨rfl,?_⟩
 rw [show rowsOf L [1000] = [] from rows1 hs]
 exact k x s' hg
theorem gotN_bad {most:Int} {s s':WS} {n:Int} {r:List UInt8} (h:Got numE (fun _ => 1) s n s') (hr:s'.1 = r) (hb:s'.2 = false → n < 0 ∨ most < n ∨ (s'.1.length:Int) < n):GotN most s 0 (r,true):=by
 subst hr
 refine ⟨h.le,fun q => absurd rfl q,Nat.zero_le _,fun q => (by cases q),fun y r hy he hm hl => ?_⟩
 obtain ⟨h1,h2⟩:=h.code y r hy he
 subst h1 h2
 have hb:(y:Int) < 0 ∨ most < (y:Int) ∨ (r.length:Int) < (y:Int):=hb rfl
 omega
theorem q34 (most:Int):∀ s:WS,s.1.length ≤ mxR → CallsT PZ 34 [.own 1000 0,IC most] (RR s) (GotNR most s):=by
 intro s hb
 refine callsT_facts Tryz.func34 facts34 rfl fun hw ho => ?_
 refine qN s q37 hb rfl rfl fun n s1 hg _ => ?_
 have h64:s1.1.length ≤ mxR:=Nat.le_trans hg.le hb
 refine brn_p (fun h1 => ?_) (fun h1 => ?_)
 ·exact retR [1000] rfl rfl rfl rfl ⟨0,(s1.1,true),rfl,rfl,gotN_bad hg rfl fun _ => .inl h1⟩
 refine brn_p (fun h2 => ?_) (fun h2 => ?_)
 ·exact retR [1000] rfl rfl rfl rfl ⟨0,(s1.1,true),rfl,rfl,gotN_bad hg rfl fun _ => .inr (.inl h2)⟩
 refine brn_p (fun h3 => ?_) (fun h3 => ?_)
 ·exact retR [1000] rfl rfl rfl rfl ⟨0,(s1.1,true),rfl,rfl,gotN_bad hg rfl fun _ => .inr (.inr (by rw [bcells_len] at h3; exact h3))⟩
 refine brn_split (fun h4 => ?_) (fun h4 => ?_)
 ·refine retR [1000] rfl rfl rfl rfl ⟨0,s1,rfl,rfl,hg.le,fun q => absurd rfl q,Nat.zero_le _,fun q => ?_,fun y r hy he hm hl => ?_⟩
  ·rw [q] at h4; cases h4
  ·obtain ⟨_,e⟩:=hg.code y r hy he
   rw [e] at h4; cases h4
 ·obtain ⟨m,rfl⟩:∃ m:Nat,n = m:=Int.eq_ofNat_of_zero_le (by omega)
  have h3:¬ ((bcells s1.1).length:Int) < (m:Int):=h3
  rw [bcells_len] at h3
  refine retR [1000] rfl rfl rfl rfl ⟨m,s1,rfl,rfl,hg.le,fun _ => by omega,by omega,fun q => ?_,fun y r hy he hm hl => ?_⟩
  ·obtain ⟨k1,k2⟩:=hg.ok q
   exact ⟨k1,by omega⟩
  ·obtain ⟨k1,k2⟩:=hg.code y r hy he
   exact ⟨by omega,k2⟩
theorem q73:RrdR 73 [.own 1000 0] nameE (fun x => x.size + 1) C.str:=by
 intro s hb
 refine callsT_facts Tryz.func73 facts73 rfl fun hw ho => ?_
 refine qL s (q34 200) hb rfl rfl fun n s1 hg => ?_
 have h64:s1.1.length ≤ mxR:=Nat.le_trans hg.le hb
 have hnl:=hg.nl
 refine SlcT.mk (Int.le_refl 0) (by omega) (by rw [bcells_len]; omega) bcells_sz ?_
 refine BytesT.mk ⟨s1.1.take n,?_,?_⟩
 ·rw [bcells_slice]; simp
 refine SlcT.mk (by omega) (by rw [bcells_len]; omega) (Int.le_refl _) bcells_sz ?_
 have e2:((bcells s1.1).drop (n:Int).toNat).take (((bcells s1.1).length:Int).toNat - (n:Int).toNat) = bcells (s1.1.drop n):=by
  rw [bcells_slice,bcells_len,List.take_of_length_le (by simp)]; rfl
 have hsz:(ByteArray.mk (s1.1.take n).toArray).size = n:=by simp [ByteArray.size]; omega
 refine retQ (ByteArray.mk (s1.1.take n).toArray) (s1.1.drop n,s1.2) rfl rfl (congrArg (fun q => [TO.box 71 [.sl q,.bool s1.2]]) e2) rfl ⟨?_,fun q => ?_,fun y r hy he => ?_⟩
 ·have:=hg.le; simp only [List.length_drop]; omega
 ·obtain ⟨k1,k2⟩:=hg.ok q
  refine ⟨k1,?_⟩
  rw [hsz]
  simp only [List.length_drop]
  omega
 ·have q1:=andE_t.1 he
  have q2:=(andE_t.1 q1.2).1
  have hs:y.size ≤ 200:=of_decide_eq_true q1.1
  have e:(nameE y).1 = (numE (y.size:Int)).1 ++ y.data.toList:=by
   rw [nameE,andE_1 q1.1,andE_1 q2]
   have:(numsE [(y.size:Int)]) = numE (y.size:Int):=andE_nil _
   rw [this]; rfl
  have q3:(numE (y.size:Int)).2 = true:=by
   have:(numsE [(y.size:Int)]) = numE (y.size:Int):=andE_nil _
   rw [← this]; exact q2
  rw [e,List.append_assoc] at hy
  have hyl:y.data.toList.length = y.size:=by simp
  obtain ⟨k1,k2⟩:=hg.code y.size (y.data.toList ++ r) hy q3 (by omega) (by simp)
  subst k1
  have e3:(s1.1.take y.size) = y.data.toList:=by rw [k2]; show (y.data.toList ++ r).take y.size = _; rw [← hyl]; simp
  have e4:(s1.1.drop y.size) = r:=by rw [k2]; show (y.data.toList ++ r).drop y.size = _; rw [← hyl]; simp
  rw [e3,e4,k2]
  exact ⟨rfl,rfl⟩
end Go.Fr.Tryz
