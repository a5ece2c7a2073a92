/- Part of the proofs of the statements of this seat. -/
import Derived.Test.YtidbpicbmklccaaDoorIfB4G
import Derived.Test.YtidbpicbmklccaaDoorFW3
set_option maxRecDepth 10000
set_option linter.unusedVariables false
set_option linter.unusedSimpArgs false
namespace Go.Fr.Tryd
open Go Go.RowKit Go.Proofs Go.Fr Go.Fr.T
variable {ex:List Value}
theorem RowV.some {a:Option Addr} {n c:Nat} (h:RowV (.slice a n c) n c) (hn:0 < n):∃ g,a = .some ⟨g,0,none⟩:=by
 rcases h with ⟨_,rfl,_⟩ | ⟨g,e,_⟩
 ·omega
 ·injection e with e
  exact ⟨g,e⟩
theorem call87s {F:Frz} {L:Loc} {K:Frz → Loc → Value → Prop} {gb tb n c m:Nat} {s:Value} {lr:Int} {xs:List Value} (hL:L = inp (BO ex gb tb s lr n xs)) (hs:RowV s n c) (hm:n + m ≤ 140737488355328) (hp:0 < n + m)
  (k1:∀ F' g c' ys,F.le F' → ys.length = m → n + m ≤ c' → c' ≤ maxLen → K F' (inp (BO ex gb tb (.slice (some ⟨g,0,none⟩) (n + m) c') lr (n + m) (xs ++ ys))) (.tuple #[.int .i64 n,.bool true]))
  (k2:∀ F',F.le F' → c < n + m → K F' (inp (BO ex gb tb s lr n xs)) (.tuple #[.int .i64 0,.bool false])):CallPt PZ 87 [.pointer (some ⟨gb,0,none⟩),.int .i64 m] F L K :=
 call87 hL hs hm (fun F' s' ys hF h1 h2 => by
  obtain ⟨a,rfl,q1,q2,_⟩:=h2.form
  obtain ⟨g,rfl⟩:=h2.some hp
  exact k1 F' g c ys hF h1 q1 q2) k2
theorem call88s {F:Frz} {L:Loc} {K:Frz → Loc → Value → Prop} {gb tb n c m:Nat} {s:Value} {lr:Int} {xs:List Value} (hL:L = inp (BO ex gb tb s lr n xs)) (hs:RowV s n c) (hm:n + m ≤ 70368744177664) (hx:xs.length = n) (h1:∀ u ∈ xs,u.oneCell' = true) (hp:0 < n + m)
  (k1:∀ F' g c' ys,F.le F' → ys.length = m → n + m ≤ c' → c' ≤ maxLen → K F' (inp (BO ex gb tb (.slice (some ⟨g,0,none⟩) (n + m) c') lr (n + m) (xs ++ ys))) (.int .i64 n)):CallPt PZ 88 [.pointer (some ⟨gb,0,none⟩),.int .i64 m] F L K :=
 callBO hL (t88A F gb tb s lr n c m xs hs hm hx h1) fun v F' Lo hF hR => by
  obtain ⟨s',c',ys,q1,q2,rfl,rfl⟩:=hR
  obtain ⟨a,rfl,q3,q4,_⟩:=q2.form
  obtain ⟨g,rfl⟩:=q2.some hp
  exact ⟨_,_,_,_,rfl,k1 F' g c' ys hF q1 q3 q4⟩
def RW (ex:List Value) (gb tb n m:Nat) (ys:List Value) (r:Value):Frz → List Own → Value → Prop:=fun _ Lo v => ∃ s' c',RowV s' (n + m) c' ∧ Lo = BO ex gb tb s' 0 (n + m) ys ∧ v = r
theorem splice_end {xs ys zs:List Value} {n:Nat} (hx:xs.length = n) (hy:ys.length = zs.length):splice (xs ++ ys) n zs = xs ++ zs:=by
 subst hx
 simp [splice,hy]
theorem stByte {L:Loc} {j k:Nat} {K:Loc → Prop} {v:Value} {t m c:Nat} {xs:List Value} {ad:Addr} (b:Int) (hk:L.get k = some (.row v t 1 m xs)) (hv:v = .slice (some ad) m c) (hj:j + 1 ≤ xs.length) (kk:K (L.set k (.row v t 1 m (splice xs j [.int .u8 b])))):StorePt L (some ad) j [.int .u8 b] K :=
 ⟨k,v,t,1,m,xs,ad,c,hk,rfl,hv,hj,fun u hu => by rw [List.mem_singleton.1 hu]; rfl,kk⟩
theorem t86A (F:Frz) (gb tb:Nat) (s:Value) (lr:Int) (n c:Nat) (x:Int) (xs:List Value) (hs:RowV s n c) (hm:n + 1 ≤ 70368744177664) (hx:xs.length = n) (h1:∀ u ∈ xs,u.oneCell' = true) :
  CallsA PZ 86 #[.pointer (some ⟨gb,0,none⟩),.int .u8 x] F (BO ex gb tb s lr n xs) (RW ex gb tb n 1 (xs ++ [.int .u8 x]) .nilIface):=by
 refine callsA2_facts (svs:=[.own 1000 0,.v (.int .u8 x)]) rfl facts86 rfl rfl (buf_own (svs:=[.int .u8 x])) (fun _ _ _ _ _ h => h) ?_
 have tail:∀ (g c':Nat) (ys:List Value),ys.length = 1 → splice (xs ++ ys) (((n:Int).toNat) * 1) [.int .u8 x] = xs ++ [.int .u8 x]:=fun g c' ys hy => by
  rw [Nat.mul_one]; exact splice_end hx hy
 refine call87s (s:=s) (lr:=0) (m:=1) rfl hs (by omega) (by omega) (fun F1 g c' ys hF hy q1 q2 => ?_) (fun F1 hF hc => ?_)
 ·refine IdxPt.mk (fun e => by cases e) (by omega) (by omega) ?_
  refine stByte (k:=1001) x rfl rfl (by rw [List.length_append,hx,hy]; omega) ?_
  exact ⟨[1000,1001],_,rfl,by decide,_,c',.inr ⟨g,rfl,q1,q2⟩,congrArg (fun q => BO ex gb tb (.slice (some ⟨g,0,none⟩) (n + 1) c') 0 (n + 1) q) (tail g c' ys hy),rfl⟩
 ·refine call88s (s:=s) (lr:=0) (m:=1) rfl hs (by omega) hx h1 (by omega) fun F2 g c' ys hF2 hy q1 q2 => ?_
  refine IdxPt.mk (fun e => by cases e) (by omega) (by omega) ?_
  refine stByte (k:=1001) x rfl rfl (by rw [List.length_append,hx,hy]; omega) ?_
  exact ⟨[1000,1001],_,rfl,by decide,_,c',.inr ⟨g,rfl,q1,q2⟩,congrArg (fun q => BO ex gb tb (.slice (some ⟨g,0,none⟩) (n + 1) c') 0 (n + 1) q) (tail g c' ys hy),rfl⟩
theorem cut_row {g c n p:Nat} (h:n + p ≤ c):∃ j,j + p ≤ n + p ∧ (p ≠ 0 → j = n) ∧ slcVal (some ⟨g,0,none⟩) c n (n + p) 1 = .slice (some ((⟨g,0,none⟩:Addr).add (j * 1))) p (c - n):=by
 by_cases e:c = n
 ·refine ⟨0,by omega,fun hp => absurd (by omega) hp,?_⟩
  simp only [slcVal,if_pos e,Nat.add_sub_cancel_left]
  rfl
 ·refine ⟨n,Nat.le_refl _,fun _ => rfl,?_⟩
  simp only [slcVal,if_neg e,Nat.add_sub_cancel_left,Option.map]
theorem cpBytes {F:Frz} {L:Loc} {K:Loc → Nat → Prop} {g c' n p cp:Nat} {l h:Nat} {pa:Option Addr} {xs ys news:List Value} (hk:L.get 1001 = some (.row (.slice (some ⟨g,0,none⟩) (n + p) c') 5 1 (n + p) (xs ++ ys))) (hl':l = n) (hh:h = n + p) (hc:n + p ≤ c')
  (hx:xs.length = n) (hy:ys.length = p) (hl:news.length = p) (hsrc:FCells F pa 0 news ∨ (p = 0 ∧ news = [])) (h2:∀ u ∈ news,u.oneCell' = true)
  (kk:K (L.set 1001 (.row (.slice (some ⟨g,0,none⟩) (n + p) c') 5 1 (n + p) (xs ++ news))) p):CopyPt F L 5 1 (slcVal (some ⟨g,0,none⟩) c' l h 1) (.slice pa p cp) K:=by
 subst hl' hh
 obtain ⟨j,j1,j2,j3⟩:=cut_row (g:=g) hc
 refine ⟨.inl ⟨1001,p,_,_,_,⟨g,0,none⟩,c',c' - l,j,p,pa,cp,news,hk,rfl,j3,j1,rfl,by rw [Nat.min_self,hl,Nat.mul_one],by rw [Nat.min_self]; exact hsrc,h2,?_⟩⟩
 rw [Nat.min_self]
 have e:splice (xs ++ ys) (j * 1) news = xs ++ news:=by
  rw [Nat.mul_one]
  by_cases hp:p = 0
  ·obtain rfl:news = []:=List.eq_nil_of_length_eq_zero (by omega)
   obtain rfl:ys = []:=List.eq_nil_of_length_eq_zero (by omega)
   simp [splice]
  ·rw [j2 hp]; exact splice_end hx (by omega)
 rw [e]
 exact kk
theorem cpStr {L:Loc} {K:Loc → Nat → Prop} {g c' n:Nat} {l h:Nat} {t:ByteArray} {xs ys:List Value} (hk:L.get 1001 = some (.row (.slice (some ⟨g,0,none⟩) (n + t.size) c') 5 1 (n + t.size) (xs ++ ys))) (hl':l = n) (hh:h = n + t.size) (hc:n + t.size ≤ c')
  (hx:xs.length = n) (hy:ys.length = t.size)
  (kk:K (L.set 1001 (.row (.slice (some ⟨g,0,none⟩) (n + t.size) c') 5 1 (n + t.size) (xs ++ t.data.toList.map fun b => Value.int .u8 b.toNat))) t.size):CopySPt L 5 (slcVal (some ⟨g,0,none⟩) c' l h 1) t K:=by
 subst hl' hh
 obtain ⟨j,j1,j2,j3⟩:=cut_row (g:=g) hc
 rw [Nat.mul_one] at j3
 have hln:t.data.toList.length = t.size:=by simp
 refine ⟨1001,t.size,_,_,_,⟨g,0,none⟩,c',c' - l,j,hk,rfl,j3,j1,?_⟩
 rw [Nat.min_self,List.take_of_length_le (by omega)]
 have e:splice (xs ++ ys) j (t.data.toList.map fun b => Value.int .u8 b.toNat) = xs ++ t.data.toList.map fun b => Value.int .u8 b.toNat:=by
  by_cases hp:t.size = 0
  ·have h0:t.data.toList = []:=List.eq_nil_of_length_eq_zero (by omega)
   obtain rfl:ys = []:=List.eq_nil_of_length_eq_zero (by omega)
   simp [splice,h0]
  ·rw [j2 hp]; exact splice_end hx (by rw [List.length_map]; omega)
 rw [e]
 exact kk
theorem t60A (F:Frz) (gb tb:Nat) (s:Value) (lr:Int) (n c p cp:Nat) (pa:Option Addr) (xs news:List Value) (hs:RowV s n c) (hm:n + p ≤ 70368744177664) (hp:0 < n + p) (hx:xs.length = n) (h1:∀ u ∈ xs,u.oneCell' = true)
  (hl:news.length = p) (hsrc:FCells F pa 0 news ∨ (p = 0 ∧ news = [])) (h2:∀ u ∈ news,u.oneCell' = true) :
  CallsA PZ 60 #[.pointer (some ⟨gb,0,none⟩),.slice pa p cp] F (BO ex gb tb s lr n xs) (RW ex gb tb n p (xs ++ news) (.tuple #[.int .i64 p,.nilIface])):=by
 refine callsA2_facts (svs:=[.own 1000 0,.v (.slice pa p cp)]) rfl facts60 rfl rfl (buf_own (svs:=[.slice pa p cp])) (fun _ _ _ _ _ h => h) ?_
 refine call87s (s:=s) (lr:=0) rfl hs (by omega) hp (fun F1 g c' ys hF hy q1 q2 => ?_) (fun F1 hF hc => ?_)
 ·refine SlcPt.mk (by omega) (by omega) (by omega) ?_
  refine cpBytes rfl (by omega) (by omega) q1 hx hy hl (hsrc.imp (fun h => h.mono hF) id) h2 ?_
  exact ⟨[1000,1001],_,rfl,by decide,_,c',.inr ⟨g,rfl,q1,q2⟩,rfl,rfl⟩
 ·refine call88s (s:=s) (lr:=0) rfl hs (by omega) hx h1 hp fun F2 g c' ys hF2 hy q1 q2 => ?_
  refine SlcPt.mk (by omega) (by omega) (by omega) ?_
  refine cpBytes rfl (by omega) (by omega) q1 hx hy hl (hsrc.imp (fun h => (h.mono hF).mono hF2) id) h2 ?_
  exact ⟨[1000,1001],_,rfl,by decide,_,c',.inr ⟨g,rfl,q1,q2⟩,rfl,rfl⟩
theorem t69A (F:Frz) (gb tb:Nat) (s:Value) (lr:Int) (n c:Nat) (t:ByteArray) (xs:List Value) (hs:RowV s n c) (hm:n + t.size ≤ 70368744177664) (hp:0 < n + t.size) (hx:xs.length = n) (h1:∀ u ∈ xs,u.oneCell' = true) :
  CallsA PZ 69 #[.pointer (some ⟨gb,0,none⟩),.string t] F (BO ex gb tb s lr n xs) (RW ex gb tb n t.size (xs ++ t.data.toList.map fun b => Value.int .u8 b.toNat) (.tuple #[.int .i64 t.size,.nilIface])):=by
 refine callsA2_facts (svs:=[.own 1000 0,.v (.string t)]) rfl facts69 rfl rfl (buf_own (svs:=[.string t])) (fun _ _ _ _ _ h => h) ?_
 refine call87s (s:=s) (lr:=0) rfl hs (by omega) hp (fun F1 g c' ys hF hy q1 q2 => ?_) (fun F1 hF hc => ?_)
 ·refine SlcPt.mk (by omega) (by omega) (by omega) ?_
  refine cpStr rfl (by omega) (by omega) q1 hx hy ?_
  exact ⟨[1000,1001],_,rfl,by decide,_,c',.inr ⟨g,rfl,q1,q2⟩,rfl,rfl⟩
 ·refine call88s (s:=s) (lr:=0) rfl hs (by omega) hx h1 hp fun F2 g c' ys hF2 hy q1 q2 => ?_
  refine SlcPt.mk (by omega) (by omega) (by omega) ?_
  refine cpStr rfl (by omega) (by omega) q1 hx hy ?_
  exact ⟨[1000,1001],_,rfl,by decide,_,c',.inr ⟨g,rfl,q1,q2⟩,rfl,rfl⟩
def WB (t:Nat) (ec:List C) (bs:List UInt8):List TO:=[.box t (.rw 1001 :: IC 0 :: .int .i8 0 :: ec),.row 5 1 (bcells bs)]
theorem wb_of {F:Frz} {Li:List Own} {t:Nat} {ec:List C} {bs:List UInt8} (hl:Li.length = (WB t ec bs).length) (h:RelTL F (inp Li) (tinp (WB t ec bs))) :
  ∃ gb tb s ex,Li = BO ex gb tb s 0 bs.length (bvals bs) ∧ tyOk t gb tb ∧ bs.length ≤ maxLen ∧ Rels F (inp Li) ec ex:=by
 match Li,hl with
 | [o1,o2],_ =>
  have h1:RelO F (inp [o1,o2]) (.box t (.rw 1001 :: IC 0 :: .int .i8 0 :: ec)) o1:=h 1000
  have h2:RelO F (inp [o1,o2]) (.row 5 1 (bcells bs)) o2:=h 1001
  cases o1 with
  | row => exact h1.elim
  | box gb tb us =>
   cases o2 with
   | box => exact h2.elim
   | row v t' sz' n xs =>
    obtain ⟨rfl,rfl,hn,⟨hm,a,c,rfl,hc⟩,hr⟩:=h2
    have hx:=RelRow_bvals hr
    subst hx
    have hn2:n = bs.length:=by rw [hn]; simp [bcells]
    subst hn2
    obtain ⟨ht,hu⟩:=h1
    simp only [Rels,Rel] at hu
    obtain ⟨v1,_,rfl,hv1,v2,_,rfl,hv2,v3,ex,rfl,hv3,hex⟩:=hu
    obtain ⟨a',c',t',sz',n',xs',_,hg⟩:=hv1
    have e:some (Own.row (.slice a bs.length c) 5 1 bs.length (bvals bs)) = some (.row v1 t' sz' n' xs'):=hg
    injection e with e
    injection e with e1
    subst e1
    obtain ⟨rfl,_⟩:=hv2
    obtain ⟨rfl,_⟩:=hv3
    exact ⟨gb,tb,_,ex,rfl,ht,hm,hex⟩
theorem wb_to {F:Frz} {t gb tb c:Nat} {s:Value} {ec:List C} {ex:List Value} {bs:List UInt8} (hex:Rels F (inp (BO ex gb tb s 0 bs.length (bvals bs))) ec ex) (ht:tyOk t gb tb) (hs:RowV s bs.length c) (hm:bs.length ≤ maxLen):RelTL F (inp (BO ex gb tb s 0 bs.length (bvals bs))) (tinp (WB t ec bs)):=by
 obtain ⟨a,rfl,h1,h2,h3⟩:=hs.form
 intro k
 rw [tinp_get,inp_get]
 split
 case isFalse => trivial
 rename_i hk
 match hj:k - 1000 with
 | 0 =>
  refine ⟨ht,?_⟩
  simp only [Rels,Rel]
  exact ⟨_,_,rfl,⟨a,c,5,1,bs.length,bvals bs,rfl,rfl⟩,_,_,rfl,⟨rfl,by decide⟩,_,_,rfl,⟨rfl,by decide⟩,hex⟩
 | 1 => exact ⟨rfl,rfl,by simp [bcells],⟨hm,a,c,rfl,fun e => (h3 e).1⟩,RelRow_of_bvals bs⟩
 | j + 2 => trivial
theorem CallsA.ofSt {P:Program} {f:FuncId} {args:Array Value} {F:Frz} {Lin:List Own} {R:Frz → List Own → Value → Prop} (hent:∃ fn,P.funcs[f]? = some fn ∧ fn.body.isSome = true ∧ (fn.name == "runtime.NumGoroutine") = false)
  (hmono:∀ F G L v,F.le G → R F L v → R G L v) (h:∀ w,St F (inp Lin) w → CallsA P f args F Lin R):CallsA P f args F Lin R:=⟨hent,hmono,fun w hs => (h w hs).run w hs⟩
theorem CallsA.to {P:Program} {f:FuncId} {args:Array Value} {F:Frz} {Lin:List Own} {R R':Frz → List Own → Value → Prop} (h:CallsA P f args F Lin R)
  (hmono:∀ F G L v,F.le G → R' F L v → R' G L v) (hk:∀ F L v,R F L v → R' F L v):CallsA P f args F Lin R':=⟨h.ent,hmono,fun w hs => (h.run w hs).mono fun e w' ⟨v,F',Lo,h1,h2,h3,h4⟩ => ⟨v,F',Lo,h1,h2,h3,hk _ _ _ h4⟩⟩
theorem wrT {f t:Nat} {args:List C} {ec:List C} {bs:List UInt8} {ys:List UInt8} {r:C} (hp:puresL ec = true) (hent:∃ fn,Tryd.prog.funcs[f]? = some fn ∧ fn.body.isSome = true ∧ (fn.name == "runtime.NumGoroutine") = false)
  (hm:bs.length + ys.length ≤ 70368744177664) (rv:Value) (hr:∀ F L,Rel F L r rv)
  (h:∀ F gb tb s c ex vs,RowV s bs.length c → Rels F (inp (BO ex gb tb s 0 bs.length (bvals bs))) args vs → CallsA PZ f vs.toArray F (BO ex gb tb s 0 bs.length (bvals bs)) (RW ex gb tb bs.length ys.length (bvals bs ++ bvals ys) rv)) :
  CallsT PZ f args (WB t ec bs) (Ret (WB t ec (bs ++ ys)) r):=by
 refine ⟨fun F Li vs h1 h2 h3 => ?_⟩
 obtain ⟨gb,tb,s,ex,rfl,ht,hm0,hex⟩:=wb_of h1 h2
 refine CallsA.ofSt hent ResA.mono' fun w hs => ?_
 obtain ⟨c,hrv⟩:=rowV_of hs (k:=1001) rfl
 have hA:=h F gb tb s c ex vs hrv h3
 refine ⟨hA.ent,ResA.mono',fun w hs => (hA.run w hs).mono ?_⟩
 rintro e w' ⟨v,F',Lo,h1,h2,h3,s',c',hs',rfl,rfl⟩
 refine ⟨_,F',_,h1,h2,h3,?_⟩
 have hl:(bs ++ ys).length = bs.length + ys.length:=List.length_append
 rw [← bvals_app,← hl]
 rw [← hl] at hs'
 refine ⟨WB t ec (bs ++ ys),r,rfl,wb_to (pures_rel hp (hex.mono h3.le)) ht hs' (by rw [hl]; simp only [maxLen]; omega),hr _ _,fun i g t0 cs e => ?_,rfl,rfl⟩
 match i with
 | 0 =>
  injection e with e
  injection e with e1 e2 e3
  subst e1 e2
  exact ⟨_,rfl⟩
 | 1 => injection e with e; cases e
 | i + 2 => cases e
theorem ent86:∃ fn,Tryd.prog.funcs[86]? = some fn ∧ fn.body.isSome = true ∧ (fn.name == "runtime.NumGoroutine") = false:=⟨_,Tryd.func86,by kernel_rfl,by kernel_rfl⟩
theorem ent60:∃ fn,Tryd.prog.funcs[60]? = some fn ∧ fn.body.isSome = true ∧ (fn.name == "runtime.NumGoroutine") = false:=⟨_,Tryd.func60,by kernel_rfl,by kernel_rfl⟩
theorem ent69:∃ fn,Tryd.prog.funcs[69]? = some fn ∧ fn.body.isSome = true ∧ (fn.name == "runtime.NumGoroutine") = false:=⟨_,Tryd.func69,by kernel_rfl,by kernel_rfl⟩
theorem own_arg {F:Frz} {gb tb:Nat} {s:Value} {n:Nat} {xs ex:List Value} {v:Value} (h:Rel F (inp (BO ex gb tb s 0 n xs)) (.own 1000 0) v):v = .pointer (some ⟨gb,0,none⟩):=by
 simp only [Rel] at h
 obtain ⟨g,t,cs,e,rfl⟩:=h
 have e':some (Own.box gb tb (s :: .int .i64 0 :: .int .i8 0 :: ex)) = some (.box g t cs):=e
 injection e' with e'
 injection e' with e1
 rw [e1]
theorem t86T (t:Nat) (ec:List C) (hec:puresL ec = true) (bs:List UInt8) (x:UInt8) (hm:bs.length + 1 ≤ 70368744177664) :
  CallsT PZ 86 [.own 1000 0,.int .u8 x.toNat] (WB t ec bs) (Ret (WB t ec (bs ++ [x])) (.opq 0)):=by
 refine wrT (ys:=[x]) hec ent86 hm .nilIface (fun _ _ => opq_nil) fun F gb tb s c ex vs hs hr => ?_
 simp only [Rels] at hr
 obtain ⟨v1,_,rfl,h1,v2,_,rfl,h2,rfl⟩:=hr
 rw [own_arg h1]
 simp only [Rel] at h2
 rw [h2.1]
 exact t86A F gb tb s 0 bs.length c x.toNat (bvals bs) hs hm (bvals_len bs) (bvals_ones bs)
theorem t60T (t:Nat) (ec:List C) (hec:puresL ec = true) (bs ys:List UInt8) (hm:bs.length + ys.length ≤ 70368744177664) (hp:0 < bs.length + ys.length) :
  CallsT PZ 60 [.own 1000 0,.sl (bcells ys)] (WB t ec bs) (Ret (WB t ec (bs ++ ys)) (.tup [IC ys.length,.opq 0])):=by
 refine wrT hec ent60 hm (.tuple #[.int .i64 ys.length,.nilIface]) (fun F L => ?_) fun F gb tb s c ex vs hs hr => ?_
 ·simp only [Rel,Rels]
  exact ⟨[_,_],rfl,_,_,rfl,⟨rfl,by simp [Lit.wf,IntKind.min,IntKind.max,IntKind.signed,IntKind.bits]; omega⟩,_,_,rfl,opq_nil,rfl⟩
 simp only [Rels] at hr
 obtain ⟨v1,_,rfl,h1,v2,_,rfl,h2,rfl⟩:=hr
 rw [own_arg h1]
 obtain ⟨a,cp,rfl,_,_,hF⟩:=sl_bytes h2
 exact t60A F gb tb s 0 bs.length c ys.length cp a (bvals bs) (bvals ys) hs hm hp (bvals_len bs) (bvals_ones bs) (bvals_len ys) hF (bvals_ones ys)
theorem t69T (t:Nat) (ec:List C) (hec:puresL ec = true) (bs:List UInt8) (s:ByteArray) (hm:bs.length + s.data.toList.length ≤ 70368744177664) (hp:0 < bs.length) :
  CallsT PZ 69 [.own 1000 0,.str s] (WB t ec bs) (Ret (WB t ec (bs ++ s.data.toList)) (.tup [IC s.size,.opq 0])):=by
 have hsz:s.data.toList.length = s.size:=by simp
 refine wrT hec ent69 hm (.tuple #[.int .i64 s.size,.nilIface]) (fun F L => ?_) fun F gb tb s' c ex vs hs hr => ?_
 ·simp only [Rel,Rels]
  exact ⟨[_,_],rfl,_,_,rfl,⟨rfl,by simp [Lit.wf,IntKind.min,IntKind.max,IntKind.signed,IntKind.bits]; omega⟩,_,_,rfl,opq_nil,rfl⟩
 simp only [Rels] at hr
 obtain ⟨v1,_,rfl,h1,v2,_,rfl,h2,rfl⟩:=hr
 rw [own_arg h1]
 simp only [Rel] at h2
 obtain ⟨rfl,_⟩:=h2
 have:=t69A F gb tb s' 0 bs.length c s (bvals bs) (ex:=ex) hs (by omega) (by omega) (bvals_len bs) (bvals_ones bs)
 rw [← hsz] at this
 exact this
end Go.Fr.Tryd
namespace Go.Fr.Tryd
open Go Go.RowKit Go.Proofs Go.Fr Go.Fr.T Go.Fr.Api
theorem GlPt.of {F:Frz} (h:Glob F) {K:Value → Prop} (k:∀ v,OpqRel 1 F v → K v):GlPt F 0 K:=by
 obtain ⟨v,t,fr,h1,h2⟩:=glob_get (g:=0) (k:=1) h rfl
 exact ⟨v,t,fr,h1,k v h2⟩
theorem splice_all {xs ys:List Value} (h:xs.length = ys.length):splice xs 0 ys = ys:=by
 simp [splice,h]
def RO (gb tb:Nat) (a:Option Addr) (l c:Nat) (i:Int) (rv:Value) (n:Nat) (xs:List Value):List Own:=[.box gb tb [.slice a l c,.int .i64 i,.int .i64 (-1)],.row rv 5 1 n xs]
theorem t84A (F:Frz) (hgl:Glob F) (gb tb:Nat) (a:Option Addr) (c:Nat) (s:List UInt8) (i n cr:Nat) (rv:Value) (xs:List Value) (hs:Rel F [] (.sl (bcells s)) (.slice a s.length c)) (hi:i + n ≤ s.length) (hrv:RowV rv n cr) (hx:xs.length = n) :
  CallsA PZ 84 #[.pointer (some ⟨gb,0,none⟩),rv] F (RO gb tb a s.length c i rv n xs) (fun _ Lo _ => Lo = RO gb tb a s.length c ((i + n:Nat):Int) rv n (bvals ((s.drop i).take n))):=by
 have hl:s.length ≤ 9223372036854775807:=by
  obtain ⟨_,_,_,_,h,_⟩:=sl_bytes hs
  simp only [maxLen] at h
  omega
 have hcap:=sl_cap hs
 obtain ⟨ra,rfl,hnc,hcm,hra⟩:=hrv.form
 refine callsA2_facts (svs:=[.own 1000 0,.v (.slice ra n cr)]) rfl facts84 rfl rfl (fun v hv => ?_) (fun _ _ _ _ _ h => h) ?_
 ·rcases List.mem_cons.1 hv with rfl | hv
  ·exact ⟨fun k off e => by injection e with e1 e2; subst e1; exact ⟨_,_,_,rfl⟩,fun _ _ e => by cases e⟩
  ·rw [List.mem_singleton.1 hv]
   exact ⟨fun _ _ e => (by cases e),fun _ _ e => (by cases e)⟩
 refine brn_p (fun h => ?_) (fun h => ?_)
 ·have h0:n = 0:=by omega
  subst h0
  obtain rfl:xs = []:=List.eq_nil_of_length_eq_zero hx
  refine GlPt.of hgl fun ev hev => ?_
  refine ⟨[1000,1001],_,rfl,by decide,?_⟩
  show _ = RO gb tb a s.length c ((i + 0:Nat):Int) (.slice ra 0 cr) 0 (bvals ((s.drop i).take 0))
  simp only [Nat.add_zero,List.take_zero]
  rfl
 ·have hlt:i < s.length:=by omega
  refine SlcPt.mk (by omega) (by omega) (by omega) ?_
  have hr2:Rel F [] (.sl (bcells ((s.drop i).take (s.length - i)))) (slcVal a c i s.length 1):=rel_slc hs (by omega) (Nat.le_refl _)
  rw [List.take_of_length_le (by simp)] at hr2
  obtain ⟨a2,c2,e2,_,_,hF2⟩:=sl_bytes hr2
  have hd:(s.drop i).length = s.length - i:=by simp
  rw [hd] at e2 hF2
  have hm:min (s.length - i) n = n:=by omega
  have hbl:(bvals ((s.drop i).take n)).length = n:=by rw [bvals_len,List.length_take,hd]; omega
  have e3:slcVal a c ((i:Int).toNat) ((s.length:Int).toNat) 1 = .slice a2 (s.length - i) c2:=e2
  have tail:∀ (K:Loc → Nat → Prop),K (inp (RO gb tb a s.length c i (.slice ra n cr) n (bvals ((s.drop i).take n)))) n → CopyPt F (inp (RO gb tb a s.length c i (.slice ra n cr) n xs)) 5 1 (.slice ra n cr) (slcVal a c ((i:Int).toNat) ((s.length:Int).toNat) 1) K:=by
   intro K hK
   rw [e3]
   cases ra with
   | none =>
    obtain ⟨h1,h2⟩:=hra rfl
    subst h1
    obtain rfl:xs = []:=List.eq_nil_of_length_eq_zero hx
    exact ⟨.inr ⟨none,0,cr,a2,s.length - i,c2,rfl,rfl,by omega,hK⟩⟩
   | some ad =>
    refine ⟨.inl ⟨1001,n,_,n,xs,ad,cr,cr,0,s.length - i,a2,c2,bvals ((s.drop i).take n),rfl,rfl,?_,by omega,rfl,by rw [hm,Nat.mul_one,hbl],?_,bvals_ones _,?_⟩⟩
    ·rcases hrv with ⟨e,_⟩ | ⟨g,e,_⟩
     ·cases e
     ·injection e with e _ _
      injection e with e
      subst e
      rfl
    ·rw [hm]
     rcases hF2 with h | ⟨h,_⟩
     ·have:=fcells_take (m:=n) h
      refine .inl ?_
      have e4:(bvals (s.drop i)).take n = bvals ((s.drop i).take n):=by simp [bvals]
      rw [← e4]; exact this
     ·omega
    ·rw [hm,Nat.zero_mul,splice_all (by rw [hx,hbl])]
     exact hK
  refine tail _ fun _ => ?_
  refine Fit.to (m:=((i + n:Nat):Int)) (by rw [wrap64_id (by omega) (by omega)]; omega) ?_
  exact ⟨[1000,1001],_,rfl,by decide,rfl⟩
theorem monoI {Li:List Own} {R:List TO → C → Prop}:∀ F G L v,F.le G → (ResA Li R F L v ∧ InPl Li L) → (ResA Li R G L v ∧ InPl Li L):=fun F G L v h ⟨h1,h2⟩ => ⟨ResA.mono' F G L v h h1,h2⟩
theorem ent84:∃ fn,Tryd.prog.funcs[84]? = some fn ∧ fn.body.isSome = true ∧ (fn.name == "runtime.NumGoroutine") = false:=⟨_,Tryd.func84,by kernel_rfl,by kernel_rfl⟩
theorem t84o (s r:List UInt8) (hr:r <:+ s) (n:Nat) (hn:n ≤ r.length) (els:List (List C)) (hl:els.length = n) :
  CallsTI PZ 84 [.own 1000 0,.rw 1001] [RB 134 s r,.row 5 1 els] (fun Mo c => Mo = [RB 134 s (r.drop n),.row 5 1 (bcells (r.take n))] ∧ c = .any):=by
 refine ⟨fun F Li vs h1 h2 h3 => ?_⟩
 match Li,h1 with
 | [o1,o2],_ =>
  have hb:RelO F (inp [o1,o2]) (RB 134 s r) o1:=h2 1000
  have hw:RelO F (inp [o1,o2]) (.row 5 1 els) o2:=h2 1001
  cases o1 with
  | row => exact hb.elim
  | box gb tb us =>
   cases o2 with
   | box => exact hw.elim
   | row v t' sz' n' xs =>
    obtain ⟨rfl,rfl,hn',⟨hm,av,cv,rfl,hc⟩,hrr⟩:=hw
    rw [hl] at hn'
    subst hn'
    obtain ⟨ht,hu⟩:=hb
    simp only [Rels] at hu
    obtain ⟨v1,_,rfl,hv1,v2,_,rfl,hv2,v3,_,rfl,hv3,rfl⟩:=hu
    simp only [Rel] at hv2 hv3
    obtain ⟨rfl,_⟩:=hv2
    obtain ⟨rfl,_⟩:=hv3
    have hv1':Rel F [] (.sl (bcells s)) v1:=hv1.lift
    obtain ⟨a,c,rfl,_,hsm,_⟩:=sl_bytes hv1'
    simp only [Rels] at h3
    obtain ⟨w1,_,rfl,hw1,w2,_,rfl,hw2,rfl⟩:=h3
    have e1:w1 = .pointer (some ⟨gb,0,none⟩):=by
     simp only [Rel] at hw1
     obtain ⟨g,t,cs,e,rfl⟩:=hw1
     have e':some (Own.box gb tb [.slice a s.length c,.int .i64 ((s.length - r.length:Nat):Int),.int .i64 (-1)]) = some (.box g t cs):=e
     injection e' with e'
     injection e' with e1
     rw [e1]
    have e2:w2 = .slice av n' cv:=by
     simp only [Rel] at hw2
     obtain ⟨a',c',t,sz,n,xs',rfl,e⟩:=hw2
     have e':some (Own.row (.slice av n' cv) 5 1 n' xs) = some (.row (.slice a' n c') t sz n xs'):=e
     injection e' with e'
     injection e' with e1
     exact e1.symm
    subst e1 e2
    have hsl:=suf_len hr
    have hdr:=suf_drop hr
    refine CallsA.ofSt ent84 monoI fun w hs => ?_
    obtain ⟨cr,hrv⟩:=rowV_of hs (k:=1001) rfl
    obtain ⟨ra,e,hnc,hcm,hra⟩:=hrv.form
    injection e with q1 q2 q3
    subst q1 q3
    have hxl:xs.length = n':=by
     have:=(hs.own 1001 _ rfl).1
     simpa using this
    have hA:=t84A F hs.glob gb tb a c s (s.length - r.length) n' cv (.slice av n' cv) xs hv1' (by omega) hrv hxl
    refine ⟨hA.ent,monoI,fun w hs => (hA.run w hs).mono ?_⟩
    rintro e w' ⟨v,F',Lo,h1,h2,h3,rfl⟩
    refine ⟨v,F',_,h1,h2,h3,?_,rfl,fun i o e => ?_⟩
    rotate_left
    ·match i with
     | 0 => injection e with e; subst e; exact ⟨_,rfl,rfl⟩
     | 1 => injection e with e; subst e; exact ⟨_,rfl,rfl,rfl,rfl⟩
     | i + 2 => cases e
    rw [hdr]
    have hd:(r.drop n').length = r.length - n':=by simp
    have htk:(r.take n').length = n':=by rw [List.length_take]; omega
    refine ⟨[RB 134 s (r.drop n'),.row 5 1 (bcells (r.take n'))],.any,rfl,fun k => ?_,trivial,fun i g t0 cs e => ?_,rfl,rfl⟩
    ·rw [tinp_get,inp_get]
     split
     case isFalse => trivial
     match hj:k - 1000 with
     | 0 =>
      refine ⟨ht,?_⟩
      simp only [Rels]
      refine ⟨_,_,rfl,(hv1'.mono h3.le).lift,_,_,rfl,?_,_,_,rfl,⟨rfl,by decide⟩,rfl⟩
      simp only [Rel]
      refine ⟨by rw [hd,show s.length - r.length + n' = s.length - (r.length - n') by omega],?_⟩
      have:=hsm
      simp only [maxLen] at this
      simp [Lit.wf,IntKind.min,IntKind.max,IntKind.signed,IntKind.bits]
      omega
     | 1 => exact ⟨rfl,rfl,by rw [bcells_len,htk],⟨hm,av,cv,rfl,hc⟩,RelRow_of_bvals _⟩
     | j + 2 => trivial
    ·match i with
     | 0 =>
      injection e with e
      injection e with e1 e2 e3
      subst e1 e2
      exact ⟨_,rfl⟩
     | 1 => injection e with e; cases e
     | i + 2 => cases e
theorem wrap64_small {n:Nat} (h:n < 9223372036854775808):IntKind.wrap .i64 (n:Int) = n:=wrap64_id (by omega) (by omega)
theorem wrapu_emod' (n:Int):IntKind.wrap .u64 n = n % 18446744073709551616:=by
 simp [IntKind.wrap,IntKind.bits,IntKind.signed]
theorem oru_eq {z c k:Nat} (hz:z < 128 ^ k) (hc:c < 128) (hk:k < 9):IntKind.wrap .u64 ((BitVec.ofInt 64 (z:Int) ||| BitVec.ofInt 64 (((c * 128 ^ k:Nat)):Int)).toNat:Int) = ((z + c * 128 ^ k:Nat):Int):=by
 have hp:128 ^ k = 2 ^ (7 * k):=by rw [Nat.pow_mul]
 have hb:128 ^ k ≤ 128 ^ 8:=Nat.pow_le_pow_right (by omega) (by omega)
 have hcb:c * 128 ^ k ≤ 127 * 128 ^ 8:=Nat.mul_le_mul (by omega) hb
 have e:(BitVec.ofInt 64 (z:Int) ||| BitVec.ofInt 64 ((c * 128 ^ k:Nat):Int)).toNat = z + c * 128 ^ k:=by
  rw [BitVec.toNat_or,BitVec.ofInt_natCast,BitVec.ofInt_natCast,BitVec.toNat_ofNat,BitVec.toNat_ofNat,Nat.mod_eq_of_lt (by omega),Nat.mod_eq_of_lt (by omega)]
  rw [hp] at hz ⊢
  rw [Nat.or_comm,Nat.mul_comm,← Nat.two_pow_add_eq_or_of_lt hz]
  omega
 rw [e,wrapu_emod']
 omega
theorem and8 (c:UInt8):IntKind.wrap .u8 ((BitVec.ofInt 8 (c.toNat:Int) &&& BitVec.ofInt 8 127).toNat:Int) = ((c.toNat % 128:Nat):Int):=by
 have hc:=c.toNat_lt
 have e1:BitVec.ofInt 8 127 = BitVec.ofNat 8 127:=by decide
 rw [e1,BitVec.ofInt_natCast,BitVec.toNat_and,BitVec.toNat_ofNat,BitVec.toNat_ofNat,Nat.mod_eq_of_lt (show c.toNat < 2 ^ 8 by omega),Nat.mod_eq_of_lt (by decide),show (127:Nat) = 2 ^ 7 - 1 from rfl,Nat.and_two_pow_sub_one_eq_mod]
 simp only [IntKind.wrap,IntKind.bits,IntKind.signed,Bool.false_and,Int.reducePow]
 simp
 omega
theorem and1 (z:Nat) (h:z < 18446744073709551616):IntKind.wrap .u64 ((BitVec.ofInt 64 (z:Int) &&& BitVec.ofInt 64 1).toNat:Int) = ((z % 2:Nat):Int):=by
 have e1:BitVec.ofInt 64 1 = BitVec.ofNat 64 1:=by decide
 rw [wrapu_emod',e1,BitVec.ofInt_natCast,BitVec.toNat_and,BitVec.toNat_ofNat,BitVec.toNat_ofNat,Nat.mod_eq_of_lt h,Nat.mod_eq_of_lt (by decide),show (1:Nat) = 2 ^ 1 - 1 from rfl,Nat.and_two_pow_sub_one_eq_mod]
 omega
theorem xor_eq {z:Nat} (hz:z < 9223372036854775808):IntKind.wrap .i64 ((BitVec.ofInt 64 ((z / 2:Nat):Int) ^^^ BitVec.ofInt 64 (0 - ((z % 2:Nat):Int))).toNat:Int) = unz z:=by
 unfold unz
 rcases Nat.mod_two_eq_zero_or_one z with h | h
 ·rw [h,if_pos rfl]
  have e:(BitVec.ofInt 64 ((z / 2:Nat):Int) ^^^ BitVec.ofInt 64 (0 - ((0:Nat):Int))).toNat = z / 2:=by
   rw [show (0 - ((0:Nat):Int)) = ((0:Nat):Int) from rfl,BitVec.ofInt_natCast,BitVec.ofInt_natCast]
   simp
   omega
  rw [e]
  exact wrap64_small (by omega)
 ·rw [h,if_neg (by omega)]
  have e:(BitVec.ofInt 64 ((z / 2:Nat):Int) ^^^ BitVec.ofInt 64 (0 - ((1:Nat):Int))).toNat = 18446744073709551615 - z / 2:=by
   have:BitVec.ofInt 64 (0 - ((1:Nat):Int)) = BitVec.allOnes 64:=by decide
   rw [this,BitVec.ofInt_natCast,BitVec.xor_allOnes,BitVec.toNat_not,BitVec.toNat_ofNat,Nat.mod_eq_of_lt (by omega)]
  rw [e]
  simp only [IntKind.wrap,IntKind.bits,IntKind.signed,Bool.true_and,decide_eq_true_eq,ge_iff_le,Nat.reduceSub,Int.reducePow]
  split <;> omega
def valB:List UInt8 → Nat
 | [] => 0
 | c :: l => c.toNat % 128 + 128 * valB l
theorem valB_app (c:UInt8):∀ p:List UInt8,valB (p ++ [c]) = valB p + c.toNat % 128 * 128 ^ p.length
 | [] => by simp [valB]
 | x :: p => by
  simp only [List.cons_append,valB,valB_app c p,List.length_cons,Nat.pow_succ]
  rw [Nat.mul_add,Nat.add_assoc,Nat.mul_comm 128 (c.toNat % 128 * 128 ^ p.length),Nat.mul_assoc]
theorem valB_lt:∀ p:List UInt8,valB p < 128 ^ p.length
 | [] => by simp [valB]
 | c :: p => by
  have h:=valB_lt p
  have hc:c.toNat % 128 < 128:=Nat.mod_lt _ (by omega)
  simp only [valB,List.length_cons,Nat.pow_succ]
  omega
def Byte1 (t:Nat) (s r:List UInt8):List TO → C → Prop:=fun Mo c => (r = [] ∧ Mo = [RB t s []] ∧ c = .tup [.int .u8 0,.opq 1]) ∨ ∃ x r',r = x :: r' ∧ Mo = [RB t s r'] ∧ c = .tup [bcell x,.opq 0]
theorem t85p (g:Nat) (s r:List UInt8) (hr:r <:+ s):CallsT PZ 85 [adr g 0] [RB (pin g 134) s r] (Byte1 (pin g 134) s r):=by
 have e:([adr g 0]:List C).map (C.toOwn1 g) = [.own 1000 0]:=by
  simp only [List.map_cons,List.map_nil,toOwn1_adr g 0 (by omega)]
 have h0:CallsTX PZ 85 [.own 1000 0] [RB 134 s r] (Byte1 134 s r) (fun _ => False):=by
  cases r with
  | nil => exact (t85n s).toX.imp (fun Mo c ⟨h1,h2⟩ => .inl ⟨rfl,h1,h2⟩) fun _ h => h
  | cons x r => exact (t85c s x r hr).toX.imp (fun Mo c ⟨h1,h2⟩ => .inr ⟨x,r,rfl,h1,h2⟩) fun _ h => h
 refine CallsTX.noPan ((CallsTX.pinned g (by omega) (by rw [e]; exact h0)).imp ?_ fun _ h => h)
 rintro Mo c ⟨Mo0,⟨h1,rfl,h2⟩ | ⟨x,r',h1,rfl,h2⟩,rfl⟩
 ·exact .inl ⟨h1,rfl,h2⟩
 ·exact .inr ⟨x,r',h1,rfl,h2⟩
section
variable {L:TL} {ρ:TEnv}
theorem byteE {args args':List C} {t:Nat} {s r:List UInt8} {K:TL → TEnv → C → Prop} (h:CallsT PZ 85 args' [RB t s r] (Byte1 t s r))
  (hs:L.sub [1000] = some [RB t s r]) (ha:(args.map fun c => c.canA.ren (toIn [1000] 1000)) = args')
  (k1:r = [] → K ((L.dels [1000]).puts [1000] [RB t s []]) ρ (.tup [.int .u8 0,.opq 1])) (k2:∀ x r',r = x :: r' → K ((L.dels [1000]).puts [1000] [RB t s r']) ρ (.tup [bcell x,.opq 0])):CallT PZ 85 args L ρ K:=by
 subst ha
 refine .mk ⟨[],[1000],[1000],L,_,_,.inl rfl,hs,rfl,rfl,rfl,rfl,h,?_⟩
 rintro v Mo (⟨e1,rfl,rfl⟩ | ⟨x,r',e1,rfl,rfl⟩) hw hwo
 ·refine ⟨rfl,?_⟩
  rw [rows1 hs]
  exact k1 e1
 ·refine ⟨rfl,?_⟩
  rw [rows1 hs]
  exact k2 x r' e1
end
def NL (g:Nat) (s p r:List UInt8):TL:=[(1,.box 91 [adr g 0]),(18,.row 5 1 (bcells p)),(1000,RB (pin g 134) s r)]
theorem numGo_end {k z:Nat} {l:List UInt8} (h:9 ≤ k):numGo (9 - k) k z l = none:=by
 rw [show 9 - k = 0 by omega]; rfl
theorem app_bcells (p:List UInt8) (x:UInt8):bcells p ++ [[bcell x]] = bcells (p ++ [x]):=by simp [bcells]
theorem t49 (g:Nat) (s r:List UInt8) (hr:r <:+ s):RdOk 49 [.agg [adr g 0]] (pin g 134) s r (numD r) IC:=by
 refine callsTX_facts Tryd.func49 facts49 rfl fun hw ho => ?_
 refine LoopT.mk ⟨List UInt8 × List UInt8,([],r),fun y => y.1.length ≤ 9 ∧ numGo (9 - y.1.length) y.1.length (valB y.1) y.2 = numD r ∧ y.2 <:+ r,[3],fun _ => [.rw 18],fun y => NL g s y.1 y.2,fun y => y.2.length + 1,⟨by simp,rfl,List.suffix_refl r⟩,⟨nil_rw rfl rfl,trivial⟩,
  ⟨.inl ⟨_,rfl,.inl ⟨rfl,rfl⟩⟩,.inr ⟨rfl,5,1,rfl⟩,.inl ⟨_,rfl,.inl ⟨rfl,rfl⟩⟩,trivial⟩,fun _ => rfl,fun _ => rfl,?_⟩
 rintro ⟨p,rest⟩ ⟨hp9,hinv,hsuf⟩ _ _
 simp only at hp9 hinv hsuf
 refine byteE (t85p g s rest (hsuf.trans hr)) rfl rfl (fun e => ?_) fun x r' e => ?_
 ·refine app1r p.length rfl bcells_len (by omega) (by omega) ?_
  subst e
  refine panT rfl ⟨rfl,?_⟩
  rw [← hinv]
  cases (9 - p.length) <;> rfl
 ·subst e
  refine app1r p.length rfl bcells_len (by omega) (by omega) ?_
  have hx:=x.toNat_lt
  have hlen:(bcells p ++ [[bcell x]]).length = p.length + 1:=by simp [bcells]
  have hsz:x.toNat % 128 < 128:=Nat.mod_lt _ (by omega)
  refine brn_p (fun h9 => ?_) (fun h9 => ?_)
  ·have h9:(9:Int) < ((bcells p ++ [[bcell x]]).length:Int):=h9
   rw [hlen] at h9
   refine panT rfl ⟨rfl,?_⟩
   rw [← hinv]
   exact numGo_end (by omega)
  have h9:¬ (9:Int) < ((bcells p ++ [[bcell x]]).length:Int):=h9
  rw [hlen] at h9
  have h9e:9 - p.length = (9 - (p.length + 1)) + 1:=by omega
  rw [h9e] at hinv
  simp only [numGo] at hinv
  have hvl:p.length + 1 = (p ++ [x]).length:=by simp
  have hva:=valB_app x p
  -- on with the next byte
  have on:¬ x.toNat < 128 → numGo (9 - (p ++ [x]).length) (p ++ [x]).length (valB (p ++ [x])) r' = numD r:=fun hhi => by
   rw [if_neg hhi] at hinv
   rw [← hvl,hva,show x.toNat % 128 = x.toNat - 128 by omega]
   exact hinv
  have fin:x.toNat < 128 → (0 < x.toNat ∨ p.length = 0) → numD r = some (unz (valB (p ++ [x])),r'):=fun hlo h0 => by
   rw [if_pos hlo,if_pos h0] at hinv
   rw [← hinv,hva,Nat.mod_eq_of_lt hlo]
  have hsf:r' <:+ r:=(List.suffix_cons x r').trans hsuf
  have heq:bcells p ++ [[bcell x]] = bcells (p ++ [x]):=app_bcells p x
  refine brn_p (fun h1 => ?_) (fun h1 => ?_)
  ·have h1:(1:Int) < ((bcells p ++ [[bcell x]]).length:Int):=h1
   rw [hlen] at h1
   refine brn_p (fun h0 => ?_) (fun h0 => ?_)
   ·have h0:x.toNat = 0:=by omega
    refine panT rfl ⟨rfl,?_⟩
    rw [← hinv,if_pos (by omega),if_neg (by omega)]
   have h0:0 < x.toNat:=by omega
   refine brn_p (fun hlow => ?_) (fun hhi => ?_)
   ·have hlow:x.toNat < 128:=by omega
    have hq9:(p ++ [x]).length ≤ 9:=by rw [← hvl]; omega
    have hvlt:=valB_lt (p ++ [x])
    have hp9':128 ^ (p ++ [x]).length ≤ 128 ^ 9:=Nat.pow_le_pow_right (by omega) hq9
    have hfin:=fin hlow (.inl h0)
    refine loopN (p ++ [x]).length 40 [6] (0:Nat) (fun z => [.int .u64 z]) (fun _ => [(1,.box 91 [adr g 0]),(1000,RB (pin g 134) s r')]) (fun k z => z = valB ((p ++ [x]).take k)) rfl (same_keys rfl) ⟨same_keys rfl,trivial⟩
     ⟨.inl ⟨_,rfl,.inl ⟨rfl,rfl⟩⟩,.inl ⟨_,rfl,.inl ⟨rfl,rfl⟩⟩,trivial⟩ (fun _ => rfl) (fun _ => rfl) fun k z hk hz _ _ _ => ?_
    refine brn_p (fun hlt => ?_) (fun hge => ?_)
    ·have hlt:(k:Int) < ((bcells p ++ [[bcell x]]).length:Int):=hlt
     rw [heq,bcells_len] at hlt
     have hlt:k < (p ++ [x]).length:=by omega
     refine withGet hlt fun y hy _ => ?_
     have hget:(bcells p ++ [[bcell x]])[((k:Nat):Int).toNat]? = some [bcell y]:=by
      rw [heq,Int.toNat_natCast,bcells,List.getElem?_map,hy]; rfl
     refine IdxT.mk ⟨[bcell y],by omega,hget,rfl,?_⟩
     have hyl:=y.toNat_lt
     have hk9:k < 9:=by omega
     have hpk:128 ^ k ≤ 128 ^ 8:=Nat.pow_le_pow_right (by omega) (by omega)
     have hc:y.toNat % 128 < 128:=Nat.mod_lt _ (by omega)
     have hcb:y.toNat % 128 * 128 ^ k ≤ 127 * 128 ^ 8:=Nat.mul_le_mul (by omega) hpk
     have hzl:z < 128 ^ k:=by
      rw [hz]
      have:=valB_lt ((p ++ [x]).take k)
      rwa [List.length_take,Nat.min_eq_left (by omega)] at this
     refine Fit.to (m:=((y.toNat % 128:Nat):Int)) ((congrArg (IntKind.wrap .u64) (and8 y)).trans (by rw [wrapu_emod']; omega)) ?_
     refine Fit.to (m:=((7 * k:Nat):Int)) (by rw [wrap64_id (by omega) (by omega)]; omega) ?_
     refine ⟨by omega,Fit.to (m:=((y.toNat % 128 * 128 ^ k:Nat):Int)) ?_ ?_⟩
     ·rw [wrapu_emod',show min (((7 * k:Nat):Int)).toNat IntKind.u64.bits = 7 * k by simp only [Int.toNat_natCast,IntKind.bits]; omega]
      have:((y.toNat % 128:Nat):Int) * 2 ^ (7 * k) = ((y.toNat % 128 * 128 ^ k:Nat):Int):=by
       rw [show (128:Nat) ^ k = 2 ^ (7 * k) by rw [Nat.pow_mul]]
       push_cast
       rfl
      rw [this]
      omega
     refine Fit.in64 (by omega) (by omega) ?_
     refine ⟨(k + 1,z + y.toNat % 128 * 128 ^ k),⟨by omega,?_⟩,⟨nextI,⟨.inr (.inl ⟨congrArg (C.int .u64) (oru_eq hzl hc hk9),rfl⟩),trivial⟩⟩,⟨.inl ⟨_,rfl,.inl ⟨rfl,rfl⟩⟩,.inl ⟨_,rfl,.inl ⟨rfl,rfl⟩⟩,trivial⟩,(by show (p ++ [x]).length - (k + 1) < (p ++ [x]).length - k; omega)⟩
     show _ = valB ((p ++ [x]).take (k + 1))
     rw [List.take_add_one,hy,hz]
     simp only [Option.toList]
     rw [valB_app,List.length_take,Nat.min_eq_left (by omega)]
    ·have hge:¬ (k:Int) < ((bcells p ++ [[bcell x]]).length:Int):=hge
     rw [heq,bcells_len] at hge
     have hge:(p ++ [x]).length ≤ k:=by omega
     have hz:z = valB (p ++ [x]):=by rw [hz,List.take_of_length_le hge]
     have hz63:z < 9223372036854775808:=by rw [hz]; omega
     refine ⟨by decide,?_⟩
     refine Fit.to (m:=((z / 2:Nat):Int)) (by
      show IntKind.wrap .i64 ((z:Int).fdiv 2) = _
      rw [Int.fdiv_eq_ediv_of_nonneg _ (by decide)]
      exact wrap64_id (by omega) (by omega)) ?_
     refine Fit.to (m:=((z % 2:Nat):Int)) ((congrArg (IntKind.wrap .i64) (and1 z (by omega))).trans (wrap64_id (by omega) (by omega))) ?_
     refine Fit.to (m:=0 - ((z % 2:Nat):Int)) (wrap64_id (by omega) (by omega)) ?_
     refine retR [1000] rfl rfl rfl (congrArg (C.int .i64) (xor_eq hz63)) ⟨_,r',?_,hsf,rfl,rfl⟩
     rw [hfin,hz]
   ·have hhi:¬ x.toNat < 128:=by omega
    exact ⟨(p ++ [x],r'),⟨by rw [← hvl]; omega,on hhi,hsf⟩,⟨same_keys rfl,trivial⟩,⟨.inl ⟨_,rfl,.inl ⟨rfl,rfl⟩⟩,.inl ⟨_,rfl,.inl ⟨congrArg (TO.row 5 1) heq,rfl⟩⟩,.inl ⟨_,rfl,.inl ⟨rfl,rfl⟩⟩,trivial⟩,Nat.lt_succ_self _⟩
  ·have h1:¬ (1:Int) < ((bcells p ++ [[bcell x]]).length:Int):=h1
   rw [hlen] at h1
   have h1:p.length = 0:=by omega
   refine brn_p (fun hlow => ?_) (fun hhi => ?_)
   ·have hlow:x.toNat < 128:=by omega
    have hq9:(p ++ [x]).length ≤ 9:=by rw [← hvl]; omega
    have hvlt:=valB_lt (p ++ [x])
    have hp9':128 ^ (p ++ [x]).length ≤ 128 ^ 9:=Nat.pow_le_pow_right (by omega) hq9
    have hfin:=fin hlow (.inr h1)
    refine loopN (p ++ [x]).length 40 [6] (0:Nat) (fun z => [.int .u64 z]) (fun _ => [(1,.box 91 [adr g 0]),(1000,RB (pin g 134) s r')]) (fun k z => z = valB ((p ++ [x]).take k)) rfl (same_keys rfl) ⟨same_keys rfl,trivial⟩
     ⟨.inl ⟨_,rfl,.inl ⟨rfl,rfl⟩⟩,.inl ⟨_,rfl,.inl ⟨rfl,rfl⟩⟩,trivial⟩ (fun _ => rfl) (fun _ => rfl) fun k z hk hz _ _ _ => ?_
    refine brn_p (fun hlt => ?_) (fun hge => ?_)
    ·have hlt:(k:Int) < ((bcells p ++ [[bcell x]]).length:Int):=hlt
     rw [heq,bcells_len] at hlt
     have hlt:k < (p ++ [x]).length:=by omega
     refine withGet hlt fun y hy _ => ?_
     have hget:(bcells p ++ [[bcell x]])[((k:Nat):Int).toNat]? = some [bcell y]:=by
      rw [heq,Int.toNat_natCast,bcells,List.getElem?_map,hy]; rfl
     refine IdxT.mk ⟨[bcell y],by omega,hget,rfl,?_⟩
     have hyl:=y.toNat_lt
     have hk9:k < 9:=by omega
     have hpk:128 ^ k ≤ 128 ^ 8:=Nat.pow_le_pow_right (by omega) (by omega)
     have hc:y.toNat % 128 < 128:=Nat.mod_lt _ (by omega)
     have hcb:y.toNat % 128 * 128 ^ k ≤ 127 * 128 ^ 8:=Nat.mul_le_mul (by omega) hpk
     have hzl:z < 128 ^ k:=by
      rw [hz]
      have:=valB_lt ((p ++ [x]).take k)
      rwa [List.length_take,Nat.min_eq_left (by omega)] at this
     refine Fit.to (m:=((y.toNat % 128:Nat):Int)) ((congrArg (IntKind.wrap .u64) (and8 y)).trans (by rw [wrapu_emod']; omega)) ?_
     refine Fit.to (m:=((7 * k:Nat):Int)) (by rw [wrap64_id (by omega) (by omega)]; omega) ?_
     refine ⟨by omega,Fit.to (m:=((y.toNat % 128 * 128 ^ k:Nat):Int)) ?_ ?_⟩
     ·rw [wrapu_emod',show min (((7 * k:Nat):Int)).toNat IntKind.u64.bits = 7 * k by simp only [Int.toNat_natCast,IntKind.bits]; omega]
      have:((y.toNat % 128:Nat):Int) * 2 ^ (7 * k) = ((y.toNat % 128 * 128 ^ k:Nat):Int):=by
       rw [show (128:Nat) ^ k = 2 ^ (7 * k) by rw [Nat.pow_mul]]
       push_cast
       rfl
      rw [this]
      omega
     refine Fit.in64 (by omega) (by omega) ?_
     refine ⟨(k + 1,z + y.toNat % 128 * 128 ^ k),⟨by omega,?_⟩,⟨nextI,⟨.inr (.inl ⟨congrArg (C.int .u64) (oru_eq hzl hc hk9),rfl⟩),trivial⟩⟩,⟨.inl ⟨_,rfl,.inl ⟨rfl,rfl⟩⟩,.inl ⟨_,rfl,.inl ⟨rfl,rfl⟩⟩,trivial⟩,(by show (p ++ [x]).length - (k + 1) < (p ++ [x]).length - k; omega)⟩
     show _ = valB ((p ++ [x]).take (k + 1))
     rw [List.take_add_one,hy,hz]
     simp only [Option.toList]
     rw [valB_app,List.length_take,Nat.min_eq_left (by omega)]
    ·have hge:¬ (k:Int) < ((bcells p ++ [[bcell x]]).length:Int):=hge
     rw [heq,bcells_len] at hge
     have hge:(p ++ [x]).length ≤ k:=by omega
     have hz:z = valB (p ++ [x]):=by rw [hz,List.take_of_length_le hge]
     have hz63:z < 9223372036854775808:=by rw [hz]; omega
     refine ⟨by decide,?_⟩
     refine Fit.to (m:=((z / 2:Nat):Int)) (by
      show IntKind.wrap .i64 ((z:Int).fdiv 2) = _
      rw [Int.fdiv_eq_ediv_of_nonneg _ (by decide)]
      exact wrap64_id (by omega) (by omega)) ?_
     refine Fit.to (m:=((z % 2:Nat):Int)) ((congrArg (IntKind.wrap .i64) (and1 z (by omega))).trans (wrap64_id (by omega) (by omega))) ?_
     refine Fit.to (m:=0 - ((z % 2:Nat):Int)) (wrap64_id (by omega) (by omega)) ?_
     refine retR [1000] rfl rfl rfl (congrArg (C.int .i64) (xor_eq hz63)) ⟨_,r',?_,hsf,rfl,rfl⟩
     rw [hfin,hz]
   ·have hhi:¬ x.toNat < 128:=by omega
    exact ⟨(p ++ [x],r'),⟨by rw [← hvl]; omega,on hhi,hsf⟩,⟨same_keys rfl,trivial⟩,⟨.inl ⟨_,rfl,.inl ⟨rfl,rfl⟩⟩,.inl ⟨_,rfl,.inl ⟨congrArg (TO.row 5 1) heq,rfl⟩⟩,.inl ⟨_,rfl,.inl ⟨rfl,rfl⟩⟩,trivial⟩,Nat.lt_succ_self _⟩
theorem t50p (g:Nat) (s r:List UInt8) (hr:r <:+ s):CallsT PZ 50 [adr g 0] [RB (pin g 134) s r] (Ret [RB (pin g 134) s r] (IC r.length)):=by
 have e:([adr g 0]:List C).map (C.toOwn1 g) = [.own 1000 0]:=by
  simp only [List.map_cons,List.map_nil,toOwn1_adr g 0 (by omega)]
 refine CallsTX.noPan ((CallsTX.pinned g (by omega) (by rw [e]; exact (t50o s r hr).toX)).imp ?_ fun _ h => h)
 rintro Mo c ⟨Mo0,⟨rfl,h2⟩,rfl⟩
 exact ⟨rfl,h2⟩
theorem CallsTI.pinned {P:Program} {f:Nat} {args:List C} {t:Nat} {cs:List C} {Ls:List TO} {R:List TO → C → Prop} (g:Nat) (ht:t < 1048576) (h:CallsTI P f (args.map (C.toOwn1 g)) (.box t cs :: Ls) R) :
  CallsTI P f args (.box (pin g t) cs :: Ls) (fun Mo c => ∃ Mo0,R Mo0 c ∧ Mo = retag (pin g t) Mo0):=by
 refine ⟨fun F Li vs h1 h2 h3 => ?_⟩
 obtain ⟨g',t',us,e0,hty⟩:=head_box h2
 obtain ⟨rfl,rfl⟩:=pin_inj ht hty
 have hget:(inp Li).get 1000 = some (.box g t us):=by rw [inp_get,if_pos (Nat.le_refl _)]; exact e0
 have h2':=tl_retag (t:=t) h2 e0 ⟨ht,.inl rfl⟩
 have hA:=h.out F Li vs h1 h2' (h3.map fun c _ v hv => Rel.mp (own_leaf hget) 3 hv)
 refine ⟨hA.ent,monoI,fun w hs => (hA.run w hs).mono ?_⟩
 rintro e w' ⟨v,F',Lo,k1,k2,k3,⟨Mo,c,q1,q2,q3,q4,q5⟩,hip⟩
 obtain ⟨cs',e1⟩:=q4 0 g t us e0
 refine ⟨v,F',Lo,k1,k2,k3,⟨retag (pin g t) Mo,c,?_,tl_retag q2 e1 ⟨ht,.inr rfl⟩,q3,q4,Mo,q5,rfl⟩,hip⟩
 rw [← q1]
 match Mo with
 | [] => rfl
 | .row .. :: l => rfl
 | .box .. :: l => rfl
theorem CallsTI.imp {P:Program} {f:Nat} {args:List C} {Lin:List TO} {R R':List TO → C → Prop} (h:CallsTI P f args Lin R) (hk:∀ Mo c,R Mo c → R' Mo c):CallsTI P f args Lin R':=by
 refine ⟨fun F Li vs h1 h2 h3 => ?_⟩
 have hA:=h.out F Li vs h1 h2 h3
 refine ⟨hA.ent,monoI,fun w hs => (hA.run w hs).mono ?_⟩
 rintro e w' ⟨v,F',Lo,k1,k2,k3,⟨Mo,c,q1,q2,q3,q4,q5⟩,hip⟩
 exact ⟨v,F',Lo,k1,k2,k3,⟨Mo,c,q1,q2,q3,q4,hk _ _ q5⟩,hip⟩
theorem t84p (g:Nat) (s r:List UInt8) (hr:r <:+ s) (n:Nat) (hn:n ≤ r.length) (els:List (List C)) (hl:els.length = n) :
  CallsTI PZ 84 [adr g 0,.rw 1001] [RB (pin g 134) s r,.row 5 1 els] (fun Mo c => Mo = [RB (pin g 134) s (r.drop n),.row 5 1 (bcells (r.take n))] ∧ c = .any):=by
 have e:([adr g 0,.rw 1001]:List C).map (C.toOwn1 g) = [.own 1000 0,.rw 1001]:=by
  simp only [List.map_cons,List.map_nil,toOwn1_adr g 0 (by omega)]
  rfl
 refine CallsTI.imp (CallsTI.pinned g (by omega) (by rw [e]; exact t84o s r hr n hn els hl)) ?_
 rintro Mo c ⟨Mo0,⟨rfl,h2⟩,rfl⟩
 exact ⟨rfl,h2⟩
section
variable {L:TL} {ρ:TEnv}
theorem readE (kr:Nat) {args args':List C} {t n:Nat} {s r:List UInt8} {els:List (List C)} {K:TL → TEnv → C → Prop} (h:CallsTI PZ 84 args' [RB t s r,.row 5 1 els] (fun Mo c => Mo = [RB t s (r.drop n),.row 5 1 (bcells (r.take n))] ∧ c = .any))
  (hs:L.sub [1000,kr] = some [RB t s r,.row 5 1 els]) (hc:T.nodup? [1000,kr] = true) (ha:(args.map fun c => c.canA.ren (toIn [1000,kr] 1000)) = args')
  (k:K ((L.dels [1000,kr]).puts [1000,kr] [RB t s (r.drop n),.row 5 1 (bcells (r.take n))]) ρ .any):CallT PZ 84 args L ρ K:=by
 subst ha
 refine .inpl [1000,kr] _ _ hs hc h ?_
 rintro v Mo ⟨rfl,rfl⟩ hw hwo
 exact ⟨rfl,k⟩
end
theorem len_ok {t:Nat} {s r:List UInt8} (hr:r <:+ s) (hs:s.length ≤ 1073741824):r.length ≤ 1073741824:=Nat.le_trans (suf_len hr) hs
theorem t46 (g:Nat) (s r:List UInt8) (hr:r <:+ s) (hs:s.length ≤ 1073741824):RdOk 46 [.agg [adr g 0]] (pin g 134) s r (bytesD r) (fun b => .sl (bcells b)):=by
 refine callsTX_facts Tryd.func46 facts46 rfl fun hw ho => ?_
 refine rdN 1000 (t49 g s r hr) rfl rfl rfl rfl (fun h => ⟨rfl,by simp only [bytesD,h]⟩) fun n r2 e hsf _ => ?_
 have hr2:=hsf.trans hr
 have hl2:=len_ok (t:=0) hr2 hs
 refine brn_p (fun h0 => ?_) (fun h0 => ?_)
 ·refine panT rfl ⟨rfl,?_⟩
  simp only [bytesD,e,takeD]
  rw [if_neg (by omega)]
 refine callO [1000] [1000] (t50p g s r2 hr2) rfl rfl rfl rfl rfl fun _ _ => ?_
 refine brn_p (fun h1 => ?_) (fun h1 => ?_)
 ·refine panT rfl ⟨rfl,?_⟩
  simp only [bytesD,e,takeD]
  rw [if_neg (by omega)]
 refine MakePt.mk (by omega) (Int.le_refl _) (by omega) (by simp only [maxLen]; omega) ?_
 refine readE 18 (t84p g s r2 hr2 n.toNat (by omega) _ (by simp)) rfl rfl rfl ?_
 have ht:bytesD r = some (r2.take n.toNat,r2.drop n.toNat):=by
  simp only [bytesD,e]
  exact takeD_pos (by omega) (by omega)
 refine retRF [18] [1000] ⟨_,_,rfl,rfl,rfl,?_⟩
 exact ⟨_,_,ht,(List.drop_suffix _ _).trans hsf,rfl,rfl⟩
theorem t45 (g:Nat) (s r:List UInt8) (hr:r <:+ s) (hs:s.length ≤ 1073741824):RdOk 45 [.pt [adr g 0] 0] (pin g 134) s r (textD r) C.str:=by
 refine callsTX_facts Tryd.func45 facts45 rfl fun hw ho => ?_
 refine rdN 1000 (t46 g s r hr hs) rfl rfl rfl rfl (fun h => ⟨rfl,by simp only [textD,h]⟩) fun b r2 e hsf _ => ?_
 refine BytesT.mk ⟨b,rfl,?_⟩
 refine retR [1000] rfl rfl rfl rfl ⟨_,r2,?_,hsf,rfl,rfl⟩
 simp only [textD,e]
def repO {α:Type} (a:List α):Option (List α × List UInt8) → Option (List α × List UInt8)
 | some (xs,r) => some (a ++ xs,r)
 | none => none
theorem repO_step {α:Type} {f:Dec α} {a:List α} {n:Nat} {l r:List UInt8} {x:α} (h:f l = some (x,r)):repO a (repD f (n + 1) l) = repO (a ++ [x]) (repD f n r):=by
 simp only [repD,h]
 cases repD f n r with
 | none => rfl
 | some p => simp [repO]
theorem repO_none {α:Type} {f:Dec α} {a:List α} {n:Nat} {l:List UInt8} (h:f l = none):repO a (repD f (n + 1) l) = none:=by simp only [repD,h]; rfl
theorem repO_nil {α:Type} (o:Option (List α × List UInt8)):repO [] o = o:=by cases o <;> simp [repO]
def RdR (g t:Nat) (cell:List (List C)) (s r:List UInt8):TL:=[(2,.box 91 [adr g 0]),(26,.row t 1 cell),(1000,RB (pin g 134) s r)]
theorem t47 (g:Nat) (s r:List UInt8) (hr:r <:+ s) (hs:s.length ≤ 1073741824):RdOk 47 [.agg [adr g 0],.fn 45 [] [.pt [adr g 0] 0]] (pin g 134) s r (listD textD r) (fun l => .sl (strs l)):=by
 refine callsTX_facts Tryd.func47 facts47 rfl fun hw ho => ?_
 refine rdN 1000 (t49 g s r hr) rfl rfl rfl rfl (fun h => ⟨rfl,by simp only [listD,h]⟩) fun n r2 e hsf _ => ?_
 have hr2:=hsf.trans hr
 have hl2:=len_ok (t:=0) hr2 hs
 refine brn_p (fun h0 => ?_) (fun h0 => ?_)
 ·refine panT rfl ⟨rfl,?_⟩
  simp only [listD,e]
  rw [if_neg (by omega)]
 refine callO [1000] [1000] (t50p g s r2 hr2) rfl rfl rfl rfl rfl fun _ _ => ?_
 refine brn_p (fun h1 => ?_) (fun h1 => ?_)
 ·refine panT rfl ⟨rfl,?_⟩
  simp only [listD,e]
  rw [if_neg (by omega)]
 have hl:listD textD r = repO [] (repD textD n.toNat r2):=by
  simp only [listD,e]
  rw [if_pos ⟨by omega,by omega⟩,repO_nil]
 refine loopN n.toNat 20 [6] (([],r2):List ByteArray × List UInt8) (fun _ => [.rw 26]) (fun y => RdR g 9 (strs y.1) s y.2) (fun k y => y.1.length = k ∧ repO y.1 (repD textD (n.toNat - k) y.2) = listD textD r ∧ y.2 <:+ r) ⟨rfl,hl.symm,hsf⟩ (same_keys rfl) ⟨nil_rw rfl rfl,trivial⟩
  ⟨.inl ⟨_,rfl,.inl ⟨rfl,rfl⟩⟩,.inr ⟨rfl,9,1,rfl⟩,.inl ⟨_,rfl,.inl ⟨rfl,rfl⟩⟩,trivial⟩ (fun _ => rfl) (fun _ => rfl) ?_
 rintro k ⟨a,l⟩ hk ⟨hak,hinv,hlr⟩ _ _ _
 simp only at hak hinv hlr
 refine brn_p (fun hlt => ?_) (fun hge => ?_)
 ·have hlt:k < n.toNat:=by omega
  have h6:n.toNat - k = (n.toNat - (k + 1)) + 1:=by omega
  refine rdN 1000 (t45 g s l (hlr.trans hr) hs) rfl rfl rfl rfl (fun h => ⟨rfl,?_⟩) fun x r3 e2 hs3 _ => ?_
  ·rw [← hinv,h6,repO_none h]
  refine app1r k rfl (by rw [strs_len']; exact hak) (by omega) (by omega) ?_
  refine Fit.in64 (by omega) (by omega) ?_
  refine ⟨(k + 1,(a ++ [x],r3)),⟨by omega,by simp [hak],?_,hs3.trans hlr⟩,⟨nextI,⟨same_keys rfl,trivial⟩⟩,⟨.inl ⟨_,rfl,.inl ⟨rfl,rfl⟩⟩,.inl ⟨_,rfl,.inl ⟨?_,rfl⟩⟩,.inl ⟨_,rfl,.inl ⟨rfl,rfl⟩⟩,trivial⟩,nextM hlt⟩
  ·rw [← hinv,h6,repO_step e2]
  ·exact congrArg (TO.row 9 1) (List.map_append (f:=fun n => [C.str n]) (l₁:=a) (l₂:=[x])).symm
 ·have:n.toNat - k = 0:=by omega
  rw [this] at hinv
  refine retRF [26] [1000] ⟨_,_,rfl,rfl,rfl,?_⟩
  exact ⟨a,l,by rw [← hinv]; simp [repD,repO],hlr,rfl,rfl⟩
theorem t48 (g:Nat) (s r:List UInt8) (hr:r <:+ s) (hs:s.length ≤ 1073741824):RdOk 48 [.agg [adr g 0],.fn 49 [.agg [adr g 0]] []] (pin g 134) s r (listD numD r) (fun l => .sl (ics l)):=by
 refine callsTX_facts Tryd.func48 facts48 rfl fun hw ho => ?_
 refine rdN 1000 (t49 g s r hr) rfl rfl rfl rfl (fun h => ⟨rfl,by simp only [listD,h]⟩) fun n r2 e hsf _ => ?_
 have hr2:=hsf.trans hr
 have hl2:=len_ok (t:=0) hr2 hs
 refine brn_p (fun h0 => ?_) (fun h0 => ?_)
 ·refine panT rfl ⟨rfl,?_⟩
  simp only [listD,e]
  rw [if_neg (by omega)]
 refine callO [1000] [1000] (t50p g s r2 hr2) rfl rfl rfl rfl rfl fun _ _ => ?_
 refine brn_p (fun h1 => ?_) (fun h1 => ?_)
 ·refine panT rfl ⟨rfl,?_⟩
  simp only [listD,e]
  rw [if_neg (by omega)]
 have hl:listD numD r = repO [] (repD numD n.toNat r2):=by
  simp only [listD,e]
  rw [if_pos ⟨by omega,by omega⟩,repO_nil]
 refine loopN n.toNat 20 [6] (([],r2):List Int × List UInt8) (fun _ => [.rw 26]) (fun y => RdR g 3 (ics y.1) s y.2) (fun k y => y.1.length = k ∧ repO y.1 (repD numD (n.toNat - k) y.2) = listD numD r ∧ y.2 <:+ r) ⟨rfl,hl.symm,hsf⟩ (same_keys rfl) ⟨nil_rw rfl rfl,trivial⟩
  ⟨.inl ⟨_,rfl,.inl ⟨rfl,rfl⟩⟩,.inr ⟨rfl,3,1,rfl⟩,.inl ⟨_,rfl,.inl ⟨rfl,rfl⟩⟩,trivial⟩ (fun _ => rfl) (fun _ => rfl) ?_
 rintro k ⟨a,l⟩ hk ⟨hak,hinv,hlr⟩ _ _ _
 simp only at hak hinv hlr
 refine brn_p (fun hlt => ?_) (fun hge => ?_)
 ·have hlt:k < n.toNat:=by omega
  have h6:n.toNat - k = (n.toNat - (k + 1)) + 1:=by omega
  refine rdN 1000 (t49 g s l (hlr.trans hr)) rfl rfl rfl rfl (fun h => ⟨rfl,?_⟩) fun x r3 e2 hs3 _ => ?_
  ·rw [← hinv,h6,repO_none h]
  refine app1r k rfl (by simpa [ics] using hak) (by omega) (by omega) ?_
  refine Fit.in64 (by omega) (by omega) ?_
  refine ⟨(k + 1,(a ++ [x],r3)),⟨by omega,by simp [hak],?_,hs3.trans hlr⟩,⟨nextI,⟨same_keys rfl,trivial⟩⟩,⟨.inl ⟨_,rfl,.inl ⟨rfl,rfl⟩⟩,.inl ⟨_,rfl,.inl ⟨?_,rfl⟩⟩,.inl ⟨_,rfl,.inl ⟨rfl,rfl⟩⟩,trivial⟩,nextM hlt⟩
  ·rw [← hinv,h6,repO_step e2]
  ·exact congrArg (TO.row 3 1) (List.map_append (f:=fun n => [IC n]) (l₁:=a) (l₂:=[x])).symm
 ·have:n.toNat - k = 0:=by omega
  rw [this] at hinv
  refine retRF [26] [1000] ⟨_,_,rfl,rfl,rfl,?_⟩
  exact ⟨a,l,by rw [← hinv]; simp [repD,repO],hlr,rfl,rfl⟩
theorem ub_le:∀ {bs:List Own} {n m:Nat},Bxs bs [n,m] → ∃ g t cs g' t' cs',bs = [.box g t cs,.box g' t' cs'] ∧ cs.length = n ∧ cs'.length = m
 | [],_,_,h => h.elim
 | [_],_,_,h => h.2.elim
 | [o,p],n,m,h => by
  cases o with
  | row => exact h.1.elim
  | box g t cs =>
   cases p with
   | row => exact h.2.1.elim
   | box g' t' cs' => exact ⟨g,t,cs,g',t',cs',rfl,h.1,h.2.1⟩
 | _ :: _ :: _ :: _,_,_,h => h.2.2.elim
def outI (v:Value):List (List Value):=match v with
 | .iface _ (.int _ n) => [[.string ⟨#[]⟩,.slice none 0 0,.slice none 0 0,.int .i64 0,.slice none 0 0],[.int .i64 n]]
 | _ => []
theorem idle41 (bs:List Own) (w:World) (hb:Bxs bs [5,1]):CallsD PZ 41 (bs.map ptrO).toArray .returning w fun e u' w' => e = .returned (.tuple #[]) ∧ u' = .returning ∧ w' = w:=by
 have hn:Tryd.f41.ntmps = 13:=by kernel_rfl
 have hr:Tryd.f41.results = #[]:=by kernel_rfl
 obtain ⟨g,t,cs,g',t',cs',rfl,_,_⟩:=ub_le hb
 refine callsD_of_wpS Tryd.func41 rfl fun c₀ cs hu => ?_
 apply wpS_seq
 apply wpS_region
 simp [wpOpsS,go_sem,recoverD,hu,hn,Exit.thenS,ptrO]
 refine wpS_of_wp (wp_block (wp_seq (wp_region ?_)))
 have u20:PZ.underlying 20 = some (.interface #[]):=by kernel_rfl
 have he:∀ w:World,(Op.equal 20 .nilIface .nilIface).run PZ w = .ok true w:=fun w => eqv_ii u20
 simp [wpOps,go_sem,Exit.then,he,Exit.inBlock]
 refine .inl ?_
 apply wp_cond_true
 ·simp [Act.eval,Array.replicate]
 apply wp_region
 cases c₀
 simp_all [wpOps,go_sem,bodyPostS,results,Exit.inBlock]
theorem catch41:Catch PZ 41 (fun v => ∃ n,v = errV n) [5,1] outI:=by
 refine catch_facts Tryd.func41 facts41 rfl idle41 ?_
 rintro F bs v ⟨n,rfl⟩ hb
 obtain ⟨g,t,cs,g',t',cs',rfl,h1,h2⟩:=ub_le hb
 match cs,h1 with
 | [a,b,c,d,e],_ =>
  match cs',h2 with
  | [x],_ => exact rfl
end Go.Fr.Tryd
