/- Part of the proofs of the statements of this seat. -/
import Derived.Test.YtidbpicbmklccaaDoorFW3
import Derived.Test.YtidbpicbmklccaaDoorIfCode
set_option maxRecDepth 10000
set_option linter.unusedVariables false
set_option linter.unusedSimpArgs false
namespace Go.Fr.Tryd
open Go Go.RowKit Go.Proofs Go.Fr Go.Fr.T Go.Fr.Api
noncomputable abbrev PZ:Program:=Tryd.prog
def errV (n:Int):Value:=.iface 37 (.int .i64 n)
structure Ifc where
 module:ByteArray
 uses:List ByteArray
 against:List Int
 digest:Int
 body:List UInt8
def strs (l:List ByteArray):List (List C):=l.map fun s => [.str s]
def ifC (i:Ifc):List C:=[.str i.module,.sl (strs i.uses),.sl (ics i.against),IC i.digest,.sl (bcells i.body)]
theorem ics_len {l:List Int}:(ics l).length = l.length:=by simp [ics]
theorem strs_len' {l:List ByteArray}:(strs l).length = l.length:=by simp [strs]
theorem bcells_len {bs:List UInt8}:(bcells bs).length = bs.length:=by simp [bcells]
theorem bcells_sz {bs:List UInt8}:∀ es ∈ bcells bs,es.length = 1:=by
 intro es h
 simp only [bcells,List.mem_map] at h
 obtain ⟨b,_,rfl⟩:=h
 rfl
theorem bcells_slice (bs:List UInt8) (n m:Nat):((bcells bs).drop n).take m = bcells ((bs.drop n).take m):=by simp [bcells]
theorem Fit.to {k:IntKind} {n m:Int} {K:Int → Prop} (h:k.wrap n = m) (hK:K m):Fit k n K:=⟨by rw [h]; exact hK⟩
theorem wrap64_id {n:Int} (h1:-9223372036854775808 ≤ n) (h2:n ≤ 9223372036854775807):IntKind.wrap .i64 n = n:=by
 simp only [IntKind.wrap,IntKind.bits,IntKind.signed,Bool.true_and,decide_eq_true_eq,ge_iff_le,Nat.reduceSub,Int.reducePow]
 split <;> omega
theorem appB {bs:List UInt8} {els:List (List C)} {K:Prop} (n:Nat) (hn:els.length = n) (h:n + bs.length ≤ 140737488355328) (k:K):AppT els (bcells bs) 1 1 K :=
 ⟨bcells_sz,by rw [bcells_len,hn]; simp only [maxLen]; omega,by rw [bcells_len,hn]; omega,k⟩
theorem app1r {els:List (List C)} {c:List C} {sz by':Nat} {K:Prop} (n:Nat) (hc:c.length = sz) (hn:els.length = n) (hb:by' ≤ 1024) (h:n ≤ 2 ^ 30) (k:K):AppT els [c] sz by' K :=
 ⟨fun es he => (by rcases List.mem_cons.1 he with rfl | he; exact hc; cases he),by rw [hn]; simp only [List.length_cons,List.length_nil,maxLen]; omega,by
  rw [hn]
  simp only [List.length_cons,List.length_nil]
  calc (n + (0 + 1)) * by' ≤ (n + 1) * 1024:=Nat.mul_le_mul_left _ hb
   _ ≤ 140737488355328:=by omega,k⟩
theorem nil_rw {L L1:TL} {k t sz:Nat} (h:L.get k = none) (h1:L1.get k = some (.row t sz [])):leC L L1 .nils (.rw k):=.inr (.inr (.inr (.inl ⟨rfl,k,t,sz,rfl,h,h1⟩)))
abbrev Dec (α:Type):=List UInt8 → Option (α × List UInt8)
def takeD (n:Int):Dec (List UInt8):=fun l => if 0 ≤ n ∧ n ≤ l.length then some (l.take n.toNat,l.drop n.toNat) else none
def unz (z:Nat):Int:=if z % 2 = 0 then ((z / 2:Nat):Int) else -((z / 2:Nat):Int) - 1
def numGo:Nat → Nat → Nat → Dec Int
 | 0,_,_,_ => none
 | _ + 1,_,_,[] => none
 | f + 1,k,z,c :: r => if c.toNat < 128 then (if 0 < c.toNat ∨ k = 0 then some (unz (z + c.toNat * 128 ^ k),r) else none)
  else numGo f (k + 1) (z + (c.toNat - 128) * 128 ^ k) r
def numD:Dec Int:=numGo 9 0 0
def bytesD:Dec (List UInt8):=fun l => match numD l with
 | some (n,r) => takeD n r
 | none => none
def textD:Dec ByteArray:=fun l => match bytesD l with
 | some (b,r) => some (⟨b.toArray⟩,r)
 | none => none
def repD {α:Type} (f:Dec α):Nat → Dec (List α)
 | 0,l => some ([],l)
 | n + 1,l => match f l with
  | some (x,r) => match repD f n r with
   | some (xs,r) => some (x :: xs,r)
   | none => none
  | none => none
def listD {α:Type} (f:Dec α):Dec (List α):=fun l => match numD l with
 | some (n,r) => if 0 ≤ n ∧ n ≤ r.length then repD f n.toNat r else none
 | none => none
def andD {α β:Type} (f:Dec α) (k:α → Dec β):Dec β:=fun l => match f l with
 | none => none
 | some (x,r) => k x r
theorem andD_none {α β:Type} {f:Dec α} {k:α → Dec β} {l:List UInt8} (h:f l = none):andD f k l = none:=by simp only [andD,h]
theorem andD_some {α β:Type} {f:Dec α} {k:α → Dec β} {l r:List UInt8} {x:α} (h:f l = some (x,r)):andD f k l = k x r:=by simp only [andD,h]
def retD {α:Type} (x:α):Dec α:=fun l => some (x,l)
def ifD:Dec Ifc:=andD textD fun m => andD (listD textD) fun u => andD (listD numD) fun a => andD numD fun d => andD bytesD fun b => retD ⟨m,u,a,d,b⟩
theorem takeD_pos {n:Int} {bs:List UInt8} (h:0 ≤ n) (k:n ≤ bs.length):takeD n bs = some (bs.take n.toNat,bs.drop n.toNat):=by simp [takeD,h,k]
def RB (t:Nat) (s r:List UInt8):TO:=.box t [.sl (bcells s),IC ((s.length - r.length:Nat):Int),IC (-1)]
def RdOk {α:Type} (f:Nat) (args:List C) (t:Nat) (s r:List UInt8) (o:Option (α × List UInt8)) (cell:α → C):Prop :=
 CallsTX PZ f args [RB t s r] (fun Mo c => ∃ y r',o = some (y,r') ∧ r' <:+ r ∧ Mo = [RB t s r'] ∧ c = cell y) (fun v => v = errV 16 ∧ o = none)
section
variable {L:TL} {ρ:TEnv}
theorem rows1 {L:TL} {t:Nat} {cs:List C} (hs:L.sub [1000] = some [.box t cs]):rowsOf L [1000] = []:=by
 simp only [TL.sub] at hs
 split at hs
 ·rename_i o l h1 h2
  injection hs with hs
  injection hs with hs _
  subst hs
  simp only [rowsOf,h1]
 ·cases hs
theorem rowsK {L:TL} {k t:Nat} {cs:List C} (hs:L.sub [k] = some [.box t cs]):rowsOf L [k] = []:=by
 simp only [TL.sub] at hs
 split at hs
 ·rename_i o l h1 h2
  injection hs with hs
  injection hs with hs _
  subst hs
  simp only [rowsOf,h1]
 ·cases hs
theorem rdD {α:Type} (kb:Nat) {PS:Pan} {fb:List Nat} {f:Nat} {args args':List C} {t:Nat} {s r:List UInt8} {o:Option (α × List UInt8)} {cell:α → C} {K:TL → TEnv → C → Prop} (h:RdOk f args' t s r o cell)
  (hs:L.sub [kb] = some [RB t s r]) (hfb:disjB [kb] fb = true) (hh:hbOk L [kb] PS.hb = true) (ha:(args.map fun c => c.canA.ren (toIn [kb] 1000)) = args') (hp:o = none → PS.ps (errV 16))
  (k:∀ y r',o = some (y,r') → r' <:+ r → Wf (cell y) → K ((L.dels [kb]).puts [kb] [RB t s r']) ρ ((cell y).ren (fromIn [kb])).slt):CallXDT PZ PS fb f args L ρ K:=by
 subst ha
 refine ⟨[kb],_,_,_,hs,rfl,hfb,(by simp [boxesAt,RB]),hh,h,fun v ⟨e,h⟩ => e ▸ hp h,?_⟩
 rintro v Mo ⟨y,r',e1,e2,rfl,rfl⟩ hw hwo
 refine ⟨rfl,?_⟩
 rw [rowsK hs]
 exact k y r' e1 e2 hw
theorem rdN {α:Type} (kb:Nat) {PS:Pan} {f:Nat} {args args':List C} {t:Nat} {s r:List UInt8} {o:Option (α × List UInt8)} {cell:α → C} {K:TL → TEnv → C → Prop} (h:RdOk f args' t s r o cell)
  (hs:L.sub [kb] = some [RB t s r]) (hk:T.koOk L [kb] [kb] = true) (hh:hbOk L [kb] PS.hb = true) (ha:(args.map fun c => c.canA.ren (toIn [kb] 1000)) = args') (hp:o = none → PS.ps (errV 16))
  (k:∀ y r',o = some (y,r') → r' <:+ r → Wf (cell y) → K ((L.dels [kb]).puts [kb] [RB t s r']) ρ ((cell y).ren (fromIn [kb])).slt):CallXT PZ PS f args L ρ K:=by
 subst ha
 refine ⟨[],[kb],[kb],L,_,_,_,.inl rfl,hs,rfl,rfl,hk,(by simp [boxesAt,RB]),hh,h,fun v ⟨e,h⟩ => e ▸ hp h,?_⟩
 rintro v Mo ⟨y,r',e1,e2,rfl,rfl⟩ hw hwo
 refine ⟨rfl,?_⟩
 rw [rowsK hs]
 exact k y r' e1 e2 hw
theorem retR {R:List TO → C → Prop} (ko:List Nat) {Lin Mo Lo:List TO} {v x:C} (hs:L.sub ko = some Mo) (hc:(T.nodup? ko && boxesAt Lin (List.range' 1000 Lin.length) ko) = true) (hl:Mo.map (TO.mapC (C.ren (toIn ko 1000))) = Lo) (e:v.canR.ren (toIn ko 1000) = x) (h:R Lo x):RetT Lin L v R:=by
 simp only [Bool.and_eq_true] at hc
 exact ⟨[],ko,L,v,v,Mo,rfl,.inl ⟨rfl,rfl⟩,hs,hc.1,hc.2,fun _ => by rw [hl,e]; exact h⟩
theorem retRF {R:List TO → C → Prop} (fz ko:List Nat) {Lin:List TO} {v:C} (hf:frzK fz L (fun _ => .any) [v] fun L _ vs => ∃ c Mo,vs = [c] ∧ L.sub ko = some Mo ∧ (T.nodup? ko && boxesAt Lin (List.range' 1000 Lin.length) ko) = true ∧ R (Mo.map (TO.mapC (C.ren (toIn ko 1000)))) (c.canR.ren (toIn ko 1000))):RetT Lin L v R:=by
 refine ⟨fz,ko,?_⟩
 refine callF.frzK_imp hf ?_
 rintro L ρ vs ⟨c,Mo,rfl,hs,hc,hR⟩
 simp only [Bool.and_eq_true] at hc
 exact ⟨L,c,c,Mo,rfl,.inl ⟨rfl,rfl⟩,hs,hc.1,hc.2,fun _ => hR⟩
end
end Go.Fr.Tryd
namespace Go.Fr.Tryd
open Go Go.RowKit Go.Proofs Go.Fr Go.Fr.T Go.Fr.Api Go.Fr.Dm
theorem foldN_bd:∀ (l:List Int) (h:Int),(∀ x ∈ l,0 ≤ x) → 0 ≤ h ∧ h < 2147483647 → 0 ≤ l.foldl stepN h ∧ l.foldl stepN h < 2147483647
 | [],h,_,hb => hb
 | x :: l,h,hl,hb => foldN_bd l _ (fun y hy => hl y (by simp [hy])) (stepN_bd hb.1 (hl x (by simp)))
def dig (bs:List UInt8):Int:=foldN (bytesN bs)
theorem dig_bd (bs:List UInt8):0 ≤ dig bs ∧ dig bs < 2147483647:=foldN_bd _ _ (fun x hx => by
 simp only [bytesN,List.mem_map] at hx
 obtain ⟨b,_,rfl⟩:=hx
 omega) (by omega)
theorem t66 (b:UInt8):CallsT PZ 66 [bcell b] [] (Ret [] (.int .i64 b.toNat)):=by
 refine callsT_facts Tryd.func66 facts66 rfl fun hw _ => ?_
 refine Fit.in64 (by omega) (by have:=b.toNat_lt; omega) ?_
 exact retP rfl rfl
theorem t65 (bs:List UInt8):CallsT PZ 65 [.sl (bcells bs),.fn 66 [] []] [] (Ret [] (IC (dig bs))):=by
 refine callsT_facts Tryd.func65 facts65 rfl fun hw _ => ?_
 have hn:=wf_lenB hw.1
 refine loopN bs.length 10 [5] 7 (fun h => [.int .i64 h]) (fun _ => []) (fun k h => 0 ≤ h ∧ h < 2147483647 ∧ (bytesN (bs.drop k)).foldl stepN h = dig bs) ⟨by omega,by omega,rfl⟩
  (same_keys rfl) ⟨same_keys rfl,trivial⟩ trivial (fun _ => rfl) (fun _ => rfl) ?_
 rintro k h hk ⟨h0,h1,hf⟩ hw1 _ hk64
 refine brn_p (fun hlt => ?_) (fun hge => ?_)
 ·have hlt:k < bs.length:=by simpa [bcells] using hlt
  obtain ⟨b,hb,hd⟩:=drop_cons hlt
  rw [hd] at hf
  obtain ⟨g1,g2⟩:=stepN_bd (x:=b.toNat) h0 (by omega)
  have hbl:=b.toNat_lt
  refine idxB hb ?_
  refine Fit.in64 (by omega) (by omega) ?_
  refine callP (t66 b) rfl fun _ => ?_
  refine Fit.in64 (by omega) (by omega) ?_
  refine Fit.in64 (by omega) (by omega) ?_
  refine NonZ.mk (by omega) ?_
  refine Fit.in64 (by omega) (by omega) ?_
  exact ⟨(k + 1,stepN h b.toNat),⟨hlt,g1,g2,hf⟩,⟨nextI,same_keys rfl,trivial⟩,trivial,nextM hlt⟩
 ·have hge:¬ k < bs.length:=by simpa [bcells] using hge
  rw [drop_end hge] at hf
  exact retP rfl (congrArg (C.int .i64) hf)
theorem t22 (bs:List UInt8):CallsT PZ 22 [.sl (bcells bs)] [] (Ret [] (IC (dig bs))):=by
 refine callsT_facts Tryd.func22 facts22 rfl fun hw _ => ?_
 refine callP (t65 bs) rfl fun _ => ?_
 exact retP rfl rfl
theorem t40 (bs:List UInt8):CallsT PZ 40 [.sl (bcells bs)] [] (Ret [] (IC (dig bs))):=by
 refine callsT_facts Tryd.func40 facts40 rfl fun hw _ => ?_
 have hlen:bs.length ≤ 9223372036854775807:=wf_lenB hw.1
 refine loopN bs.length 4 [3] (7:Int) (fun h => [IC h]) (fun _ => []) (fun k h => (bytesN (bs.drop k)).foldl stepN h = dig bs ∧ 0 ≤ h ∧ h < 2147483647) ⟨rfl,by omega,by omega⟩ (same_keys rfl) ⟨same_keys rfl,trivial⟩ trivial (fun _ => rfl) (fun _ => rfl) ?_
 rintro k h hk ⟨hinv,h0,h1⟩ _ _ _
 refine brn_p (fun hlt => ?_) (fun hge => ?_)
 ·have hlt:k < bs.length:=by simpa [bcells] using hlt
  refine withDrop hlt fun x hx hxm hd => ?_
  rw [hd] at hinv
  have hxb:=x.toNat_lt
  refine Fit.in64 (by omega) (by omega) ?_
  refine idxB hx ?_
  refine Fit.in64 (by omega) (by omega) ?_
  refine Fit.in64 (by omega) (by omega) ?_
  refine Fit.in64 (by omega) (by omega) ?_
  refine NonZ.mk (by omega) ?_
  have hs:=stepN_bd (x:=x.toNat) h0 (by omega)
  refine Fit.in64 (by omega) (by omega) ?_
  exact ⟨(k + 1,stepN h x.toNat),⟨hlt,hinv,hs.1,hs.2⟩,⟨nextI,same_keys rfl,trivial⟩,trivial,nextM hlt⟩
 ·have hge:¬ k < bs.length:=by simpa [bcells] using hge
  rw [drop_end hge] at hinv
  exact retP rfl (congrArg (C.int .i64) hinv)
theorem streq_bytes (a b:List UInt8):streq ⟨a.toArray⟩ ⟨b.toArray⟩ = decide (a = b):=by simp [streq]
theorem t42 (a b:List UInt8):CallsT PZ 42 [.sl (bcells a),.sl (bcells b)] [] (Ret [] (.bool (decide (a = b)))):=by
 refine callsT_facts Tryd.func42 facts42 rfl fun hw _ => ?_
 refine BytesT.mk ⟨a,rfl,?_⟩
 refine BytesT.mk ⟨b,rfl,?_⟩
 exact retP rfl (congrArg C.bool (streq_bytes a b))
theorem t83A (F:Frz) (a:Option Addr) (n c:Nat) (hn:n ≤ c) (hm:n ≤ maxLen) (ha:a = none → c = 0):CallsA PZ 83 #[.slice a n c] F [] (fun _ Lo v => Lo = [] ∧ v = .slice a n n):=by
 refine ⟨⟨_,Tryd.func83,by kernel_rfl,by kernel_rfl⟩,fun _ _ _ _ _ h => h,fun w hs => ?_⟩
 have hnt:Tryd.f83.ntmps = 9:=by kernel_rfl
 refine calls_of_wp Tryd.func83 rfl ?_
 rw [hnt]
 apply wp_seq
 apply wp_region
 simp [wpOps,go_sem,Exit.then]
 refine .inl (wp_seq (wp_region ?_))
 simp [wpOps,go_sem,Exit.then,Act.eval,Array.replicate,hn]
 refine .inl (.inl (.inl (.inl (.inl (.inl (.inl (wp_ret ?_)))))))
 have hr:Tryd.f83.results = #[.tmp 2]:=by kernel_rfl
 simp [bodyPost,results,hr]
 exact ⟨F,hs,Step.refl _ _ _⟩
def by8 (n:Int):UInt8:=UInt8.ofNat n.toNat
def dig4 (bs:List UInt8):List UInt8:=[by8 (dig bs / 16777216),by8 (dig bs / 65536),by8 (dig bs / 256),by8 (dig bs)]
def sealB (b:List UInt8):List UInt8:=b ++ dig4 b
theorem wrap_by8 {n m:Int} (h:0 ≤ m) (e:n = m):IntKind.wrap .u8 n = ((by8 m).toNat:Int):=by
 subst e
 simp only [IntKind.wrap,IntKind.bits,IntKind.signed,by8,UInt8.toNat_ofNat']
 simp
 omega
theorem t43r (bs:List UInt8) (hb:bs.length ≤ 70368744177664):CallsT PZ 43 [.sl (bcells bs)] [] (Ret [.row 5 1 (bcells (sealB bs))] (.rw 1000)):=by
 refine ⟨fun F Li vs hl htl hr => ?_⟩
 obtain rfl:Li = []:=List.eq_nil_of_length_eq_zero hl
 obtain ⟨h0,h1⟩:=dig_bd bs
 have hr0:=hr
 simp only [Rels] at hr
 obtain ⟨v,_,rfl,hv,rfl⟩:=hr
 obtain ⟨a,c,rfl,hc,hm,hF⟩:=sl_bytes hv
 have ha:a = none → bs.length = 0 ∧ c = 0:=by
  simp only [Rel] at hv
  obtain ⟨a',c',e,_,_,hn,_⟩:=hv
  injection e with e1 e2 e3
  subst e1 e3
  intro h
  obtain ⟨q1,q2⟩:=hn h
  exact ⟨by simpa [bcells] using q1,q2⟩
 refine callsA2_facts (svs:=[.v (.slice a bs.length c)]) rfl facts43 rfl rfl (vals_own [.slice a bs.length c]) ResA.mono' ?_
 refine callTInt (t22 bs) hr0 fun F1 hF1 => ?_
 refine ⟨[],[],[],_,rfl,List.nodup_nil,List.nodup_nil,fun k hk => (by cases hk),t83A F1 a bs.length c hc (by simp only [maxLen]; omega) (fun h => (ha h).2),fun v F2 Lo hF2 hR => ?_⟩
 obtain ⟨rfl,rfl⟩:=hR
 refine ⟨rfl,fun k g t cs hk => (by cases hk),?_⟩
 refine ⟨by decide,?_⟩
 refine Fit.to (wrap_by8 (m:=dig bs / 16777216) (by omega) (Int.fdiv_eq_ediv_of_nonneg (b:=16777216) _ (by omega))) ?_
 refine ⟨by decide,?_⟩
 refine Fit.to (wrap_by8 (m:=dig bs / 65536) (by omega) (Int.fdiv_eq_ediv_of_nonneg (b:=65536) _ (by omega))) ?_
 refine ⟨by decide,?_⟩
 refine Fit.to (wrap_by8 (m:=dig bs / 256) (by omega) (Int.fdiv_eq_ediv_of_nonneg (b:=256) _ (by omega))) ?_
 refine Fit.to (wrap_by8 (m:=dig bs) (by omega) rfl) ?_
 intro g F3 hF3 hg
 have hg:F3 g = some (.cells (bvals (dig4 bs)).toArray 5 (0,0)):=hg
 refine AppPt.mk ⟨20,bs.length,bvals bs,4,bvals (dig4 bs),?_,⟨_,_,rfl,rfl,.inl ?_⟩,bvals_ones _,by simp only [maxLen]; omega,by omega,fun v hv => ?_⟩
 ·cases a with
  | none => exact .inr (.inl ⟨rfl,(ha rfl).1,by rw [List.eq_nil_of_length_eq_zero (ha rfl).1]; rfl,by rw [(ha rfl).1]⟩)
  | some ad => exact .inr (.inr ⟨rfl,ad,rfl,by decide,by rw [bvals_len,Nat.mul_one],hF.imp (fun h => ((h.mono hF1).mono hF2).mono hF3) id⟩)
 ·exact ⟨⟨g,0,none⟩,_,_,_,rfl,hg,rfl,fun i u hu => by simpa using hu⟩
 ·refine ⟨[20],_,rfl,by simp,?_⟩
  obtain ⟨a',c',rfl,hn⟩:=hv
  rw [← bvals_app]
  have hl4:(sealB bs).length = bs.length + 4:=by simp [sealB,dig4]
  refine resRow rfl (RelRow_of_bvals (sealB bs)) (by rw [bcells_len,hl4]) (by simp only [maxLen]; omega) ⟨a',c',rfl,hn⟩
theorem t43 (bs:List UInt8) (hb:bs.length ≤ 70368744177664):CallsT PZ 43 [.sl (bcells bs)] [] (Ret [] (.sl (bcells (sealB bs)))):=(t43r bs hb).give
end Go.Fr.Tryd
namespace Go.Fr.Tryd
open Go Go.RowKit Go.Proofs Go.Fr Go.Fr.T Go.Fr.Api
theorem CallsT.pinRes {P:Program} {f:Nat} {args:List C} {t:Nat} {cs:List C} (ht:t < 1048576) (h:CallsT P f args [] (Ret [.box t cs] (.own 1000 0))) :
  CallsT P f args [] (fun Mo c => ∃ g,Mo = [.box (pin g t) cs] ∧ c = adr g 0):=by
 refine ⟨fun F Li vs h1 h2 h3 => ?_⟩
 have hA:=h.out F Li vs h1 h2 h3
 refine ⟨hA.ent,ResA.mono',fun w hs => (hA.run w hs).mono ?_⟩
 rintro e w' ⟨v,F',Lo,rfl,k1,k2,Mo,c,q1,q2,q3,q4,rfl,rfl⟩
 refine ⟨v,F',Lo,rfl,k1,k2,?_⟩
 simp only [Rel] at q3
 obtain ⟨g,t',us,e0,rfl⟩:=q3
 have hk:=q2 1000
 have e1:(tinp [TO.box t cs]).get 1000 = some (.box t cs):=rfl
 rw [e1,e0] at hk
 obtain ⟨hty,hr⟩:=hk
 have htt:t = t':=by
  obtain ⟨h4,h5⟩:=hty
  rcases h5 with h5 | h5
  ·exact h5
  ·omega
 subst htt
 refine ⟨[.box (pin g t) cs],adr g 0,q1,fun k => ?_,(adr_rel (by omega)).2 rfl,q4,g,rfl,rfl⟩
 have hk:=q2 k
 simp only [tinp,tinpFrom,TL.get] at hk ⊢
 cases hb:Nat.beq 1000 k with
 | false => rw [hb] at hk; exact hk
 | true =>
  have:=Nat.eq_of_beq_eq_true hb
  subst this
  rw [e0]
  exact ⟨⟨ht,.inr rfl⟩,hr⟩
theorem t44 (s:List UInt8):CallsT PZ 44 [.sl (bcells s)] [] (Ret [RB 134 s s] (.own 1000 0)):=by
 refine callsT_facts Tryd.func44 facts44 rfl fun hw ho => ?_
 refine retO [5] rfl rfl (congrArg (fun q => [TO.box 134 [.sl (bcells s),IC q,IC (-1)]]) ?_) rfl
 simp
theorem suf_len {r s:List UInt8} (h:r <:+ s):r.length ≤ s.length:=h.length_le
theorem suf_drop {r s:List UInt8} (h:r <:+ s):s.drop (s.length - r.length) = r:=by
 obtain ⟨p,rfl⟩:=h
 simp
theorem suf_head {c:UInt8} {r s:List UInt8} (h:(c :: r) <:+ s):s[s.length - (c :: r).length]? = some c:=by
 obtain ⟨p,rfl⟩:=h
 simp
theorem wf_box_len {t:Nat} {s r:List UInt8} (h:(RB t s r).Wf):s.length ≤ 9223372036854775807:=wf_lenB h.1
theorem t50o (s r:List UInt8) (hr:r <:+ s):CallsT PZ 50 [.own 1000 0] [RB 134 s r] (Ret [RB 134 s r] (IC r.length)):=by
 refine callsT_facts Tryd.func50 facts50 rfl fun hw ho => ?_
 have hl:=wf_box_len (ho _ (List.mem_singleton.2 rfl))
 have h1:=suf_len hr
 have e:(decide (((bcells s).length:Int) ≤ ((s.length - r.length:Nat):Int))) = decide (r.length = 0):=by
  rw [bcells_len]; exact decide_eq_decide.2 (by omega)
 refine brn_split (fun h => ?_) (fun h => ?_)
 ·have h:r.length = 0:=of_decide_eq_true (e.symm.trans h)
  exact retO [1000] rfl rfl rfl (congrArg (fun q:Nat => IC (q:Int)) h.symm)
 ·have h:¬ r.length = 0:=of_decide_eq_false (e.symm.trans h)
  refine Fit.to (m:=(r.length:Int)) (by rw [bcells_len,wrap64_id (by omega) (by omega)]; omega) ?_
  exact retO [1000] rfl rfl rfl rfl
theorem t85n (s:List UInt8):CallsT PZ 85 [.own 1000 0] [RB 134 s []] (Ret [RB 134 s []] (.tup [.int .u8 0,.opq 1])):=by
 refine callsT_facts Tryd.func85 facts85 rfl fun hw ho => ?_
 have e:(decide (((bcells s).length:Int) ≤ ((s.length - ([]:List UInt8).length:Nat):Int))) = true:=by
  rw [bcells_len]; exact decide_eq_true (by simp)
 refine brn_split (fun h => ?_) (fun h => ?_)
 ·exact retO [1000] rfl rfl rfl rfl
 ·have:=e.symm.trans h; cases this
theorem t85c (s:List UInt8) (c:UInt8) (r:List UInt8) (hr:(c :: r) <:+ s):CallsT PZ 85 [.own 1000 0] [RB 134 s (c :: r)] (Ret [RB 134 s r] (.tup [bcell c,.opq 0])):=by
 refine callsT_facts Tryd.func85 facts85 rfl fun hw ho => ?_
 have hl:=wf_box_len (ho _ (List.mem_singleton.2 rfl))
 have h1:=suf_len hr
 have e:(decide (((bcells s).length:Int) ≤ ((s.length - (c :: r).length:Nat):Int))) = false:=by
  rw [bcells_len]; exact decide_eq_false (by simp only [List.length_cons] at h1 ⊢; omega)
 simp only [List.length_cons] at h1
 refine brn_split (fun h => ?_) (fun h => ?_)
 ·have:=e.symm.trans h; cases this
 refine idxB (suf_head hr) ?_
 refine Fit.to (m:=((s.length - r.length:Nat):Int)) (by simp only [List.length_cons]; rw [wrap64_id (by omega) (by omega)]; omega) ?_
 exact retO [1000] rfl rfl rfl rfl
end Go.Fr.Tryd
namespace Go.Fr.Tryd
open Go Go.RowKit Go.Proofs Go.Fr Go.Fr.T
theorem St.reslice {F:Frz} {L:Loc} {w:World} {k g t sz n n' c:Nat} {xs:List Value} (hs:St F L w) (hk:L.get k = some (.row (.slice (some ⟨g,0,none⟩) n c) t sz n xs)) (hn:n' ≤ c) :
  ∃ ys,ys.length = n' * sz ∧ (∀ i,i < n * sz → i < n' * sz → ys[i]? = xs[i]?) ∧ St F (L.set k (.row (.slice (some ⟨g,0,none⟩) n' c) t sz n' ys)) w:=by
 have hr:=hs.own k _ hk
 simp only [Own.ok] at hr
 obtain ⟨hx,⟨e,_⟩ | ⟨g',cap,cur,e,h0,hg,h1,h2,h3,h4⟩⟩:=hr
 ·cases e
 ·injection e with e1 e2 e3
  injection e1 with e1
  injection e1 with e1 _ _
  subst e1 e3
  have hle:n' * sz ≤ c * sz:=Nat.mul_le_mul_right _ hn
  refine ⟨cur.toList.take (n' * sz),?_,fun i hi hi' => ?_,?_⟩
  ·rw [List.length_take,Array.length_toList,h3]; omega
  ·rw [← h4,List.getElem?_take_of_lt hi,List.getElem?_take_of_lt hi']
  ·refine hs.turn hk (o':=.row (.slice (some ⟨g,0,none⟩) n' c) t sz n' (cur.toList.take (n' * sz))) ?_ (fun _ _ _ => rfl) (fun g' hg' => .inl hg')
   exact ⟨by rw [List.length_take,Array.length_toList,h3]; omega,.inr ⟨g,c,cur,rfl,h0,hg,hn,h2,h3,rfl⟩⟩
theorem CallsA.relo {P:Program} {f:FuncId} {args:Array Value} {F:Frz} {Lin:List Own} {R R':Frz → List Own → Value → Prop} (h:CallsA P f args F Lin R) (hm:∀ F G L v,F.le G → R' F L v → R' G L v)
  (hk:∀ F' Lo v w',St F' (inp Lo) w' → R F' Lo v → ∃ Lo',St F' (inp Lo') w' ∧ (∀ b,(inp Lo').owns b → (inp Lo).owns b) ∧ R' F' Lo' v):CallsA P f args F Lin R':=by
 refine ⟨h.ent,hm,fun w hs => (h.run w hs).mono ?_⟩
 rintro e w' ⟨v,F',Lo,rfl,h1,h2,h3⟩
 obtain ⟨Lo',k1,k2,k3⟩:=hk F' Lo v w' h1 h3
 exact ⟨v,F',Lo',rfl,k1,⟨h2.le,h2.os,h2.tape,h2.output,h2.size,h2.same,h2.frz,fun b hb => h2.own b (k2 b hb)⟩,k3⟩
def RowV (s:Value) (n c:Nat):Prop:=(s = .slice none 0 0 ∧ n = 0 ∧ c = 0) ∨ ∃ g,s = .slice (some ⟨g,0,none⟩) n c ∧ n ≤ c ∧ c ≤ maxLen
theorem RowV.form {s:Value} {n c:Nat} (h:RowV s n c):∃ a,s = .slice a n c ∧ n ≤ c ∧ c ≤ maxLen ∧ (a = none → n = 0 ∧ c = 0):=by
 rcases h with ⟨rfl,rfl,rfl⟩ | ⟨g,rfl,h1,h2⟩
 ·exact ⟨none,rfl,Nat.le_refl _,Nat.zero_le _,fun _ => ⟨rfl,rfl⟩⟩
 ·exact ⟨_,rfl,h1,h2,fun e => by cases e⟩
theorem rowV_of {F:Frz} {L:Loc} {w:World} {k t sz n:Nat} {v:Value} {xs:List Value} (hs:St F L w) (hk:L.get k = some (.row v t sz n xs)):∃ c,RowV v n c:=by
 have hr:=hs.own k _ hk
 simp only [Own.ok] at hr
 obtain ⟨hx,⟨e,e2⟩ | ⟨g',cap,cur,e,h0,hg,h1,h2,h3,h4⟩⟩:=hr
 ·exact ⟨0,.inl ⟨e,e2,rfl⟩⟩
 ·exact ⟨cap,.inr ⟨g',e,h1,h2⟩⟩
def BO (ex:List Value) (gb tb:Nat) (s:Value) (lr:Int) (n:Nat) (xs:List Value):List Own:=[.box gb tb (s :: .int .i64 0 :: .int .i8 lr :: ex),.row s 5 1 n xs]
theorem inp_BO {ex:List Value} {gb tb:Nat} {s:Value} {lr:Int} {n:Nat} {xs:List Value}:inp (BO ex gb tb s lr n xs) = [(1000,.box gb tb (s :: .int .i64 0 :: .int .i8 lr :: ex)),(1001,.row s 5 1 n xs)]:=rfl
theorem env_args {Lin:List Own} (svs:List SV) (n:Nat) (hown:∀ v ∈ svs,(∀ k off,v = .own k off → ∃ g ty cs,(inp Lin).get k = some (.box g ty cs)) ∧ (∀ ad j,v = .el ad j → ad ≠ none)) :
  EnvOk (inp Lin) (argE 0 svs) { tmps:=(svs.map (conc (inp Lin))).toArray ++ Array.replicate (n - (svs.map (conc (inp Lin))).toArray.size) undef,defers:=[] }:=by
 have hin:∀ t,argE 0 svs t = .v undef ∨ argE 0 svs t ∈ svs:=by
  intro t
  rw [argE_get]
  simp only [Nat.zero_le,if_true,Nat.sub_zero]
  cases e:svs[t]? with
  | none => exact .inl rfl
  | some v => exact .inr (List.mem_of_getElem? e)
 refine ⟨fun t => ?_,fun t k off e => ?_,fun t ad j e => ?_⟩
 ·rw [argE_get]
  simp only [Nat.zero_le,if_true,Nat.sub_zero,Array.getD_eq_getD_getElem?]
  cases e:svs[t]? with
  | some v =>
   have hlt:t < svs.length:=(List.getElem?_eq_some_iff.1 e).1
   rw [Array.getElem?_append_left (by simpa using hlt)]
   simp [e]
  | none =>
   have hge:svs.length ≤ t:=List.getElem?_eq_none_iff.1 e
   rw [Array.getElem?_append_right (by simpa using hge)]
   simp only [Array.getElem?_replicate,Option.getD_none,conc]
   split <;> rfl
 ·rcases hin t with h1 | h1
  ·rw [h1] at e; cases e
  ·exact (hown _ h1).1 k off e
 ·rcases hin t with h1 | h1
  ·rw [h1] at e; cases e
  ·exact (hown _ h1).2 ad j e
variable {ex:List Value}
theorem buf_own {gb tb:Nat} {s:Value} {lr:Int} {n:Nat} {xs:List Value} {svs:List Value}:∀ v ∈ (SV.own 1000 0 :: svs.map SV.v),(∀ k off,v = .own k off → ∃ g ty cs,(inp (BO ex gb tb s lr n xs)).get k = some (.box g ty cs)) ∧ (∀ ad j,v = .el ad j → ad ≠ none):=by
 intro v hv
 rcases List.mem_cons.1 hv with rfl | hv
 ·exact ⟨fun k off e => by injection e with e1 e2; subst e1; exact ⟨_,_,_,rfl⟩,fun _ _ e => by cases e⟩
 ·obtain ⟨u,_,rfl⟩:=List.mem_map.1 hv
  exact ⟨fun _ _ e => (by cases e),fun _ _ e => (by cases e)⟩
theorem slc0 {s:Value} {n c h:Nat} {a:Option Addr} (hs:RowV s n c) (e:s = .slice a n c):slcVal a c 0 h 1 = .slice a h c:=by
 rcases hs with ⟨rfl,rfl,rfl⟩ | ⟨g,rfl,_,_⟩
 ·injection e with e1 e2 e3
  subst e1
  simp [slcVal]
 ·injection e with e1 e2 e3
  subst e1
  simp [slcVal,Addr.add]
def R87 (ex:List Value) (gb tb:Nat) (s:Value) (lr:Int) (n c m:Nat) (xs:List Value):Frz → List Own → Value → Prop:=fun _ Lo v =>
 (∃ s' ys,ys.length = m ∧ RowV s' (n + m) c ∧ Lo = BO ex gb tb s' lr (n + m) (xs ++ ys) ∧ v = .tuple #[.int .i64 n,.bool true]) ∨
 (c < n + m ∧ Lo = BO ex gb tb s lr n xs ∧ v = .tuple #[.int .i64 0,.bool false])
theorem t87A (F:Frz) (gb tb:Nat) (s:Value) (lr:Int) (n c m:Nat) (xs:List Value) (hs:RowV s n c) (hm:n + m ≤ 140737488355328) :
  CallsA PZ 87 #[.pointer (some ⟨gb,0,none⟩),.int .i64 m] F (BO ex gb tb s lr n xs) (R87 ex gb tb s lr n c m xs):=by
 obtain ⟨a,rfl,hnc,hcm,ha⟩:=hs.form
 unfold maxLen at hcm
 have h1:CallsA PZ 87 #[.pointer (some ⟨gb,0,none⟩),.int .i64 m] F (BO ex gb tb (.slice a n c) lr n xs) (fun _ Lo v =>
   (n + m ≤ c ∧ Lo = [.box gb tb (.slice a (n + m) c :: .int .i64 0 :: .int .i8 lr :: ex),.row (.slice a n c) 5 1 n xs] ∧ v = .tuple #[.int .i64 n,.bool true]) ∨
   (c < n + m ∧ Lo = BO ex gb tb (.slice a n c) lr n xs ∧ v = .tuple #[.int .i64 0,.bool false])):=by
  refine callsA2_facts (svs:=[.own 1000 0,.v (.int .i64 m)]) rfl facts87 rfl rfl (buf_own (svs:=[.int .i64 m])) (fun _ _ _ _ _ h => h) ?_
  refine Fit.in64 (by omega) (by omega) ?_
  refine brn_p (fun h => ?_) (fun h => ?_)
  ·refine Fit.in64 (by omega) (by omega) ?_
   refine SlcPt.mk (by omega) (by omega) (by omega) ?_
   have e:((n:Int) + m).toNat = n + m:=by omega
   have e2:slcVal a c 0 ((n:Int) + m).toNat 1 = .slice a (n + m) c:=by rw [e]; exact slc0 hs rfl
   exact ⟨[1000,1001],_,rfl,by decide,.inl ⟨by omega,congrArg (fun q => [Own.box gb tb (q :: .int .i64 0 :: .int .i8 lr :: ex),.row (.slice a n c) 5 1 n xs]) e2,rfl⟩⟩
  ·exact ⟨[1000,1001],_,rfl,by decide,.inr ⟨by omega,rfl,rfl⟩⟩
 refine CallsA.relo h1 (fun _ _ _ _ _ h => h) ?_
 rintro F' Lo v w' hst (⟨hle,rfl,rfl⟩ | ⟨hlt,rfl,rfl⟩)
 ·rcases hs with ⟨e,rfl,rfl⟩ | ⟨g,e,_,_⟩
  ·injection e with e1 _ _
   subst e1
   have:m = 0:=by omega
   subst this
   exact ⟨_,hst,fun b h => h,.inl ⟨.slice none 0 0,[],rfl,.inl ⟨rfl,rfl,rfl⟩,by simp [BO],rfl⟩⟩
  ·injection e with e1 _ _
   subst e1
   have hk:(inp [.box gb tb (.slice (some ⟨g,0,none⟩) (n + m) c :: .int .i64 0 :: .int .i8 lr :: ex),.row (.slice (some ⟨g,0,none⟩) n c) 5 1 n xs]).get 1001 = some (.row (.slice (some ⟨g,0,none⟩) n c) 5 1 n xs):=rfl
   have hxl:xs.length = n:=by
    have:=(hst.own _ _ hk).1
    simpa using this
   obtain ⟨ys,y1,y2,y3⟩:=St.reslice hst hk hle
   have hys:ys = xs ++ ys.drop n:=by
    apply List.ext_getElem?
    intro i
    by_cases hi:i < n
    ·rw [y2 i (by omega) (by omega),List.getElem?_append_left (by omega)]
    ·rw [List.getElem?_append_right (by omega),List.getElem?_drop,hxl]
     congr 1
     omega
   refine ⟨BO ex gb tb (.slice (some ⟨g,0,none⟩) (n + m) c) lr (n + m) ys,y3,fun b hb => ?_,.inl ⟨_,ys.drop n,by rw [List.length_drop,y1]; omega,.inr ⟨g,rfl,hle,by unfold maxLen; omega⟩,by rw [← hys],rfl⟩⟩
   obtain ⟨k,o,e,hb⟩:=hb
   rw [inp_BO] at e
   simp only [Loc.get] at e
   split at e
   ·rename_i hk1
    injection e with e; subst e
    exact ⟨1000,_,rfl,hb⟩
   ·split at e
    ·injection e with e; subst e
     exact ⟨1001,_,rfl,hb⟩
    ·cases e
 ·exact ⟨_,hst,fun b h => h,.inr ⟨hlt,rfl,rfl⟩⟩
variable {ex:List Value}
def c96a:SCode:=.reg [.op (some 8) (.mov (.t 0)) none,
  .op (some 9) (.len (.t 8)) none,
  .op (some 10) (.mov (.t 1)) none,
  .op (some 11) (.bin .add (.t 9) (.t 10)) none,
  .op (some 5) (.mov (.t 11)) none]
def c96b:SCode:=.seq (.reg [.op (some 12) (.mov (.t 5)) none,
  .op (some 13) (.mov (.t 0)) none,
  .op (some 14) (.capa (.t 13)) none,
  .op (some 15) (.bin .mul (.c (.int .i64 2)) (.t 14)) none,
  .op (some 16) (.bin .lss (.t 12) (.t 15)) none])
 (.cond (.t 16)
 (.reg [.op (some 17) (.mov (.t 0)) none,
   .op (some 18) (.capa (.t 17)) none,
   .op (some 19) (.bin .mul (.c (.int .i64 2)) (.t 18)) none,
   .op (some 5) (.mov (.t 19)) none])
 .skip)
def c96c:SCode:=.reg [.op (some 20) (.mov (.t 5)) none,
  .op (some 21) (.appZ 5 1 .u8 (.c (.slice none 0 0)) (.t 20)) none,
  .op (some 6) (.mov (.t 21)) none]
def c96d:SCode:=.seq (.reg [.op (some 22) (.mov (.t 6)) none,
  .op (some 23) (.mov (.t 0)) none,
  .op (some 24) (.copy 5 1 (.t 22) (.t 23)) none,
  .op (some 7) (.mov (.t 24)) none])
 (.seq (.reg [.op (some 25) (.mov (.t 6)) none,
  .op (some 26) (.mov (.t 7)) none,
  .op (some 27) (.slc 1 (.t 25) none (some (.t 26))) none,
  .op (some 4) (.mov (.t 27)) none])
 .ret)
theorem piece {P:Program} {A:Ann} {c:Code} {sc:SCode} (hl:low P A c = some sc) {N:Kont} {F:Frz} {L:Loc} {ρ:Env} {a:Act} {w:World} (hs:St F L w) (he:EnvOk L ρ a) (hn:a.tmps.size = A.n)
  (hK:evalC2 P sc (fun _ _ _ _ => False) (fun _ _ _ => False) N F L ρ) {Q:Exit → Act → World → Prop}
  (k:∀ a' w' F' L' ρ',St F' L' w' → EnvOk L' ρ' a' → a'.tmps.size = A.n → a'.defers = a.defers → Step F L w F' L' w' → N F' L' ρ' → Q .normal a' w'):c.wp P Q a w:=by
 refine wp_mono (evalC2_sound c hl hs he hn hK) ?_
 intro e a' w' h
 cases e with
 | normal => obtain ⟨F',L',ρ',h1,h2,h3,h4,h5,h6,h7⟩:=h; exact k _ _ _ _ _ h1 h2 h3 h4 h5 h7
 | exit j => obtain ⟨F',L',ρ',h1,h2,h3,h4,h5,h6,h7⟩:=h; exact h7.elim
 | ret => obtain ⟨F',L',ρ',h1,h2,h3,h4,h5,h6,h7⟩:=h; exact h7.elim
 | panic ch =>
  obtain ⟨v,_,F',L',q1,q2,q3,q4,q5,q6⟩:=h
  exact q6.elim
 | _ => exact h.elim
theorem put_self {ρ:Env} {k:Nat} {x:SV} (h:ρ k = x):put (some k) x ρ = ρ:=by
 funext j
 rw [put_eq]
 simp only []
 split
 ·rename_i e; rw [e,h]
 ·rfl
def A96r:Ann:={ n:=28 }
theorem catch_idle97 (w:World) :
  CallsD Tryd.prog 97 #[] .returning w fun e u' w' => e = .returned (.tuple #[]) ∧ u' = .returning ∧ w' = w:=by
 have hn:Tryd.f97.ntmps = 3:=by kernel_rfl
 have hr:Tryd.f97.results = #[]:=by kernel_rfl
 refine callsD_of_wpS Tryd.func97 rfl fun c₀ cs hu => ?_
 apply wpS_seq
 apply wpS_region
 simp [wpOpsS,go_sem,recoverD,hu,hn,Exit.thenS]
 refine wpS_cond (t:=false) (by simp [Act.eval,Array.replicate]) ?_
 simp only [Bool.false_eq_true,if_false]
 refine wpS_of_wp (wp_skip ?_)
 cases c₀
 simp_all [bodyPostS,results]
theorem t96A (F:Frz) (a:Option Addr) (n c m:Nat) (xs:List Value) (hn:n ≤ c) (hc:c < n + m) (hm:n + m ≤ 70368744177664) (hx:xs.length = n) (hsrc:FCells F a 0 xs ∨ (n = 0 ∧ xs = [])) (h1:∀ u ∈ xs,u.oneCell' = true) :
  CallsA PZ 96 #[.slice a n c,.int .i64 m] F [] (fun _ Lo v => ∃ c2,RowV v n c2 ∧ n + m ≤ c2 ∧ Lo = [.row v 5 1 n xs]):=by
 have hnt:Tryd.f96.ntmps = 28:=by kernel_rfl
 refine ⟨⟨_,Tryd.func96,by kernel_rfl,by kernel_rfl⟩,fun _ _ _ _ _ h => h,fun w hs => ?_⟩
 suffices hall:∀ RR:Ending → World → Prop,(∀ v F' Lo w',St F' (inp Lo) w' → Step F (inp []) w F' (inp Lo) w' → (∃ c2,RowV v n c2 ∧ n + m ≤ c2 ∧ Lo = [.row v 5 1 n xs]) → RR (.returned v) w') → Calls Tryd.prog 96 #[.slice a n c,.int .i64 m] w RR from
  hall _ fun v F' Lo w' h1 h2 h3 => ⟨v,F',Lo,rfl,h1,h2,h3⟩
 intro RR hRR
 refine calls_of_wp_defers Tryd.func96 rfl ?_
 rw [hnt]
 have he0:=env_args (Lin:=[]) [.v (.slice a n c),.v (.int .i64 m)] 28 (vals_own [.slice a n c,.int .i64 m])
 refine wp_seq (wp_region (evalOps_sound (A:=A96r) (r:=0) (List.range 1) (ss:=[.op (some 4) (.mov (.c (.slice none 0 0))) none]) (by kernel_rfl) hs he0 (by simp [A96r])
  (K:=fun F' L' ρ' => F' = F ∧ L' = inp [] ∧ ρ' = put (some 4) (.v (.slice none 0 0)) (argE 0 [.v (.slice a n c),.v (.int .i64 m)])) ⟨rfl,rfl,rfl⟩ ?_))
 rintro a1 w1 ⟨F1,L1,ρ1,hs1,he1,hn1,hd1,hst1,_,rfl,rfl,rfl⟩
 simp only [Exit.then]
 refine wp_seq (wp_region ?_)
 obtain ⟨tm,df⟩:=a1
 simp only at hn1 hd1
 subst hd1
 have hmk:∀ w:World,(Instr.makeFunc (.func 97) #[] #[]).run Tryd.prog w = .ok (.func (.func 97) #[] #[]) w:=fun _ => rfl
 simp [wpOps,go_sem,Exit.then,Act.eval]
 refine .inl ?_
 have he2:EnvOk (inp []) (put (some 4) (.v (.slice none 0 0)) (argE 0 [.v (.slice a n c),.v (.int .i64 m)])) { tmps:=tm,defers:=[{ target:=.fn (.func 97) #[],args:=#[] }] }:=⟨he1.eq,he1.own,he1.el⟩
 refine wp_seq (piece (A:=A96r) (sc:=c96a) (by kernel_rfl) hs1 he2 hn1 (N:=fun F' L' ρ' => F' = F1 ∧ L' = inp [] ∧ ρ' 5 = .v (.int .i64 (n + m:Nat)) ∧ ρ' 0 = .v (.slice a n c)) ?_ ?_)
 ·refine Fit.to (m:=((n + m:Nat):Int)) (by rw [wrap64_id (by omega) (by omega)]; omega) ?_
  exact ⟨rfl,rfl,rfl,rfl⟩
 rintro a2 w2 F2 L2 ρ2 hs2 he2 hn2 hd2 hst2 ⟨rfl,rfl,h25,h20⟩
 simp only [Exit.then]
 rw [← put_self h25,← put_self (ρ:=put _ _ ρ2) (k:=0) (x:=.v (.slice a n c)) (by rw [put_eq]; simpa using h20)] at he2
 generalize hMd:(if n + m < 2 * c then 2 * c else n + m) = M
 have hMn:n + m ≤ M ∧ M ≤ 140737488355328:=by subst hMd; split <;> omega
 refine wp_seq (piece (A:=A96r) (sc:=c96b) (by kernel_rfl) hs2 he2 hn2 (N:=fun F' L' ρ' => F' = F2 ∧ L' = inp [] ∧ ρ' 5 = .v (.int .i64 M) ∧ ρ' 0 = .v (.slice a n c)) ?_ ?_)
 ·refine Fit.to (m:=((2 * c:Nat):Int)) (by rw [wrap64_id (by omega) (by omega)]; omega) ?_
  refine brn_p (fun h => ?_) (fun h => ?_)
  ·refine Fit.to (m:=((2 * c:Nat):Int)) (by rw [wrap64_id (by omega) (by omega)]; omega) ?_
   exact ⟨rfl,rfl,(by rw [← hMd,if_pos (by omega)]; rfl),rfl⟩
  ·exact ⟨rfl,rfl,(by rw [← hMd,if_neg (by omega)]; rfl),rfl⟩
 clear h25 h20
 rintro a3 w3 F3 L3 ρ3 hs3 he3 hn3 hd3 hst3 ⟨rfl,rfl,h25,h20⟩
 simp only [Exit.then]
 rw [← put_self h25,← put_self (ρ:=put _ _ ρ3) (k:=0) (x:=.v (.slice a n c)) (by rw [put_eq]; simpa using h20)] at he3
 refine wp_seq (piece (A:=A96r) (sc:=c96c) (by kernel_rfl) hs3 he3 hn3 (N:=fun F' L' ρ' => F' = F3 ∧ ∃ ad c2,L' = [(21,.row (.slice (some ad) M c2) 5 1 M (List.replicate M (.int .u8 0)))] ∧ ρ' 6 = .v (.slice (some ad) M c2) ∧ ρ' 0 = .v (.slice a n c)) ?_ ?_)
 ·refine AppZPt.mk ⟨21,0,[],.inr ⟨rfl,rfl,rfl,rfl⟩,by unfold maxLen; omega,by omega,fun v hv => ?_⟩
  obtain ⟨a',c',rfl,hne⟩:=hv
  cases a' with
  | none => exact absurd (hne rfl) (by omega)
  | some ad =>
   rw [Nat.zero_add]
   exact ⟨rfl,ad,c',rfl,rfl,rfl⟩
 clear h25 h20
 rintro a4 w4 F4 L4 ρ4 hs4 he4 hn4 hd4 hst4 ⟨rfl,ad,c2,rfl,h25,h20⟩
 simp only [Exit.then]
 obtain ⟨c2',hrv⟩:=rowV_of hs4 (k:=21) rfl
 rcases hrv with ⟨e,_⟩ | ⟨g,e,hc2,hc2m⟩
 ·cases e
 injection e with e1 e2 e3
 injection e1 with e1
 subst e1 e3
 rw [← put_self h25,← put_self (ρ:=put _ _ ρ4) (k:=0) (x:=.v (.slice a n c)) (by rw [put_eq]; simpa using h20)] at he4
 have hsp:splice (List.replicate M (Value.int .u8 0)) (0 * 1) xs = xs ++ List.replicate (M - n) (.int .u8 0):=by
  simp [splice,hx]
 refine wp_mono (evalC2_sound (A:=A96r) _ (sc:=c96d) (by kernel_rfl) hs4 he4 hn4 (E:=fun _ _ _ _ => False) (N:=fun _ _ _ => False)
  (R:=fun F' L' ρ' => F' = F4 ∧ L' = [(21,.row (.slice (some ⟨g,0,none⟩) M c2) 5 1 M (xs ++ List.replicate (M - n) (.int .u8 0)))] ∧ ρ' 4 = .v (.slice (some ⟨g,0,none⟩) n c2)) ?_) ?_
 ·refine CopyPt.mk (.inl ⟨21,M,_,_,_,⟨g,0,none⟩,c2,c2,0,n,a,c,xs,rfl,rfl,rfl,by omega,rfl,by rw [Nat.min_eq_left (by omega),hx,Nat.mul_one],?_,h1,?_⟩)
  ·rw [Nat.min_eq_left (by omega)]; exact hsrc
  rw [Nat.min_eq_left (by omega),hsp]
  refine SlcPt.mk (by omega) (by omega) (by omega) ?_
  exact ⟨rfl,rfl,congrArg SV.v (slc0 (n:=M) (.inr ⟨g,rfl,by omega,hc2m⟩) rfl)⟩
 intro e a5 w5 h
 cases e with
 | normal => obtain ⟨F',L',ρ',h1,h2,h3,h4,h5,h6,h7⟩:=h; exact h7.elim
 | exit j => obtain ⟨F',L',ρ',h1,h2,h3,h4,h5,h6,h7⟩:=h; exact h7.elim
 | panic ch =>
  obtain ⟨v,_,F',L',q1,q2,q3,q4,q5,q6⟩:=h
  exact q6.elim
 | ret =>
  obtain ⟨F',L',ρ',hs5,he5,hn5,hd5,hst5,_,rfl,rfl,h4⟩:=h
  rw [hd4,hd3,hd2] at hd5
  show Leaves Tryd.prog Tryd.f96 a5.tmps RR a5.defers .returning w5
  rw [hd5]
  refine leaves_cons (f:=97) (args:=#[]) (by simp) (by simp [invoke]) ?_
  refine (catch_idle97 _).mono ?_
  rintro e u' w6 ⟨rfl,rfl,rfl⟩
  obtain ⟨vs,h5,rfl⟩:=results_run (P:=Tryd.prog) (fn:=Tryd.f96) (rs:=[(4,none)]) (K:=fun vs => vs = [.slice (some ⟨g,0,none⟩) n c2]) hs5 he5 (by kernel_rfl) (by
   simp only [retV,h4]
   rfl)
  obtain ⟨ys,y1,y2,y3⟩:=St.reslice (n':=n) hs5 (k:=21) rfl (by omega)
  have hys:ys = xs:=by
   apply List.ext_getElem?
   intro i
   by_cases hi:i < n
   ·rw [y2 i (by omega) (by omega),List.getElem?_append_left (by omega)]
   ·rw [List.getElem?_eq_none (by omega),List.getElem?_eq_none (by omega)]
  subst hys
  refine ⟨_,h5,hRR _ F' [.row (.slice (some ⟨g,0,none⟩) n c2) 5 1 n ys] w6 ?_ ?_ ⟨c2,.inr ⟨g,rfl,by omega,hc2m⟩,by omega,rfl⟩⟩
  ·exact y3.handed (ks:=[21]) rfl (by simp)
  ·have hst:=(((hst1.trans hst2).trans hst3).trans hst4).trans hst5
   refine ⟨hst.le,hst.os,hst.tape,hst.output,hst.size,hst.same,hst.frz,fun b hb => ?_⟩
   refine hst.own b ?_
   obtain ⟨k,o,e,hb⟩:=hb
   rw [inp_get] at e
   split at e
   case isFalse => cases e
   rename_i hk
   have hmem:=List.mem_of_getElem? e
   simp only [List.mem_singleton] at hmem
   subst hmem
   exact ⟨21,_,rfl,hb⟩
 | _ => exact h.elim
variable {ex:List Value}
theorem CallsA.ofFrz {P:Program} {f:FuncId} {args:Array Value} {F:Frz} {v:Value} {t sz n:Nat} {xs:List Value} {R:Frz → List Own → Value → Prop} (hent:∃ fn,P.funcs[f]? = some fn ∧ fn.body.isSome = true ∧ (fn.name == "runtime.NumGoroutine") = false)
  (hmono:∀ F G L v,F.le G → R F L v → R G L v) (h:∀ F',F.le F' → FRow F' v sz n xs → CallsA P f args F' [] R):CallsA P f args F [.row v t sz n xs] R:=by
 refine ⟨hent,hmono,fun w hs => ?_⟩
 have he:EnvOk (inp [.row v t sz n xs]) (fun _ => .v undef) { tmps:=#[],defers:=[] }:=⟨fun t => by simp [conc],fun _ _ _ e => (by cases e),fun _ _ _ e => (by cases e)⟩
 obtain ⟨F',L',k1,k2,k3,k4,k5⟩:=frz_sound (k:=1000) hs he (KK:=fun F' L' => L' = inp [] ∧ F.le F' ∧ FRow F' v sz n xs) ⟨v,t,sz,n,xs,rfl,fun F' h1 h2 => ⟨rfl,h1,h2⟩⟩
 obtain ⟨rfl,k5,k6⟩:=(⟨k4,k5⟩:_ ∧ _)
 refine Calls.mono ((h F' k5 k6).run w k1) ?_
 rintro e w' ⟨v,F2,Lo,rfl,h1,h2,h3⟩
 exact ⟨v,F2,Lo,rfl,h1,k3.trans h2,h3⟩
theorem ent96:∃ fn,Tryd.prog.funcs[96]? = some fn ∧ fn.body.isSome = true ∧ (fn.name == "runtime.NumGoroutine") = false:=⟨_,Tryd.func96,by kernel_rfl,by kernel_rfl⟩
theorem t96R (F:Frz) (a:Option Addr) (n c m:Nat) (xs:List Value) (hn:n ≤ c) (hc:c < n + m) (hm:n + m ≤ 70368744177664) (hx:xs.length = n) (h1:∀ u ∈ xs,u.oneCell' = true) :
  CallsA PZ 96 #[.slice a n c,.int .i64 m] F [.row (.slice a n c) 5 1 n xs] (fun _ Lo v => ∃ c2,RowV v n c2 ∧ n + m ≤ c2 ∧ Lo = [.row v 5 1 n xs]):=by
 refine CallsA.ofFrz ent96 (fun _ _ _ _ _ h => h) fun F' _ hF => t96A F' a n c m xs hn hc hm hx ?_ h1
 rcases hF with ⟨e,rfl,rfl⟩ | ⟨a',c',e,h,_⟩
 ·exact .inr ⟨rfl,rfl⟩
 ·injection e with e1 _ _
  subst e1
  exact .inl h
theorem t94A (F:Frz) (gb tb:Nat) (s:Value) (lr:Int) (n c:Nat) (xs:List Value) (hs:RowV s n c) :
  CallsA PZ 94 #[.pointer (some ⟨gb,0,none⟩)] F (BO ex gb tb s lr n xs) (fun _ Lo v => Lo = BO ex gb tb s lr n xs ∧ v = .int .i64 n):=by
 obtain ⟨a,rfl,hnc,hcm,ha⟩:=hs.form
 unfold maxLen at hcm
 refine callsA2_facts (svs:=[.own 1000 0]) rfl facts94 rfl rfl (buf_own (svs:=[])) (fun _ _ _ _ _ h => h) ?_
 refine Fit.to (m:=(n:Int)) (by rw [wrap64_id (by omega) (by omega)]; omega) ?_
 exact ⟨[1000,1001],_,rfl,by decide,rfl,rfl⟩
theorem callBO {f:Nat} {vs:List Value} {F:Frz} {L:Loc} {K:Frz → Loc → Value → Prop} {gb tb n:Nat} {s:Value} {lr:Int} {xs:List Value} {R:Frz → List Own → Value → Prop} (hL:L = inp (BO ex gb tb s lr n xs)) (h:CallsA PZ f vs.toArray F (BO ex gb tb s lr n xs) R)
  (kk:∀ v F' Lo,F.le F' → R F' Lo v → ∃ s' lr' n' xs',Lo = BO ex gb tb s' lr' n' xs' ∧ K F' (inp (BO ex gb tb s' lr' n' xs')) v):CallPt PZ f vs F L K:=by
 subst hL
 refine ⟨[1000,1001],[1000,1001],_,_,rfl,by decide,by decide,fun k hk => .inl hk,h,fun v F' Lo hle hR => ?_⟩
 obtain ⟨s',lr',n',xs',rfl,hK⟩:=kk v F' Lo hle hR
 refine ⟨rfl,fun k g t cs hk e => ?_,hK⟩
 simp only [List.mem_cons,List.not_mem_nil,or_false] at hk
 rcases hk with rfl | rfl
 ·have e':(some (Own.box gb tb (s :: .int .i64 0 :: .int .i8 lr :: ex))) = some (.box g t cs):=e
  injection e' with e'
  injection e' with e1 e2 e3
  subst e1 e2
  exact ⟨_,rfl⟩
 ·have e':(some (Own.row s 5 1 n xs)) = some (.box g t cs):=e
  injection e' with e'
  cases e'
theorem call94 {F:Frz} {L:Loc} {K:Frz → Loc → Value → Prop} {gb tb n c:Nat} {s:Value} {lr:Int} {xs:List Value} (hL:L = inp (BO ex gb tb s lr n xs)) (hs:RowV s n c)
  (kk:∀ F',F.le F' → K F' (inp (BO ex gb tb s lr n xs)) (.int .i64 n)):CallPt PZ 94 [.pointer (some ⟨gb,0,none⟩)] F L K :=
 callBO hL (t94A F gb tb s lr n c xs hs) fun v F' Lo hle hR => ⟨s,lr,n,xs,hR.1,hR.2 ▸ kk F' hle⟩
theorem call87 {F:Frz} {L:Loc} {K:Frz → Loc → Value → Prop} {gb tb n c m:Nat} {s:Value} {lr:Int} {xs:List Value} (hL:L = inp (BO ex gb tb s lr n xs)) (hs:RowV s n c) (hm:n + m ≤ 140737488355328)
  (k1:∀ F' s' ys,F.le F' → ys.length = m → RowV s' (n + m) c → K F' (inp (BO ex gb tb s' lr (n + m) (xs ++ ys))) (.tuple #[.int .i64 n,.bool true]))
  (k2:∀ F',F.le F' → c < n + m → K F' (inp (BO ex gb tb s lr n xs)) (.tuple #[.int .i64 0,.bool false])):CallPt PZ 87 [.pointer (some ⟨gb,0,none⟩),.int .i64 m] F L K :=
 callBO hL (t87A F gb tb s lr n c m xs hs hm) fun v F' Lo hle hR => by
  rcases hR with ⟨s',ys,h1,h2,rfl,rfl⟩ | ⟨h1,rfl,rfl⟩
  ·exact ⟨_,_,_,_,rfl,k1 F' s' ys hle h1 h2⟩
  ·exact ⟨_,_,_,_,rfl,k2 F' hle h1⟩
theorem call96X {F:Frz} {L:Loc} {K:Frz → Loc → Value → Prop} {n c m:Nat} {a:Option Addr} {s:Value} {xs:List Value} (hs:RowV s n c) (hk:L.get 1001 = some (.row s 5 1 n xs)) (hc:c < n + m) (hm:n + m ≤ 70368744177664) (hx:xs.length = n) (h1:∀ u ∈ xs,u.oneCell' = true) (ha:s = .slice a n c)
  (kk:∀ b F' c2,F.le F' → RowV (.slice b n c2) n c2 → n + m ≤ c2 → K F' (L.set 1001 (.row (.slice b n c2) 5 1 n xs)) (.slice b n c2)):CallXDPt PZ (fun _ _ => False) [] 96 [slcVal a c 0 n 1,.int .i64 m] F L K:=by
 subst ha
 obtain ⟨_,_,hnc,_⟩:=hs.form
 rw [slc0 hs rfl]
 refine ⟨[1001],[.row (.slice a n c) 5 1 n xs],_,fun _ => False,by simp only [Loc.sub,hk],by simp,by simp,(t96R F a n c m xs (by omega) hc hm hx h1).toX,fun v L' _ h => h.elim,fun v F' Lo hF hR => ?_⟩
 obtain ⟨c2,q1,q2,rfl⟩:=hR
 obtain ⟨b,rfl,_⟩:=q1.form
 refine ⟨rfl,fun i g t cs e => ?_,fun _ => kk b F' c2 hF q1 q2⟩
 cases i with
 | zero => injection e with e; cases e
 | succ i => cases e
theorem noNew {L:Loc} {ss:List SStep} (h:(ss.all fun s => (newK s).isNone) = true):∀ s ∈ ss,∀ k,newK s = some k → L.get k = none:=by
 intro s hs k e
 have:=List.all_eq_true.1 h s hs
 rw [e] at this
 cases this
def R88 (ex:List Value) (gb tb:Nat) (lr:Int) (n m:Nat) (xs:List Value):Frz → List Own → Value → Prop:=fun _ Lo v =>
 ∃ s' c' ys,ys.length = m ∧ RowV s' (n + m) c' ∧ Lo = BO ex gb tb s' lr (n + m) (xs ++ ys) ∧ v = .int .i64 n
def Raw (ex:List Value) (gb tb:Nat) (lr:Int) (n m:Nat) (xs:List Value) (Lo:List Own):Prop :=
 ∃ a c,RowV (.slice a n c) n c ∧ n + m ≤ c ∧ Lo = [.box gb tb (slcVal a c 0 (n + m) 1 :: .int .i64 0 :: .int .i8 lr :: ex),.row (.slice a n c) 5 1 n xs]
theorem raw_relo {gb tb n m:Nat} {lr:Int} {xs:List Value} {Lo:List Own} {F:Frz} {w:World} (h:Raw ex gb tb lr n m xs Lo) (hst:St F (inp Lo) w) :
  ∃ Lo',St F (inp Lo') w ∧ (∀ b,(inp Lo').owns b → (inp Lo).owns b) ∧ ∃ s' c' ys,ys.length = m ∧ RowV s' (n + m) c' ∧ Lo' = BO ex gb tb s' lr (n + m) (xs ++ ys):=by
 obtain ⟨a,c,hs,hle,rfl⟩:=h
 rw [slc0 hs rfl] at hst ⊢
 rcases hs with ⟨e,rfl,rfl⟩ | ⟨g,e,h1,h2⟩
 ·injection e with e1 _ _
  subst e1
  have:m = 0:=by omega
  subst this
  exact ⟨_,hst,fun b h => h,.slice none 0 0,0,[],rfl,.inl ⟨rfl,rfl,rfl⟩,by simp [BO]⟩
 ·injection e with e1 _ _
  subst e1
  have hk:(inp [.box gb tb (.slice (some ⟨g,0,none⟩) (n + m) c :: .int .i64 0 :: .int .i8 lr :: ex),.row (.slice (some ⟨g,0,none⟩) n c) 5 1 n xs]).get 1001 = some (.row (.slice (some ⟨g,0,none⟩) n c) 5 1 n xs):=rfl
  have hxl:xs.length = n:=by
   have:=(hst.own _ _ hk).1
   simpa using this
  obtain ⟨ys,y1,y2,y3⟩:=St.reslice hst hk hle
  have hys:ys = xs ++ ys.drop n:=by
   apply List.ext_getElem?
   intro i
   by_cases hi:i < n
   ·rw [y2 i (by omega) (by omega),List.getElem?_append_left (by omega)]
   ·rw [List.getElem?_append_right (by omega),List.getElem?_drop,hxl]
    congr 1
    omega
  refine ⟨BO ex gb tb (.slice (some ⟨g,0,none⟩) (n + m) c) lr (n + m) ys,y3,fun b hb => ?_,_,c,ys.drop n,by rw [List.length_drop,y1]; omega,.inr ⟨g,rfl,hle,h2⟩,by rw [← hys]⟩
  obtain ⟨k,o,e,hb⟩:=hb
  rw [inp_BO] at e
  simp only [Loc.get] at e
  split at e
  ·rename_i hk1
   injection e with e; subst e
   exact ⟨1000,_,rfl,hb⟩
  ·split at e
   ·injection e with e; subst e
    exact ⟨1001,_,rfl,hb⟩
   ·cases e
theorem R88.relo {f gb tb n m:Nat} {lr:Int} {xs:List Value} {args:Array Value} {F:Frz} {Lin:List Own} (h:CallsA PZ f args F Lin (fun F' Lo v => R88 ex gb tb lr n m xs F' Lo v ∨ (Raw ex gb tb lr n m xs Lo ∧ v = .int .i64 n))):CallsA PZ f args F Lin (R88 ex gb tb lr n m xs):=by
 refine CallsA.relo h (fun _ _ _ _ _ h => h) ?_
 rintro F' Lo v w' hst (h | ⟨h,rfl⟩)
 ·exact ⟨Lo,hst,fun b h => h,h⟩
 ·obtain ⟨Lo',k1,k2,s',c',ys,k3,k4,rfl⟩:=raw_relo h hst
  exact ⟨_,k1,k2,s',c',ys,k3,k4,rfl,rfl⟩
set_option maxHeartbeats 1000000 in
theorem t88n (F:Frz) (gb tb:Nat) (lr:Int) (m:Nat) (hm:m ≤ 70368744177664) :
  CallsA PZ 88 #[.pointer (some ⟨gb,0,none⟩),.int .i64 m] F (BO ex gb tb (.slice none 0 0) lr 0 []) (R88 ex gb tb lr 0 m []):=by
 have hs:RowV (.slice none 0 0) 0 0:=.inl ⟨rfl,rfl,rfl⟩
 refine R88.relo ?_
 refine callsA2_facts (svs:=[.own 1000 0,.v (.int .i64 m)]) rfl facts88 rfl rfl (buf_own (svs:=[.int .i64 m])) (fun _ _ _ _ _ h => h) ?_
 refine call94 rfl hs fun F1 hF1 => ?_
 refine call87 rfl hs (by omega) (fun F2 s' ys hF2 h1 h2 => ?_) (fun F2 hF2 hc => ?_)
 ·exact ⟨[1000,1001],_,rfl,by decide,.inl ⟨s',0,ys,h1,h2,rfl,rfl⟩⟩
 refine brn_p (fun h => ?_) (fun h => ?_)
 ·refine MakePt.mk (by omega) (by omega) (by decide) (by decide) fun g => ?_
  exact ⟨[1000,41],_,rfl,by decide,.inl ⟨.slice (some ⟨g,0,none⟩) m 64,64,(List.replicate m [Value.int .u8 0]).flatten,by simp,.inr ⟨g,by rw [Nat.zero_add m],by omega,by decide⟩,by rw [Nat.zero_add m]; rfl,rfl⟩⟩
 refine NonZ.mk (by omega) ?_
 refine Fit.to (m:=0) (by decide) ?_
 refine Fit.to (m:=0) (by decide) ?_
 refine brn_p (fun h2 => ?_) (fun h2 => ?_)
 ·omega
 refine Fit.to (m:=9223372036854775807) (by decide) ?_
 refine Fit.to (m:=9223372036854775807 - m) (by rw [wrap64_id (by omega) (by omega)]) ?_
 refine brn_p (fun h3 => ?_) (fun h3 => ?_)
 ·omega
 refine ⟨noNew (by kernel_rfl),?_⟩
 refine ⟨_,rfl,⟨_,rfl,⟨_,rfl,⟨_,rfl,⟨_,rfl,⟨_,rfl,⟨_,rfl,⟨_,rfl,⟨_,rfl,⟨_,rfl,?_⟩⟩⟩⟩⟩⟩⟩⟩⟩⟩
 refine SlcPt.mk (by omega) (by omega) (by omega) ?_
 refine ⟨_,rfl,⟨_,rfl,⟨_,rfl,⟨_,rfl,⟨_,rfl,⟨_,rfl,?_⟩⟩⟩⟩⟩⟩
 refine Fit.to (m:=(m:Int)) (by rw [wrap64_id (by omega) (by omega)]; omega) ?_
 refine call96X hs rfl (by omega) (by omega) rfl (by simp) rfl fun b F3 c2 hF3 hv hc2 => ?_
 refine ⟨_,rfl,⟨_,rfl,⟨_,rfl,?_⟩⟩⟩
 refine Fit.to (m:=((0 + m:Nat):Int)) (by rw [wrap64_id (by omega) (by omega)]; omega) ?_
 refine SlcPt.mk (by omega) (by omega) (by omega) ?_
 exact ⟨[1000,1001],_,rfl,by decide,.inr ⟨⟨b,c2,hv,by omega,rfl⟩,rfl⟩⟩
theorem t88r (F:Frz) (gb tb g:Nat) (lr:Int) (n c m:Nat) (xs:List Value) (hn:n ≤ c) (hcm:c ≤ maxLen) (hm:n + m ≤ 70368744177664) (hx:xs.length = n) (h1:∀ u ∈ xs,u.oneCell' = true) :
  CallsA PZ 88 #[.pointer (some ⟨gb,0,none⟩),.int .i64 m] F (BO ex gb tb (.slice (some ⟨g,0,none⟩) n c) lr n xs) (R88 ex gb tb lr n m xs):=by
 have hs:RowV (.slice (some ⟨g,0,none⟩) n c) n c:=.inr ⟨g,rfl,hn,hcm⟩
 refine R88.relo ?_
 refine callsA2_facts (svs:=[.own 1000 0,.v (.int .i64 m)]) rfl facts88 rfl rfl (buf_own (svs:=[.int .i64 m])) (fun _ _ _ _ _ h => h) ?_
 refine call94 rfl hs fun F1 hF1 => ?_
 refine brn_p (fun h0 => ?_) (fun h0 => ?_) <;>
 ·refine call87 rfl hs (by omega) (fun F2 s' ys hF2 h1 h2 => ?_) (fun F2 hF2 hc => ?_)
  ·exact ⟨[1000,1001],_,rfl,by decide,.inl ⟨s',c,ys,h1,h2,rfl,rfl⟩⟩
  have hcm':c ≤ 9223372036854775807:=hcm
  refine NonZ.mk (by omega) ?_
  refine Fit.to (m:=((c / 2:Nat):Int)) (by rw [show ((c:Int).tdiv 2) = ((c / 2:Nat):Int) from rfl,wrap64_id (by omega) (by omega)]) ?_
  refine Fit.to (m:=((c / 2:Nat):Int) - n) (by rw [wrap64_id (by omega) (by omega)]) ?_
  refine brn_p (fun h2 => ?_) (fun h2 => ?_)
  ·omega
  refine Fit.to (m:=9223372036854775807 - c) (by rw [wrap64_id (by omega) (by omega)]) ?_
  refine Fit.to (m:=9223372036854775807 - c - m) (by rw [wrap64_id (by omega) (by omega)]) ?_
  refine brn_p (fun h3 => ?_) (fun h3 => ?_)
  ·omega
  refine ⟨noNew (by kernel_rfl),?_⟩
  refine ⟨_,rfl,⟨_,rfl,⟨_,rfl,⟨_,rfl,⟨_,rfl,⟨_,rfl,⟨_,rfl,⟨_,rfl,⟨_,rfl,⟨_,rfl,?_⟩⟩⟩⟩⟩⟩⟩⟩⟩⟩
  refine SlcPt.mk (by omega) (by omega) (by omega) ?_
  refine ⟨_,rfl,⟨_,rfl,⟨_,rfl,⟨_,rfl,⟨_,rfl,⟨_,rfl,?_⟩⟩⟩⟩⟩⟩
  refine Fit.to (m:=(m:Int)) (by rw [wrap64_id (by omega) (by omega)]; omega) ?_
  refine call96X hs rfl (by omega) (by omega) hx h1 rfl fun b F3 c2 hF3 hv hc2 => ?_
  refine ⟨_,rfl,⟨_,rfl,⟨_,rfl,?_⟩⟩⟩
  refine Fit.to (m:=((n + m:Nat):Int)) (by rw [wrap64_id (by omega) (by omega)]; omega) ?_
  refine SlcPt.mk (by omega) (by omega) (by omega) ?_
  exact ⟨[1000,1001],_,rfl,by decide,.inr ⟨⟨b,c2,hv,by omega,rfl⟩,rfl⟩⟩
theorem t88A (F:Frz) (gb tb:Nat) (s:Value) (lr:Int) (n c m:Nat) (xs:List Value) (hs:RowV s n c) (hm:n + m ≤ 70368744177664) (hx:xs.length = n) (h1:∀ u ∈ xs,u.oneCell' = true) :
  CallsA PZ 88 #[.pointer (some ⟨gb,0,none⟩),.int .i64 m] F (BO ex gb tb s lr n xs) (R88 ex gb tb lr n m xs):=by
 rcases hs with ⟨rfl,rfl,rfl⟩ | ⟨g,rfl,h2,h3⟩
 ·obtain rfl:xs = []:=List.eq_nil_of_length_eq_zero hx
  exact t88n F gb tb lr m (by omega)
 ·exact t88r F gb tb g lr n c m xs h2 h3 hm hx h1
end Go.Fr.Tryd
