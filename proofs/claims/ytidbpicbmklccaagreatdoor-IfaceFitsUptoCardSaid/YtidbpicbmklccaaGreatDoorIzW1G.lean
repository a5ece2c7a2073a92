/- Part of the proofs of the statements of this seat. -/
import Derived.Test.YtidbpicbmklccaaGreatDoorFW3
import Derived.Test.YtidbpicbmklccaaGreatDoorIzCode
set_option maxRecDepth 10000
set_option linter.unusedVariables false
set_option linter.unusedSimpArgs false
namespace Go.Fr.Tryz
open Go Go.RowKit Go.Proofs Go.Fr Go.Fr.T Go.Fr.Api
noncomputable abbrev PZ:Program:=Tryz.prog
def errV (n:Int):Value:=.iface 43 (.int .i64 n)
structure Ifc where
 module:ByteArray
 uses:List ByteArray
 against:List Int
 digest:Int
 body:List UInt8
def strs (l:List ByteArray):List (List C):=l.map fun s => [.str s]
def ifC (i:Ifc):List C:=[.str i.module,.sl (strs i.uses),.sl (ics i.against),IC i.digest,.sl (bcells i.body)]
theorem ics_len {l:List Int}:(ics l).length = l.length:=by simp [ics]
theorem strs_len' {l:List ByteArray}:(strs l).length = l.length:=by simp [strs]
theorem bcells_len {bs:List UInt8}:(bcells bs).length = bs.length:=by simp [bcells]
theorem bcells_sz {bs:List UInt8}:∀ es ∈ bcells bs,es.length = 1:=by
 intro es h
 simp only [bcells,List.mem_map] at h
 obtain ⟨b,_,rfl⟩:=h
 rfl
theorem bcells_slice (bs:List UInt8) (n m:Nat):((bcells bs).drop n).take m = bcells ((bs.drop n).take m):=by simp [bcells]
theorem Fit.to {k:IntKind} {n m:Int} {K:Int → Prop} (h:k.wrap n = m) (hK:K m):Fit k n K:=⟨by rw [h]; exact hK⟩
theorem wrap64_id {n:Int} (h1:-9223372036854775808 ≤ n) (h2:n ≤ 9223372036854775807):IntKind.wrap .i64 n = n:=by
 simp only [IntKind.wrap,IntKind.bits,IntKind.signed,Bool.true_and,decide_eq_true_eq,ge_iff_le,Nat.reduceSub,Int.reducePow]
 split <;> omega
theorem app1r {els:List (List C)} {c:List C} {sz by':Nat} {K:Prop} (n:Nat) (hc:c.length = sz) (hn:els.length = n) (hb:by' ≤ 1024) (h:n ≤ 2 ^ 30) (k:K):AppT els [c] sz by' K :=
 ⟨fun es he => (by rcases List.mem_cons.1 he with rfl | he; exact hc; cases he),by rw [hn]; simp only [List.length_cons,List.length_nil,maxLen]; omega,by
  rw [hn]
  simp only [List.length_cons,List.length_nil]
  calc (n + (0 + 1)) * by' ≤ (n + 1) * 1024:=Nat.mul_le_mul_left _ hb
   _ ≤ 140737488355328:=by omega,k⟩
theorem nil_rw {L L1:TL} {k t sz:Nat} (h:L.get k = none) (h1:L1.get k = some (.row t sz [])):leC L L1 .nils (.rw k):=.inr (.inr (.inr (.inl ⟨rfl,k,t,sz,rfl,h,h1⟩)))
abbrev Dec (α:Type):=List UInt8 → Option (α × List UInt8)
def takeD (n:Int):Dec (List UInt8):=fun l => if 0 ≤ n ∧ n ≤ l.length then some (l.take n.toNat,l.drop n.toNat) else none
def unz (z:Nat):Int:=if z % 2 = 0 then ((z / 2:Nat):Int) else -((z / 2:Nat):Int) - 1
def numGo:Nat → Nat → Nat → Dec Int
 | 0,_,_,_ => none
 | _ + 1,_,_,[] => none
 | f + 1,k,z,c :: r => if c.toNat < 128 then (if 0 < c.toNat ∨ k = 0 then some (unz (z + c.toNat * 128 ^ k),r) else none)
  else numGo f (k + 1) (z + (c.toNat - 128) * 128 ^ k) r
def numD:Dec Int:=numGo 9 0 0
def bytesD:Dec (List UInt8):=fun l => match numD l with
 | some (n,r) => takeD n r
 | none => none
def textD:Dec ByteArray:=fun l => match bytesD l with
 | some (b,r) => some (⟨b.toArray⟩,r)
 | none => none
def repD {α:Type} (f:Dec α):Nat → Dec (List α)
 | 0,l => some ([],l)
 | n + 1,l => match f l with
  | some (x,r) => match repD f n r with
   | some (xs,r) => some (x :: xs,r)
   | none => none
  | none => none
def listD {α:Type} (f:Dec α):Dec (List α):=fun l => match numD l with
 | some (n,r) => if 0 ≤ n ∧ n ≤ r.length then repD f n.toNat r else none
 | none => none
def andD {α β:Type} (f:Dec α) (k:α → Dec β):Dec β:=fun l => match f l with
 | none => none
 | some (x,r) => k x r
theorem andD_none {α β:Type} {f:Dec α} {k:α → Dec β} {l:List UInt8} (h:f l = none):andD f k l = none:=by simp only [andD,h]
theorem andD_some {α β:Type} {f:Dec α} {k:α → Dec β} {l r:List UInt8} {x:α} (h:f l = some (x,r)):andD f k l = k x r:=by simp only [andD,h]
def retD {α:Type} (x:α):Dec α:=fun l => some (x,l)
def ifD:Dec Ifc:=andD textD fun m => andD (listD textD) fun u => andD (listD numD) fun a => andD numD fun d => andD bytesD fun b => retD ⟨m,u,a,d,b⟩
theorem takeD_pos {n:Int} {bs:List UInt8} (h:0 ≤ n) (k:n ≤ bs.length):takeD n bs = some (bs.take n.toNat,bs.drop n.toNat):=by simp [takeD,h,k]
def RB (t:Nat) (s r:List UInt8):TO:=.box t [.sl (bcells s),IC ((s.length - r.length:Nat):Int),IC (-1)]
def RdOk {α:Type} (f:Nat) (args:List C) (t:Nat) (s r:List UInt8) (o:Option (α × List UInt8)) (cell:α → C):Prop :=
 CallsTX PZ f args [RB t s r] (fun Mo c => ∃ y r',o = some (y,r') ∧ r' <:+ r ∧ Mo = [RB t s r'] ∧ c = cell y) (fun v => v = errV 16 ∧ o = none)
section
variable {L:TL} {ρ:TEnv}
theorem rows1 {L:TL} {t:Nat} {cs:List C} (hs:L.sub [1000] = some [.box t cs]):rowsOf L [1000] = []:=by
 simp only [TL.sub] at hs
 split at hs
 ·rename_i o l h1 h2
  injection hs with hs
  injection hs with hs _
  subst hs
  simp only [rowsOf,h1]
 ·cases hs
theorem rowsK {L:TL} {k t:Nat} {cs:List C} (hs:L.sub [k] = some [.box t cs]):rowsOf L [k] = []:=by
 simp only [TL.sub] at hs
 split at hs
 ·rename_i o l h1 h2
  injection hs with hs
  injection hs with hs _
  subst hs
  simp only [rowsOf,h1]
 ·cases hs
theorem rdD {α:Type} (kb:Nat) {PS:Pan} {fb:List Nat} {f:Nat} {args args':List C} {t:Nat} {s r:List UInt8} {o:Option (α × List UInt8)} {cell:α → C} {K:TL → TEnv → C → Prop} (h:RdOk f args' t s r o cell)
  (hs:L.sub [kb] = some [RB t s r]) (hfb:disjB [kb] fb = true) (hh:hbOk L [kb] PS.hb = true) (ha:(args.map fun c => c.canA.ren (toIn [kb] 1000)) = args') (hp:o = none → PS.ps (errV 16))
  (k:∀ y r',o = some (y,r') → r' <:+ r → Wf (cell y) → K ((L.dels [kb]).puts [kb] [RB t s r']) ρ ((cell y).ren (fromIn [kb])).slt):CallXDT PZ PS fb f args L ρ K:=by
 subst ha
 refine ⟨[kb],_,_,_,hs,rfl,hfb,(by simp [boxesAt,RB]),hh,h,fun v ⟨e,h⟩ => e ▸ hp h,?_⟩
 rintro v Mo ⟨y,r',e1,e2,rfl,rfl⟩ hw hwo
 refine ⟨rfl,?_⟩
 rw [rowsK hs]
 exact k y r' e1 e2 hw
theorem rdN {α:Type} (kb:Nat) {PS:Pan} {f:Nat} {args args':List C} {t:Nat} {s r:List UInt8} {o:Option (α × List UInt8)} {cell:α → C} {K:TL → TEnv → C → Prop} (h:RdOk f args' t s r o cell)
  (hs:L.sub [kb] = some [RB t s r]) (hk:T.koOk L [kb] [kb] = true) (hh:hbOk L [kb] PS.hb = true) (ha:(args.map fun c => c.canA.ren (toIn [kb] 1000)) = args') (hp:o = none → PS.ps (errV 16))
  (k:∀ y r',o = some (y,r') → r' <:+ r → Wf (cell y) → K ((L.dels [kb]).puts [kb] [RB t s r']) ρ ((cell y).ren (fromIn [kb])).slt):CallXT PZ PS f args L ρ K:=by
 subst ha
 refine ⟨[],[kb],[kb],L,_,_,_,.inl rfl,hs,rfl,rfl,hk,(by simp [boxesAt,RB]),hh,h,fun v ⟨e,h⟩ => e ▸ hp h,?_⟩
 rintro v Mo ⟨y,r',e1,e2,rfl,rfl⟩ hw hwo
 refine ⟨rfl,?_⟩
 rw [rowsK hs]
 exact k y r' e1 e2 hw
theorem retR {R:List TO → C → Prop} (ko:List Nat) {Lin Mo Lo:List TO} {v x:C} (hs:L.sub ko = some Mo) (hc:(T.nodup? ko && boxesAt Lin (List.range' 1000 Lin.length) ko) = true) (hl:Mo.map (TO.mapC (C.ren (toIn ko 1000))) = Lo) (e:v.canR.ren (toIn ko 1000) = x) (h:R Lo x):RetT Lin L v R:=by
 simp only [Bool.and_eq_true] at hc
 exact ⟨[],ko,L,v,v,Mo,rfl,.inl ⟨rfl,rfl⟩,hs,hc.1,hc.2,fun _ => by rw [hl,e]; exact h⟩
theorem retRF {R:List TO → C → Prop} (fz ko:List Nat) {Lin:List TO} {v:C} (hf:frzK fz L (fun _ => .any) [v] fun L _ vs => ∃ c Mo,vs = [c] ∧ L.sub ko = some Mo ∧ (T.nodup? ko && boxesAt Lin (List.range' 1000 Lin.length) ko) = true ∧ R (Mo.map (TO.mapC (C.ren (toIn ko 1000)))) (c.canR.ren (toIn ko 1000))):RetT Lin L v R:=by
 refine ⟨fz,ko,?_⟩
 refine callF.frzK_imp hf ?_
 rintro L ρ vs ⟨c,Mo,rfl,hs,hc,hR⟩
 simp only [Bool.and_eq_true] at hc
 exact ⟨L,c,c,Mo,rfl,.inl ⟨rfl,rfl⟩,hs,hc.1,hc.2,fun _ => hR⟩
end
end Go.Fr.Tryz
namespace Go.Fr.Tryz
open Go Go.RowKit Go.Proofs Go.Fr Go.Fr.T
theorem St.reslice {F:Frz} {L:Loc} {w:World} {k g t sz n n' c:Nat} {xs:List Value} (hs:St F L w) (hk:L.get k = some (.row (.slice (some ⟨g,0,none⟩) n c) t sz n xs)) (hn:n' ≤ c) :
  ∃ ys,ys.length = n' * sz ∧ (∀ i,i < n * sz → i < n' * sz → ys[i]? = xs[i]?) ∧ St F (L.set k (.row (.slice (some ⟨g,0,none⟩) n' c) t sz n' ys)) w:=by
 have hr:=hs.own k _ hk
 simp only [Own.ok] at hr
 obtain ⟨hx,⟨e,_⟩ | ⟨g',cap,cur,e,h0,hg,h1,h2,h3,h4⟩⟩:=hr
 ·cases e
 ·injection e with e1 e2 e3
  injection e1 with e1
  injection e1 with e1 _ _
  subst e1 e3
  have hle:n' * sz ≤ c * sz:=Nat.mul_le_mul_right _ hn
  refine ⟨cur.toList.take (n' * sz),?_,fun i hi hi' => ?_,?_⟩
  ·rw [List.length_take,Array.length_toList,h3]; omega
  ·rw [← h4,List.getElem?_take_of_lt hi,List.getElem?_take_of_lt hi']
  ·refine hs.turn hk (o':=.row (.slice (some ⟨g,0,none⟩) n' c) t sz n' (cur.toList.take (n' * sz))) ?_ (fun _ _ _ => rfl) (fun g' hg' => .inl hg')
   exact ⟨by rw [List.length_take,Array.length_toList,h3]; omega,.inr ⟨g,c,cur,rfl,h0,hg,hn,h2,h3,rfl⟩⟩
theorem CallsA.relo {P:Program} {f:FuncId} {args:Array Value} {F:Frz} {Lin:List Own} {R R':Frz → List Own → Value → Prop} (h:CallsA P f args F Lin R) (hm:∀ F G L v,F.le G → R' F L v → R' G L v)
  (hk:∀ F' Lo v w',St F' (inp Lo) w' → R F' Lo v → ∃ Lo',St F' (inp Lo') w' ∧ (∀ b,(inp Lo').owns b → (inp Lo).owns b) ∧ R' F' Lo' v):CallsA P f args F Lin R':=by
 refine ⟨h.ent,hm,fun w hs => (h.run w hs).mono ?_⟩
 rintro e w' ⟨v,F',Lo,rfl,h1,h2,h3⟩
 obtain ⟨Lo',k1,k2,k3⟩:=hk F' Lo v w' h1 h3
 exact ⟨v,F',Lo',rfl,k1,⟨h2.le,h2.os,h2.tape,h2.output,h2.size,h2.same,h2.frz,fun b hb => h2.own b (k2 b hb)⟩,k3⟩
def RowV (s:Value) (n c:Nat):Prop:=(s = .slice none 0 0 ∧ n = 0 ∧ c = 0) ∨ ∃ g,s = .slice (some ⟨g,0,none⟩) n c ∧ n ≤ c ∧ c ≤ maxLen
theorem RowV.form {s:Value} {n c:Nat} (h:RowV s n c):∃ a,s = .slice a n c ∧ n ≤ c ∧ c ≤ maxLen ∧ (a = none → n = 0 ∧ c = 0):=by
 rcases h with ⟨rfl,rfl,rfl⟩ | ⟨g,rfl,h1,h2⟩
 ·exact ⟨none,rfl,Nat.le_refl _,Nat.zero_le _,fun _ => ⟨rfl,rfl⟩⟩
 ·exact ⟨_,rfl,h1,h2,fun e => by cases e⟩
theorem rowV_of {F:Frz} {L:Loc} {w:World} {k t sz n:Nat} {v:Value} {xs:List Value} (hs:St F L w) (hk:L.get k = some (.row v t sz n xs)):∃ c,RowV v n c:=by
 have hr:=hs.own k _ hk
 simp only [Own.ok] at hr
 obtain ⟨hx,⟨e,e2⟩ | ⟨g',cap,cur,e,h0,hg,h1,h2,h3,h4⟩⟩:=hr
 ·exact ⟨0,.inl ⟨e,e2,rfl⟩⟩
 ·exact ⟨cap,.inr ⟨g',e,h1,h2⟩⟩
def BO (ex:List Value) (gb tb:Nat) (s:Value) (lr:Int) (n:Nat) (xs:List Value):List Own:=[.box gb tb (s :: .int .i64 0 :: .int .i8 lr :: ex),.row s 5 1 n xs]
theorem inp_BO {ex:List Value} {gb tb:Nat} {s:Value} {lr:Int} {n:Nat} {xs:List Value}:inp (BO ex gb tb s lr n xs) = [(1000,.box gb tb (s :: .int .i64 0 :: .int .i8 lr :: ex)),(1001,.row s 5 1 n xs)]:=rfl
theorem env_args {Lin:List Own} (svs:List SV) (n:Nat) (hown:∀ v ∈ svs,(∀ k off,v = .own k off → ∃ g ty cs,(inp Lin).get k = some (.box g ty cs)) ∧ (∀ ad j,v = .el ad j → ad ≠ none)) :
  EnvOk (inp Lin) (argE 0 svs) { tmps:=(svs.map (conc (inp Lin))).toArray ++ Array.replicate (n - (svs.map (conc (inp Lin))).toArray.size) undef,defers:=[] }:=by
 have hin:∀ t,argE 0 svs t = .v undef ∨ argE 0 svs t ∈ svs:=by
  intro t
  rw [argE_get]
  simp only [Nat.zero_le,if_true,Nat.sub_zero]
  cases e:svs[t]? with
  | none => exact .inl rfl
  | some v => exact .inr (List.mem_of_getElem? e)
 refine ⟨fun t => ?_,fun t k off e => ?_,fun t ad j e => ?_⟩
 ·rw [argE_get]
  simp only [Nat.zero_le,if_true,Nat.sub_zero,Array.getD_eq_getD_getElem?]
  cases e:svs[t]? with
  | some v =>
   have hlt:t < svs.length:=(List.getElem?_eq_some_iff.1 e).1
   rw [Array.getElem?_append_left (by simpa using hlt)]
   simp [e]
  | none =>
   have hge:svs.length ≤ t:=List.getElem?_eq_none_iff.1 e
   rw [Array.getElem?_append_right (by simpa using hge)]
   simp only [Array.getElem?_replicate,Option.getD_none,conc]
   split <;> rfl
 ·rcases hin t with h1 | h1
  ·rw [h1] at e; cases e
  ·exact (hown _ h1).1 k off e
 ·rcases hin t with h1 | h1
  ·rw [h1] at e; cases e
  ·exact (hown _ h1).2 ad j e
variable {ex:List Value}
theorem buf_own {gb tb:Nat} {s:Value} {lr:Int} {n:Nat} {xs:List Value} {svs:List Value}:∀ v ∈ (SV.own 1000 0 :: svs.map SV.v),(∀ k off,v = .own k off → ∃ g ty cs,(inp (BO ex gb tb s lr n xs)).get k = some (.box g ty cs)) ∧ (∀ ad j,v = .el ad j → ad ≠ none):=by
 intro v hv
 rcases List.mem_cons.1 hv with rfl | hv
 ·exact ⟨fun k off e => by injection e with e1 e2; subst e1; exact ⟨_,_,_,rfl⟩,fun _ _ e => by cases e⟩
 ·obtain ⟨u,_,rfl⟩:=List.mem_map.1 hv
  exact ⟨fun _ _ e => (by cases e),fun _ _ e => (by cases e)⟩
theorem slc0 {s:Value} {n c h:Nat} {a:Option Addr} (hs:RowV s n c) (e:s = .slice a n c):slcVal a c 0 h 1 = .slice a h c:=by
 rcases hs with ⟨rfl,rfl,rfl⟩ | ⟨g,rfl,_,_⟩
 ·injection e with e1 e2 e3
  subst e1
  simp [slcVal]
 ·injection e with e1 e2 e3
  subst e1
  simp [slcVal,Addr.add]
def R94 (ex:List Value) (gb tb:Nat) (s:Value) (lr:Int) (n c m:Nat) (xs:List Value):Frz → List Own → Value → Prop:=fun _ Lo v =>
 (∃ s' ys,ys.length = m ∧ RowV s' (n + m) c ∧ Lo = BO ex gb tb s' lr (n + m) (xs ++ ys) ∧ v = .tuple #[.int .i64 n,.bool true]) ∨
 (c < n + m ∧ Lo = BO ex gb tb s lr n xs ∧ v = .tuple #[.int .i64 0,.bool false])
theorem t94A (F:Frz) (gb tb:Nat) (s:Value) (lr:Int) (n c m:Nat) (xs:List Value) (hs:RowV s n c) (hm:n + m ≤ 140737488355328) :
  CallsA PZ 94 #[.pointer (some ⟨gb,0,none⟩),.int .i64 m] F (BO ex gb tb s lr n xs) (R94 ex gb tb s lr n c m xs):=by
 obtain ⟨a,rfl,hnc,hcm,ha⟩:=hs.form
 unfold maxLen at hcm
 have h1:CallsA PZ 94 #[.pointer (some ⟨gb,0,none⟩),.int .i64 m] F (BO ex gb tb (.slice a n c) lr n xs) (fun _ Lo v =>
   (n + m ≤ c ∧ Lo = [.box gb tb (.slice a (n + m) c :: .int .i64 0 :: .int .i8 lr :: ex),.row (.slice a n c) 5 1 n xs] ∧ v = .tuple #[.int .i64 n,.bool true]) ∨
   (c < n + m ∧ Lo = BO ex gb tb (.slice a n c) lr n xs ∧ v = .tuple #[.int .i64 0,.bool false])):=by
  refine callsA2_facts (svs:=[.own 1000 0,.v (.int .i64 m)]) rfl facts94 rfl rfl (buf_own (svs:=[.int .i64 m])) (fun _ _ _ _ _ h => h) ?_
  refine Fit.in64 (by omega) (by omega) ?_
  refine brn_p (fun h => ?_) (fun h => ?_)
  ·refine Fit.in64 (by omega) (by omega) ?_
   refine SlcPt.mk (by omega) (by omega) (by omega) ?_
   have e:((n:Int) + m).toNat = n + m:=by omega
   have e2:slcVal a c 0 ((n:Int) + m).toNat 1 = .slice a (n + m) c:=by rw [e]; exact slc0 hs rfl
   exact ⟨[1000,1001],_,rfl,by decide,.inl ⟨by omega,congrArg (fun q => [Own.box gb tb (q :: .int .i64 0 :: .int .i8 lr :: ex),.row (.slice a n c) 5 1 n xs]) e2,rfl⟩⟩
  ·exact ⟨[1000,1001],_,rfl,by decide,.inr ⟨by omega,rfl,rfl⟩⟩
 refine CallsA.relo h1 (fun _ _ _ _ _ h => h) ?_
 rintro F' Lo v w' hst (⟨hle,rfl,rfl⟩ | ⟨hlt,rfl,rfl⟩)
 ·rcases hs with ⟨e,rfl,rfl⟩ | ⟨g,e,_,_⟩
  ·injection e with e1 _ _
   subst e1
   have:m = 0:=by omega
   subst this
   exact ⟨_,hst,fun b h => h,.inl ⟨.slice none 0 0,[],rfl,.inl ⟨rfl,rfl,rfl⟩,by simp [BO],rfl⟩⟩
  ·injection e with e1 _ _
   subst e1
   have hk:(inp [.box gb tb (.slice (some ⟨g,0,none⟩) (n + m) c :: .int .i64 0 :: .int .i8 lr :: ex),.row (.slice (some ⟨g,0,none⟩) n c) 5 1 n xs]).get 1001 = some (.row (.slice (some ⟨g,0,none⟩) n c) 5 1 n xs):=rfl
   have hxl:xs.length = n:=by
    have:=(hst.own _ _ hk).1
    simpa using this
   obtain ⟨ys,y1,y2,y3⟩:=St.reslice hst hk hle
   have hys:ys = xs ++ ys.drop n:=by
    apply List.ext_getElem?
    intro i
    by_cases hi:i < n
    ·rw [y2 i (by omega) (by omega),List.getElem?_append_left (by omega)]
    ·rw [List.getElem?_append_right (by omega),List.getElem?_drop,hxl]
     congr 1
     omega
   refine ⟨BO ex gb tb (.slice (some ⟨g,0,none⟩) (n + m) c) lr (n + m) ys,y3,fun b hb => ?_,.inl ⟨_,ys.drop n,by rw [List.length_drop,y1]; omega,.inr ⟨g,rfl,hle,by unfold maxLen; omega⟩,by rw [← hys],rfl⟩⟩
   obtain ⟨k,o,e,hb⟩:=hb
   rw [inp_BO] at e
   simp only [Loc.get] at e
   split at e
   ·rename_i hk1
    injection e with e; subst e
    exact ⟨1000,_,rfl,hb⟩
   ·split at e
    ·injection e with e; subst e
     exact ⟨1001,_,rfl,hb⟩
    ·cases e
 ·exact ⟨_,hst,fun b h => h,.inr ⟨hlt,rfl,rfl⟩⟩
variable {ex:List Value}
def c104a:SCode:=.reg [.op (some 8) (.mov (.t 0)) none,
  .op (some 9) (.len (.t 8)) none,
  .op (some 10) (.mov (.t 1)) none,
  .op (some 11) (.bin .add (.t 9) (.t 10)) none,
  .op (some 5) (.mov (.t 11)) none]
def c104b:SCode:=.seq (.reg [.op (some 12) (.mov (.t 5)) none,
  .op (some 13) (.mov (.t 0)) none,
  .op (some 14) (.capa (.t 13)) none,
  .op (some 15) (.bin .mul (.c (.int .i64 2)) (.t 14)) none,
  .op (some 16) (.bin .lss (.t 12) (.t 15)) none])
 (.cond (.t 16)
 (.reg [.op (some 17) (.mov (.t 0)) none,
   .op (some 18) (.capa (.t 17)) none,
   .op (some 19) (.bin .mul (.c (.int .i64 2)) (.t 18)) none,
   .op (some 5) (.mov (.t 19)) none])
 .skip)
def c104c:SCode:=.reg [.op (some 20) (.mov (.t 5)) none,
  .op (some 21) (.appZ 5 1 .u8 (.c (.slice none 0 0)) (.t 20)) none,
  .op (some 6) (.mov (.t 21)) none]
def c104d:SCode:=.seq (.reg [.op (some 22) (.mov (.t 6)) none,
  .op (some 23) (.mov (.t 0)) none,
  .op (some 24) (.copy 5 1 (.t 22) (.t 23)) none,
  .op (some 7) (.mov (.t 24)) none])
 (.seq (.reg [.op (some 25) (.mov (.t 6)) none,
  .op (some 26) (.mov (.t 7)) none,
  .op (some 27) (.slc 1 (.t 25) none (some (.t 26))) none,
  .op (some 4) (.mov (.t 27)) none])
 .ret)
theorem piece {P:Program} {A:Ann} {c:Code} {sc:SCode} (hl:low P A c = some sc) {N:Kont} {F:Frz} {L:Loc} {ρ:Env} {a:Act} {w:World} (hs:St F L w) (he:EnvOk L ρ a) (hn:a.tmps.size = A.n)
  (hK:evalC2 P sc (fun _ _ _ _ => False) (fun _ _ _ => False) N F L ρ) {Q:Exit → Act → World → Prop}
  (k:∀ a' w' F' L' ρ',St F' L' w' → EnvOk L' ρ' a' → a'.tmps.size = A.n → a'.defers = a.defers → Step F L w F' L' w' → N F' L' ρ' → Q .normal a' w'):c.wp P Q a w:=by
 refine wp_mono (evalC2_sound c hl hs he hn hK) ?_
 intro e a' w' h
 cases e with
 | normal => obtain ⟨F',L',ρ',h1,h2,h3,h4,h5,h6,h7⟩:=h; exact k _ _ _ _ _ h1 h2 h3 h4 h5 h7
 | exit j => obtain ⟨F',L',ρ',h1,h2,h3,h4,h5,h6,h7⟩:=h; exact h7.elim
 | ret => obtain ⟨F',L',ρ',h1,h2,h3,h4,h5,h6,h7⟩:=h; exact h7.elim
 | panic ch =>
  obtain ⟨v,_,F',L',q1,q2,q3,q4,q5,q6⟩:=h
  exact q6.elim
 | _ => exact h.elim
theorem put_self {ρ:Env} {k:Nat} {x:SV} (h:ρ k = x):put (some k) x ρ = ρ:=by
 funext j
 rw [put_eq]
 simp only []
 split
 ·rename_i e; rw [e,h]
 ·rfl
def A104r:Ann:={ n:=28 }
theorem catch_idle105 (w:World) :
  CallsD Tryz.prog 105 #[] .returning w fun e u' w' => e = .returned (.tuple #[]) ∧ u' = .returning ∧ w' = w:=by
 have hn:Tryz.f105.ntmps = 3:=by kernel_rfl
 have hr:Tryz.f105.results = #[]:=by kernel_rfl
 refine callsD_of_wpS Tryz.func105 rfl fun c₀ cs hu => ?_
 apply wpS_seq
 apply wpS_region
 simp [wpOpsS,go_sem,recoverD,hu,hn,Exit.thenS]
 refine wpS_cond (t:=false) (by simp [Act.eval,Array.replicate]) ?_
 simp only [Bool.false_eq_true,if_false]
 refine wpS_of_wp (wp_skip ?_)
 cases c₀
 simp_all [bodyPostS,results]
theorem t104A (F:Frz) (a:Option Addr) (n c m:Nat) (xs:List Value) (hn:n ≤ c) (hc:c < n + m) (hm:n + m ≤ 70368744177664) (hx:xs.length = n) (hsrc:FCells F a 0 xs ∨ (n = 0 ∧ xs = [])) (h1:∀ u ∈ xs,u.oneCell' = true) :
  CallsA PZ 104 #[.slice a n c,.int .i64 m] F [] (fun _ Lo v => ∃ c2,RowV v n c2 ∧ n + m ≤ c2 ∧ Lo = [.row v 5 1 n xs]):=by
 have hnt:Tryz.f104.ntmps = 28:=by kernel_rfl
 refine ⟨⟨_,Tryz.func104,by kernel_rfl,by kernel_rfl⟩,fun _ _ _ _ _ h => h,fun w hs => ?_⟩
 suffices hall:∀ RR:Ending → World → Prop,(∀ v F' Lo w',St F' (inp Lo) w' → Step F (inp []) w F' (inp Lo) w' → (∃ c2,RowV v n c2 ∧ n + m ≤ c2 ∧ Lo = [.row v 5 1 n xs]) → RR (.returned v) w') → Calls Tryz.prog 104 #[.slice a n c,.int .i64 m] w RR from
  hall _ fun v F' Lo w' h1 h2 h3 => ⟨v,F',Lo,rfl,h1,h2,h3⟩
 intro RR hRR
 refine calls_of_wp_defers Tryz.func104 rfl ?_
 rw [hnt]
 have he0:=env_args (Lin:=[]) [.v (.slice a n c),.v (.int .i64 m)] 28 (vals_own [.slice a n c,.int .i64 m])
 refine wp_seq (wp_region (evalOps_sound (A:=A104r) (r:=0) (List.range 1) (ss:=[.op (some 4) (.mov (.c (.slice none 0 0))) none]) (by kernel_rfl) hs he0 (by simp [A104r])
  (K:=fun F' L' ρ' => F' = F ∧ L' = inp [] ∧ ρ' = put (some 4) (.v (.slice none 0 0)) (argE 0 [.v (.slice a n c),.v (.int .i64 m)])) ⟨rfl,rfl,rfl⟩ ?_))
 rintro a1 w1 ⟨F1,L1,ρ1,hs1,he1,hn1,hd1,hst1,_,rfl,rfl,rfl⟩
 simp only [Exit.then]
 refine wp_seq (wp_region ?_)
 obtain ⟨tm,df⟩:=a1
 simp only at hn1 hd1
 subst hd1
 have hmk:∀ w:World,(Instr.makeFunc (.func 105) #[] #[]).run Tryz.prog w = .ok (.func (.func 105) #[] #[]) w:=fun _ => rfl
 simp [wpOps,go_sem,Exit.then,Act.eval]
 refine .inl ?_
 have he2:EnvOk (inp []) (put (some 4) (.v (.slice none 0 0)) (argE 0 [.v (.slice a n c),.v (.int .i64 m)])) { tmps:=tm,defers:=[{ target:=.fn (.func 105) #[],args:=#[] }] }:=⟨he1.eq,he1.own,he1.el⟩
 refine wp_seq (piece (A:=A104r) (sc:=c104a) (by kernel_rfl) hs1 he2 hn1 (N:=fun F' L' ρ' => F' = F1 ∧ L' = inp [] ∧ ρ' 5 = .v (.int .i64 (n + m:Nat)) ∧ ρ' 0 = .v (.slice a n c)) ?_ ?_)
 ·refine Fit.to (m:=((n + m:Nat):Int)) (by rw [wrap64_id (by omega) (by omega)]; omega) ?_
  exact ⟨rfl,rfl,rfl,rfl⟩
 rintro a2 w2 F2 L2 ρ2 hs2 he2 hn2 hd2 hst2 ⟨rfl,rfl,h25,h20⟩
 simp only [Exit.then]
 rw [← put_self h25,← put_self (ρ:=put _ _ ρ2) (k:=0) (x:=.v (.slice a n c)) (by rw [put_eq]; simpa using h20)] at he2
 generalize hMd:(if n + m < 2 * c then 2 * c else n + m) = M
 have hMn:n + m ≤ M ∧ M ≤ 140737488355328:=by subst hMd; split <;> omega
 refine wp_seq (piece (A:=A104r) (sc:=c104b) (by kernel_rfl) hs2 he2 hn2 (N:=fun F' L' ρ' => F' = F2 ∧ L' = inp [] ∧ ρ' 5 = .v (.int .i64 M) ∧ ρ' 0 = .v (.slice a n c)) ?_ ?_)
 ·refine Fit.to (m:=((2 * c:Nat):Int)) (by rw [wrap64_id (by omega) (by omega)]; omega) ?_
  refine brn_p (fun h => ?_) (fun h => ?_)
  ·refine Fit.to (m:=((2 * c:Nat):Int)) (by rw [wrap64_id (by omega) (by omega)]; omega) ?_
   exact ⟨rfl,rfl,(by rw [← hMd,if_pos (by omega)]; rfl),rfl⟩
  ·exact ⟨rfl,rfl,(by rw [← hMd,if_neg (by omega)]; rfl),rfl⟩
 clear h25 h20
 rintro a3 w3 F3 L3 ρ3 hs3 he3 hn3 hd3 hst3 ⟨rfl,rfl,h25,h20⟩
 simp only [Exit.then]
 rw [← put_self h25,← put_self (ρ:=put _ _ ρ3) (k:=0) (x:=.v (.slice a n c)) (by rw [put_eq]; simpa using h20)] at he3
 refine wp_seq (piece (A:=A104r) (sc:=c104c) (by kernel_rfl) hs3 he3 hn3 (N:=fun F' L' ρ' => F' = F3 ∧ ∃ ad c2,L' = [(21,.row (.slice (some ad) M c2) 5 1 M (List.replicate M (.int .u8 0)))] ∧ ρ' 6 = .v (.slice (some ad) M c2) ∧ ρ' 0 = .v (.slice a n c)) ?_ ?_)
 ·refine AppZPt.mk ⟨21,0,[],.inr ⟨rfl,rfl,rfl,rfl⟩,by unfold maxLen; omega,by omega,fun v hv => ?_⟩
  obtain ⟨a',c',rfl,hne⟩:=hv
  cases a' with
  | none => exact absurd (hne rfl) (by omega)
  | some ad =>
   rw [Nat.zero_add]
   exact ⟨rfl,ad,c',rfl,rfl,rfl⟩
 clear h25 h20
 rintro a4 w4 F4 L4 ρ4 hs4 he4 hn4 hd4 hst4 ⟨rfl,ad,c2,rfl,h25,h20⟩
 simp only [Exit.then]
 obtain ⟨c2',hrv⟩:=rowV_of hs4 (k:=21) rfl
 rcases hrv with ⟨e,_⟩ | ⟨g,e,hc2,hc2m⟩
 ·cases e
 injection e with e1 e2 e3
 injection e1 with e1
 subst e1 e3
 rw [← put_self h25,← put_self (ρ:=put _ _ ρ4) (k:=0) (x:=.v (.slice a n c)) (by rw [put_eq]; simpa using h20)] at he4
 have hsp:splice (List.replicate M (Value.int .u8 0)) (0 * 1) xs = xs ++ List.replicate (M - n) (.int .u8 0):=by
  simp [splice,hx]
 refine wp_mono (evalC2_sound (A:=A104r) _ (sc:=c104d) (by kernel_rfl) hs4 he4 hn4 (E:=fun _ _ _ _ => False) (N:=fun _ _ _ => False)
  (R:=fun F' L' ρ' => F' = F4 ∧ L' = [(21,.row (.slice (some ⟨g,0,none⟩) M c2) 5 1 M (xs ++ List.replicate (M - n) (.int .u8 0)))] ∧ ρ' 4 = .v (.slice (some ⟨g,0,none⟩) n c2)) ?_) ?_
 ·refine CopyPt.mk (.inl ⟨21,M,_,_,_,⟨g,0,none⟩,c2,c2,0,n,a,c,xs,rfl,rfl,rfl,by omega,rfl,by rw [Nat.min_eq_left (by omega),hx,Nat.mul_one],?_,h1,?_⟩)
  ·rw [Nat.min_eq_left (by omega)]; exact hsrc
  rw [Nat.min_eq_left (by omega),hsp]
  refine SlcPt.mk (by omega) (by omega) (by omega) ?_
  exact ⟨rfl,rfl,congrArg SV.v (slc0 (n:=M) (.inr ⟨g,rfl,by omega,hc2m⟩) rfl)⟩
 intro e a5 w5 h
 cases e with
 | normal => obtain ⟨F',L',ρ',h1,h2,h3,h4,h5,h6,h7⟩:=h; exact h7.elim
 | exit j => obtain ⟨F',L',ρ',h1,h2,h3,h4,h5,h6,h7⟩:=h; exact h7.elim
 | panic ch =>
  obtain ⟨v,_,F',L',q1,q2,q3,q4,q5,q6⟩:=h
  exact q6.elim
 | ret =>
  obtain ⟨F',L',ρ',hs5,he5,hn5,hd5,hst5,_,rfl,rfl,h4⟩:=h
  rw [hd4,hd3,hd2] at hd5
  show Leaves Tryz.prog Tryz.f104 a5.tmps RR a5.defers .returning w5
  rw [hd5]
  refine leaves_cons (f:=105) (args:=#[]) (by simp) (by simp [invoke]) ?_
  refine (catch_idle105 _).mono ?_
  rintro e u' w6 ⟨rfl,rfl,rfl⟩
  obtain ⟨vs,h5,rfl⟩:=results_run (P:=Tryz.prog) (fn:=Tryz.f104) (rs:=[(4,none)]) (K:=fun vs => vs = [.slice (some ⟨g,0,none⟩) n c2]) hs5 he5 (by kernel_rfl) (by
   simp only [retV,h4]
   rfl)
  obtain ⟨ys,y1,y2,y3⟩:=St.reslice (n':=n) hs5 (k:=21) rfl (by omega)
  have hys:ys = xs:=by
   apply List.ext_getElem?
   intro i
   by_cases hi:i < n
   ·rw [y2 i (by omega) (by omega),List.getElem?_append_left (by omega)]
   ·rw [List.getElem?_eq_none (by omega),List.getElem?_eq_none (by omega)]
  subst hys
  refine ⟨_,h5,hRR _ F' [.row (.slice (some ⟨g,0,none⟩) n c2) 5 1 n ys] w6 ?_ ?_ ⟨c2,.inr ⟨g,rfl,by omega,hc2m⟩,by omega,rfl⟩⟩
  ·exact y3.handed (ks:=[21]) rfl (by simp)
  ·have hst:=(((hst1.trans hst2).trans hst3).trans hst4).trans hst5
   refine ⟨hst.le,hst.os,hst.tape,hst.output,hst.size,hst.same,hst.frz,fun b hb => ?_⟩
   refine hst.own b ?_
   obtain ⟨k,o,e,hb⟩:=hb
   rw [inp_get] at e
   split at e
   case isFalse => cases e
   rename_i hk
   have hmem:=List.mem_of_getElem? e
   simp only [List.mem_singleton] at hmem
   subst hmem
   exact ⟨21,_,rfl,hb⟩
 | _ => exact h.elim
variable {ex:List Value}
theorem CallsA.ofFrz {P:Program} {f:FuncId} {args:Array Value} {F:Frz} {v:Value} {t sz n:Nat} {xs:List Value} {R:Frz → List Own → Value → Prop} (hent:∃ fn,P.funcs[f]? = some fn ∧ fn.body.isSome = true ∧ (fn.name == "runtime.NumGoroutine") = false)
  (hmono:∀ F G L v,F.le G → R F L v → R G L v) (h:∀ F',F.le F' → FRow F' v sz n xs → CallsA P f args F' [] R):CallsA P f args F [.row v t sz n xs] R:=by
 refine ⟨hent,hmono,fun w hs => ?_⟩
 have he:EnvOk (inp [.row v t sz n xs]) (fun _ => .v undef) { tmps:=#[],defers:=[] }:=⟨fun t => by simp [conc],fun _ _ _ e => (by cases e),fun _ _ _ e => (by cases e)⟩
 obtain ⟨F',L',k1,k2,k3,k4,k5⟩:=frz_sound (k:=1000) hs he (KK:=fun F' L' => L' = inp [] ∧ F.le F' ∧ FRow F' v sz n xs) ⟨v,t,sz,n,xs,rfl,fun F' h1 h2 => ⟨rfl,h1,h2⟩⟩
 obtain ⟨rfl,k5,k6⟩:=(⟨k4,k5⟩:_ ∧ _)
 refine Calls.mono ((h F' k5 k6).run w k1) ?_
 rintro e w' ⟨v,F2,Lo,rfl,h1,h2,h3⟩
 exact ⟨v,F2,Lo,rfl,h1,k3.trans h2,h3⟩
theorem ent104:∃ fn,Tryz.prog.funcs[104]? = some fn ∧ fn.body.isSome = true ∧ (fn.name == "runtime.NumGoroutine") = false:=⟨_,Tryz.func104,by kernel_rfl,by kernel_rfl⟩
theorem t104R (F:Frz) (a:Option Addr) (n c m:Nat) (xs:List Value) (hn:n ≤ c) (hc:c < n + m) (hm:n + m ≤ 70368744177664) (hx:xs.length = n) (h1:∀ u ∈ xs,u.oneCell' = true) :
  CallsA PZ 104 #[.slice a n c,.int .i64 m] F [.row (.slice a n c) 5 1 n xs] (fun _ Lo v => ∃ c2,RowV v n c2 ∧ n + m ≤ c2 ∧ Lo = [.row v 5 1 n xs]):=by
 refine CallsA.ofFrz ent104 (fun _ _ _ _ _ h => h) fun F' _ hF => t104A F' a n c m xs hn hc hm hx ?_ h1
 rcases hF with ⟨e,rfl,rfl⟩ | ⟨a',c',e,h,_⟩
 ·exact .inr ⟨rfl,rfl⟩
 ·injection e with e1 _ _
  subst e1
  exact .inl h
theorem t102A (F:Frz) (gb tb:Nat) (s:Value) (lr:Int) (n c:Nat) (xs:List Value) (hs:RowV s n c) :
  CallsA PZ 102 #[.pointer (some ⟨gb,0,none⟩)] F (BO ex gb tb s lr n xs) (fun _ Lo v => Lo = BO ex gb tb s lr n xs ∧ v = .int .i64 n):=by
 obtain ⟨a,rfl,hnc,hcm,ha⟩:=hs.form
 unfold maxLen at hcm
 refine callsA2_facts (svs:=[.own 1000 0]) rfl facts102 rfl rfl (buf_own (svs:=[])) (fun _ _ _ _ _ h => h) ?_
 refine Fit.to (m:=(n:Int)) (by rw [wrap64_id (by omega) (by omega)]; omega) ?_
 exact ⟨[1000,1001],_,rfl,by decide,rfl,rfl⟩
theorem callBO {f:Nat} {vs:List Value} {F:Frz} {L:Loc} {K:Frz → Loc → Value → Prop} {gb tb n:Nat} {s:Value} {lr:Int} {xs:List Value} {R:Frz → List Own → Value → Prop} (hL:L = inp (BO ex gb tb s lr n xs)) (h:CallsA PZ f vs.toArray F (BO ex gb tb s lr n xs) R)
  (kk:∀ v F' Lo,F.le F' → R F' Lo v → ∃ s' lr' n' xs',Lo = BO ex gb tb s' lr' n' xs' ∧ K F' (inp (BO ex gb tb s' lr' n' xs')) v):CallPt PZ f vs F L K:=by
 subst hL
 refine ⟨[1000,1001],[1000,1001],_,_,rfl,by decide,by decide,fun k hk => .inl hk,h,fun v F' Lo hle hR => ?_⟩
 obtain ⟨s',lr',n',xs',rfl,hK⟩:=kk v F' Lo hle hR
 refine ⟨rfl,fun k g t cs hk e => ?_,hK⟩
 simp only [List.mem_cons,List.not_mem_nil,or_false] at hk
 rcases hk with rfl | rfl
 ·have e':(some (Own.box gb tb (s :: .int .i64 0 :: .int .i8 lr :: ex))) = some (.box g t cs):=e
  injection e' with e'
  injection e' with e1 e2 e3
  subst e1 e2
  exact ⟨_,rfl⟩
 ·have e':(some (Own.row s 5 1 n xs)) = some (.box g t cs):=e
  injection e' with e'
  cases e'
theorem call94 {F:Frz} {L:Loc} {K:Frz → Loc → Value → Prop} {gb tb n c:Nat} {s:Value} {lr:Int} {xs:List Value} (hL:L = inp (BO ex gb tb s lr n xs)) (hs:RowV s n c)
  (kk:∀ F',F.le F' → K F' (inp (BO ex gb tb s lr n xs)) (.int .i64 n)):CallPt PZ 102 [.pointer (some ⟨gb,0,none⟩)] F L K :=
 callBO hL (t102A F gb tb s lr n c xs hs) fun v F' Lo hle hR => ⟨s,lr,n,xs,hR.1,hR.2 ▸ kk F' hle⟩
theorem call87 {F:Frz} {L:Loc} {K:Frz → Loc → Value → Prop} {gb tb n c m:Nat} {s:Value} {lr:Int} {xs:List Value} (hL:L = inp (BO ex gb tb s lr n xs)) (hs:RowV s n c) (hm:n + m ≤ 140737488355328)
  (k1:∀ F' s' ys,F.le F' → ys.length = m → RowV s' (n + m) c → K F' (inp (BO ex gb tb s' lr (n + m) (xs ++ ys))) (.tuple #[.int .i64 n,.bool true]))
  (k2:∀ F',F.le F' → c < n + m → K F' (inp (BO ex gb tb s lr n xs)) (.tuple #[.int .i64 0,.bool false])):CallPt PZ 94 [.pointer (some ⟨gb,0,none⟩),.int .i64 m] F L K :=
 callBO hL (t94A F gb tb s lr n c m xs hs hm) fun v F' Lo hle hR => by
  rcases hR with ⟨s',ys,h1,h2,rfl,rfl⟩ | ⟨h1,rfl,rfl⟩
  ·exact ⟨_,_,_,_,rfl,k1 F' s' ys hle h1 h2⟩
  ·exact ⟨_,_,_,_,rfl,k2 F' hle h1⟩
theorem call96X {F:Frz} {L:Loc} {K:Frz → Loc → Value → Prop} {n c m:Nat} {a:Option Addr} {s:Value} {xs:List Value} (hs:RowV s n c) (hk:L.get 1001 = some (.row s 5 1 n xs)) (hc:c < n + m) (hm:n + m ≤ 70368744177664) (hx:xs.length = n) (h1:∀ u ∈ xs,u.oneCell' = true) (ha:s = .slice a n c)
  (kk:∀ b F' c2,F.le F' → RowV (.slice b n c2) n c2 → n + m ≤ c2 → K F' (L.set 1001 (.row (.slice b n c2) 5 1 n xs)) (.slice b n c2)):CallXDPt PZ (fun _ _ => False) [] 104 [slcVal a c 0 n 1,.int .i64 m] F L K:=by
 subst ha
 obtain ⟨_,_,hnc,_⟩:=hs.form
 rw [slc0 hs rfl]
 refine ⟨[1001],[.row (.slice a n c) 5 1 n xs],_,fun _ => False,by simp only [Loc.sub,hk],by simp,by simp,(t104R F a n c m xs (by omega) hc hm hx h1).toX,fun v L' _ h => h.elim,fun v F' Lo hF hR => ?_⟩
 obtain ⟨c2,q1,q2,rfl⟩:=hR
 obtain ⟨b,rfl,_⟩:=q1.form
 refine ⟨rfl,fun i g t cs e => ?_,fun _ => kk b F' c2 hF q1 q2⟩
 cases i with
 | zero => injection e with e; cases e
 | succ i => cases e
theorem noNew {L:Loc} {ss:List SStep} (h:(ss.all fun s => (newK s).isNone) = true):∀ s ∈ ss,∀ k,newK s = some k → L.get k = none:=by
 intro s hs k e
 have:=List.all_eq_true.1 h s hs
 rw [e] at this
 cases this
def R95 (ex:List Value) (gb tb:Nat) (lr:Int) (n m:Nat) (xs:List Value):Frz → List Own → Value → Prop:=fun _ Lo v =>
 ∃ s' c' ys,ys.length = m ∧ RowV s' (n + m) c' ∧ Lo = BO ex gb tb s' lr (n + m) (xs ++ ys) ∧ v = .int .i64 n
def Raw (ex:List Value) (gb tb:Nat) (lr:Int) (n m:Nat) (xs:List Value) (Lo:List Own):Prop :=
 ∃ a c,RowV (.slice a n c) n c ∧ n + m ≤ c ∧ Lo = [.box gb tb (slcVal a c 0 (n + m) 1 :: .int .i64 0 :: .int .i8 lr :: ex),.row (.slice a n c) 5 1 n xs]
theorem raw_relo {gb tb n m:Nat} {lr:Int} {xs:List Value} {Lo:List Own} {F:Frz} {w:World} (h:Raw ex gb tb lr n m xs Lo) (hst:St F (inp Lo) w) :
  ∃ Lo',St F (inp Lo') w ∧ (∀ b,(inp Lo').owns b → (inp Lo).owns b) ∧ ∃ s' c' ys,ys.length = m ∧ RowV s' (n + m) c' ∧ Lo' = BO ex gb tb s' lr (n + m) (xs ++ ys):=by
 obtain ⟨a,c,hs,hle,rfl⟩:=h
 rw [slc0 hs rfl] at hst ⊢
 rcases hs with ⟨e,rfl,rfl⟩ | ⟨g,e,h1,h2⟩
 ·injection e with e1 _ _
  subst e1
  have:m = 0:=by omega
  subst this
  exact ⟨_,hst,fun b h => h,.slice none 0 0,0,[],rfl,.inl ⟨rfl,rfl,rfl⟩,by simp [BO]⟩
 ·injection e with e1 _ _
  subst e1
  have hk:(inp [.box gb tb (.slice (some ⟨g,0,none⟩) (n + m) c :: .int .i64 0 :: .int .i8 lr :: ex),.row (.slice (some ⟨g,0,none⟩) n c) 5 1 n xs]).get 1001 = some (.row (.slice (some ⟨g,0,none⟩) n c) 5 1 n xs):=rfl
  have hxl:xs.length = n:=by
   have:=(hst.own _ _ hk).1
   simpa using this
  obtain ⟨ys,y1,y2,y3⟩:=St.reslice hst hk hle
  have hys:ys = xs ++ ys.drop n:=by
   apply List.ext_getElem?
   intro i
   by_cases hi:i < n
   ·rw [y2 i (by omega) (by omega),List.getElem?_append_left (by omega)]
   ·rw [List.getElem?_append_right (by omega),List.getElem?_drop,hxl]
    congr 1
    omega
  refine ⟨BO ex gb tb (.slice (some ⟨g,0,none⟩) (n + m) c) lr (n + m) ys,y3,fun b hb => ?_,_,c,ys.drop n,by rw [List.length_drop,y1]; omega,.inr ⟨g,rfl,hle,h2⟩,by rw [← hys]⟩
  obtain ⟨k,o,e,hb⟩:=hb
  rw [inp_BO] at e
  simp only [Loc.get] at e
  split at e
  ·rename_i hk1
   injection e with e; subst e
   exact ⟨1000,_,rfl,hb⟩
  ·split at e
   ·injection e with e; subst e
    exact ⟨1001,_,rfl,hb⟩
   ·cases e
theorem R95.relo {f gb tb n m:Nat} {lr:Int} {xs:List Value} {args:Array Value} {F:Frz} {Lin:List Own} (h:CallsA PZ f args F Lin (fun F' Lo v => R95 ex gb tb lr n m xs F' Lo v ∨ (Raw ex gb tb lr n m xs Lo ∧ v = .int .i64 n))):CallsA PZ f args F Lin (R95 ex gb tb lr n m xs):=by
 refine CallsA.relo h (fun _ _ _ _ _ h => h) ?_
 rintro F' Lo v w' hst (h | ⟨h,rfl⟩)
 ·exact ⟨Lo,hst,fun b h => h,h⟩
 ·obtain ⟨Lo',k1,k2,s',c',ys,k3,k4,rfl⟩:=raw_relo h hst
  exact ⟨_,k1,k2,s',c',ys,k3,k4,rfl,rfl⟩
set_option maxHeartbeats 1000000 in
theorem t95n (F:Frz) (gb tb:Nat) (lr:Int) (m:Nat) (hm:m ≤ 70368744177664) :
  CallsA PZ 95 #[.pointer (some ⟨gb,0,none⟩),.int .i64 m] F (BO ex gb tb (.slice none 0 0) lr 0 []) (R95 ex gb tb lr 0 m []):=by
 have hs:RowV (.slice none 0 0) 0 0:=.inl ⟨rfl,rfl,rfl⟩
 refine R95.relo ?_
 refine callsA2_facts (svs:=[.own 1000 0,.v (.int .i64 m)]) rfl facts95 rfl rfl (buf_own (svs:=[.int .i64 m])) (fun _ _ _ _ _ h => h) ?_
 refine call94 rfl hs fun F1 hF1 => ?_
 refine call87 rfl hs (by omega) (fun F2 s' ys hF2 h1 h2 => ?_) (fun F2 hF2 hc => ?_)
 ·exact ⟨[1000,1001],_,rfl,by decide,.inl ⟨s',0,ys,h1,h2,rfl,rfl⟩⟩
 refine brn_p (fun h => ?_) (fun h => ?_)
 ·refine MakePt.mk (by omega) (by omega) (by decide) (by decide) fun g => ?_
  exact ⟨[1000,41],_,rfl,by decide,.inl ⟨.slice (some ⟨g,0,none⟩) m 64,64,(List.replicate m [Value.int .u8 0]).flatten,by simp,.inr ⟨g,by rw [Nat.zero_add m],by omega,by decide⟩,by rw [Nat.zero_add m]; rfl,rfl⟩⟩
 refine NonZ.mk (by omega) ?_
 refine Fit.to (m:=0) (by decide) ?_
 refine Fit.to (m:=0) (by decide) ?_
 refine brn_p (fun h2 => ?_) (fun h2 => ?_)
 ·omega
 refine Fit.to (m:=9223372036854775807) (by decide) ?_
 refine Fit.to (m:=9223372036854775807 - m) (by rw [wrap64_id (by omega) (by omega)]) ?_
 refine brn_p (fun h3 => ?_) (fun h3 => ?_)
 ·omega
 refine ⟨noNew (by kernel_rfl),?_⟩
 refine ⟨_,rfl,⟨_,rfl,⟨_,rfl,⟨_,rfl,⟨_,rfl,⟨_,rfl,⟨_,rfl,⟨_,rfl,⟨_,rfl,⟨_,rfl,?_⟩⟩⟩⟩⟩⟩⟩⟩⟩⟩
 refine SlcPt.mk (by omega) (by omega) (by omega) ?_
 refine ⟨_,rfl,⟨_,rfl,⟨_,rfl,⟨_,rfl,⟨_,rfl,⟨_,rfl,?_⟩⟩⟩⟩⟩⟩
 refine Fit.to (m:=(m:Int)) (by rw [wrap64_id (by omega) (by omega)]; omega) ?_
 refine call96X hs rfl (by omega) (by omega) rfl (by simp) rfl fun b F3 c2 hF3 hv hc2 => ?_
 refine ⟨_,rfl,⟨_,rfl,⟨_,rfl,?_⟩⟩⟩
 refine Fit.to (m:=((0 + m:Nat):Int)) (by rw [wrap64_id (by omega) (by omega)]; omega) ?_
 refine SlcPt.mk (by omega) (by omega) (by omega) ?_
 exact ⟨[1000,1001],_,rfl,by decide,.inr ⟨⟨b,c2,hv,by omega,rfl⟩,rfl⟩⟩
theorem t95r (F:Frz) (gb tb g:Nat) (lr:Int) (n c m:Nat) (xs:List Value) (hn:n ≤ c) (hcm:c ≤ maxLen) (hm:n + m ≤ 70368744177664) (hx:xs.length = n) (h1:∀ u ∈ xs,u.oneCell' = true) :
  CallsA PZ 95 #[.pointer (some ⟨gb,0,none⟩),.int .i64 m] F (BO ex gb tb (.slice (some ⟨g,0,none⟩) n c) lr n xs) (R95 ex gb tb lr n m xs):=by
 have hs:RowV (.slice (some ⟨g,0,none⟩) n c) n c:=.inr ⟨g,rfl,hn,hcm⟩
 refine R95.relo ?_
 refine callsA2_facts (svs:=[.own 1000 0,.v (.int .i64 m)]) rfl facts95 rfl rfl (buf_own (svs:=[.int .i64 m])) (fun _ _ _ _ _ h => h) ?_
 refine call94 rfl hs fun F1 hF1 => ?_
 refine brn_p (fun h0 => ?_) (fun h0 => ?_) <;>
 ·refine call87 rfl hs (by omega) (fun F2 s' ys hF2 h1 h2 => ?_) (fun F2 hF2 hc => ?_)
  ·exact ⟨[1000,1001],_,rfl,by decide,.inl ⟨s',c,ys,h1,h2,rfl,rfl⟩⟩
  have hcm':c ≤ 9223372036854775807:=hcm
  refine NonZ.mk (by omega) ?_
  refine Fit.to (m:=((c / 2:Nat):Int)) (by rw [show ((c:Int).tdiv 2) = ((c / 2:Nat):Int) from rfl,wrap64_id (by omega) (by omega)]) ?_
  refine Fit.to (m:=((c / 2:Nat):Int) - n) (by rw [wrap64_id (by omega) (by omega)]) ?_
  refine brn_p (fun h2 => ?_) (fun h2 => ?_)
  ·omega
  refine Fit.to (m:=9223372036854775807 - c) (by rw [wrap64_id (by omega) (by omega)]) ?_
  refine Fit.to (m:=9223372036854775807 - c - m) (by rw [wrap64_id (by omega) (by omega)]) ?_
  refine brn_p (fun h3 => ?_) (fun h3 => ?_)
  ·omega
  refine ⟨noNew (by kernel_rfl),?_⟩
  refine ⟨_,rfl,⟨_,rfl,⟨_,rfl,⟨_,rfl,⟨_,rfl,⟨_,rfl,⟨_,rfl,⟨_,rfl,⟨_,rfl,⟨_,rfl,?_⟩⟩⟩⟩⟩⟩⟩⟩⟩⟩
  refine SlcPt.mk (by omega) (by omega) (by omega) ?_
  refine ⟨_,rfl,⟨_,rfl,⟨_,rfl,⟨_,rfl,⟨_,rfl,⟨_,rfl,?_⟩⟩⟩⟩⟩⟩
  refine Fit.to (m:=(m:Int)) (by rw [wrap64_id (by omega) (by omega)]; omega) ?_
  refine call96X hs rfl (by omega) (by omega) hx h1 rfl fun b F3 c2 hF3 hv hc2 => ?_
  refine ⟨_,rfl,⟨_,rfl,⟨_,rfl,?_⟩⟩⟩
  refine Fit.to (m:=((n + m:Nat):Int)) (by rw [wrap64_id (by omega) (by omega)]; omega) ?_
  refine SlcPt.mk (by omega) (by omega) (by omega) ?_
  exact ⟨[1000,1001],_,rfl,by decide,.inr ⟨⟨b,c2,hv,by omega,rfl⟩,rfl⟩⟩
theorem t95A (F:Frz) (gb tb:Nat) (s:Value) (lr:Int) (n c m:Nat) (xs:List Value) (hs:RowV s n c) (hm:n + m ≤ 70368744177664) (hx:xs.length = n) (h1:∀ u ∈ xs,u.oneCell' = true) :
  CallsA PZ 95 #[.pointer (some ⟨gb,0,none⟩),.int .i64 m] F (BO ex gb tb s lr n xs) (R95 ex gb tb lr n m xs):=by
 rcases hs with ⟨rfl,rfl,rfl⟩ | ⟨g,rfl,h2,h3⟩
 ·obtain rfl:xs = []:=List.eq_nil_of_length_eq_zero hx
  exact t95n F gb tb lr m (by omega)
 ·exact t95r F gb tb g lr n c m xs h2 h3 hm hx h1
variable {ex:List Value}
theorem RowV.some {a:Option Addr} {n c:Nat} (h:RowV (.slice a n c) n c) (hn:0 < n):∃ g,a = .some ⟨g,0,none⟩:=by
 rcases h with ⟨_,rfl,_⟩ | ⟨g,e,_⟩
 ·omega
 ·injection e with e
  exact ⟨g,e⟩
theorem call87s {F:Frz} {L:Loc} {K:Frz → Loc → Value → Prop} {gb tb n c m:Nat} {s:Value} {lr:Int} {xs:List Value} (hL:L = inp (BO ex gb tb s lr n xs)) (hs:RowV s n c) (hm:n + m ≤ 140737488355328) (hp:0 < n + m)
  (k1:∀ F' g c' ys,F.le F' → ys.length = m → n + m ≤ c' → c' ≤ maxLen → K F' (inp (BO ex gb tb (.slice (some ⟨g,0,none⟩) (n + m) c') lr (n + m) (xs ++ ys))) (.tuple #[.int .i64 n,.bool true]))
  (k2:∀ F',F.le F' → c < n + m → K F' (inp (BO ex gb tb s lr n xs)) (.tuple #[.int .i64 0,.bool false])):CallPt PZ 94 [.pointer (some ⟨gb,0,none⟩),.int .i64 m] F L K :=
 call87 hL hs hm (fun F' s' ys hF h1 h2 => by
  obtain ⟨a,rfl,q1,q2,_⟩:=h2.form
  obtain ⟨g,rfl⟩:=h2.some hp
  exact k1 F' g c ys hF h1 q1 q2) k2
theorem call88s {F:Frz} {L:Loc} {K:Frz → Loc → Value → Prop} {gb tb n c m:Nat} {s:Value} {lr:Int} {xs:List Value} (hL:L = inp (BO ex gb tb s lr n xs)) (hs:RowV s n c) (hm:n + m ≤ 70368744177664) (hx:xs.length = n) (h1:∀ u ∈ xs,u.oneCell' = true) (hp:0 < n + m)
  (k1:∀ F' g c' ys,F.le F' → ys.length = m → n + m ≤ c' → c' ≤ maxLen → K F' (inp (BO ex gb tb (.slice (some ⟨g,0,none⟩) (n + m) c') lr (n + m) (xs ++ ys))) (.int .i64 n)):CallPt PZ 95 [.pointer (some ⟨gb,0,none⟩),.int .i64 m] F L K :=
 callBO hL (t95A F gb tb s lr n c m xs hs hm hx h1) fun v F' Lo hF hR => by
  obtain ⟨s',c',ys,q1,q2,rfl,rfl⟩:=hR
  obtain ⟨a,rfl,q3,q4,_⟩:=q2.form
  obtain ⟨g,rfl⟩:=q2.some hp
  exact ⟨_,_,_,_,rfl,k1 F' g c' ys hF q1 q3 q4⟩
def RW (ex:List Value) (gb tb n m:Nat) (ys:List Value) (r:Value):Frz → List Own → Value → Prop:=fun _ Lo v => ∃ s' c',RowV s' (n + m) c' ∧ Lo = BO ex gb tb s' 0 (n + m) ys ∧ v = r
theorem splice_end {xs ys zs:List Value} {n:Nat} (hx:xs.length = n) (hy:ys.length = zs.length):splice (xs ++ ys) n zs = xs ++ zs:=by
 subst hx
 simp [splice,hy]
theorem stByte {L:Loc} {j k:Nat} {K:Loc → Prop} {v:Value} {t m c:Nat} {xs:List Value} {ad:Addr} (b:Int) (hk:L.get k = some (.row v t 1 m xs)) (hv:v = .slice (some ad) m c) (hj:j + 1 ≤ xs.length) (kk:K (L.set k (.row v t 1 m (splice xs j [.int .u8 b])))):StorePt L (some ad) j [.int .u8 b] K :=
 ⟨k,v,t,1,m,xs,ad,c,hk,rfl,hv,hj,fun u hu => by rw [List.mem_singleton.1 hu]; rfl,kk⟩
theorem t93A (F:Frz) (gb tb:Nat) (s:Value) (lr:Int) (n c:Nat) (x:Int) (xs:List Value) (hs:RowV s n c) (hm:n + 1 ≤ 70368744177664) (hx:xs.length = n) (h1:∀ u ∈ xs,u.oneCell' = true) :
  CallsA PZ 93 #[.pointer (some ⟨gb,0,none⟩),.int .u8 x] F (BO ex gb tb s lr n xs) (RW ex gb tb n 1 (xs ++ [.int .u8 x]) .nilIface):=by
 refine callsA2_facts (svs:=[.own 1000 0,.v (.int .u8 x)]) rfl facts93 rfl rfl (buf_own (svs:=[.int .u8 x])) (fun _ _ _ _ _ h => h) ?_
 have tail:∀ (g c':Nat) (ys:List Value),ys.length = 1 → splice (xs ++ ys) (((n:Int).toNat) * 1) [.int .u8 x] = xs ++ [.int .u8 x]:=fun g c' ys hy => by
  rw [Nat.mul_one]; exact splice_end hx hy
 refine call87s (s:=s) (lr:=0) (m:=1) rfl hs (by omega) (by omega) (fun F1 g c' ys hF hy q1 q2 => ?_) (fun F1 hF hc => ?_)
 ·refine IdxPt.mk (fun e => by cases e) (by omega) (by omega) ?_
  refine stByte (k:=1001) x rfl rfl (by rw [List.length_append,hx,hy]; omega) ?_
  exact ⟨[1000,1001],_,rfl,by decide,_,c',.inr ⟨g,rfl,q1,q2⟩,congrArg (fun q => BO ex gb tb (.slice (some ⟨g,0,none⟩) (n + 1) c') 0 (n + 1) q) (tail g c' ys hy),rfl⟩
 ·refine call88s (s:=s) (lr:=0) (m:=1) rfl hs (by omega) hx h1 (by omega) fun F2 g c' ys hF2 hy q1 q2 => ?_
  refine IdxPt.mk (fun e => by cases e) (by omega) (by omega) ?_
  refine stByte (k:=1001) x rfl rfl (by rw [List.length_append,hx,hy]; omega) ?_
  exact ⟨[1000,1001],_,rfl,by decide,_,c',.inr ⟨g,rfl,q1,q2⟩,congrArg (fun q => BO ex gb tb (.slice (some ⟨g,0,none⟩) (n + 1) c') 0 (n + 1) q) (tail g c' ys hy),rfl⟩
theorem cut_row {g c n p:Nat} (h:n + p ≤ c):∃ j,j + p ≤ n + p ∧ (p ≠ 0 → j = n) ∧ slcVal (some ⟨g,0,none⟩) c n (n + p) 1 = .slice (some ((⟨g,0,none⟩:Addr).add (j * 1))) p (c - n):=by
 by_cases e:c = n
 ·refine ⟨0,by omega,fun hp => absurd (by omega) hp,?_⟩
  simp only [slcVal,if_pos e,Nat.add_sub_cancel_left]
  rfl
 ·refine ⟨n,Nat.le_refl _,fun _ => rfl,?_⟩
  simp only [slcVal,if_neg e,Nat.add_sub_cancel_left,Option.map]
theorem cpBytes {F:Frz} {L:Loc} {K:Loc → Nat → Prop} {g c' n p cp:Nat} {l h:Nat} {pa:Option Addr} {xs ys news:List Value} (hk:L.get 1001 = some (.row (.slice (some ⟨g,0,none⟩) (n + p) c') 5 1 (n + p) (xs ++ ys))) (hl':l = n) (hh:h = n + p) (hc:n + p ≤ c')
  (hx:xs.length = n) (hy:ys.length = p) (hl:news.length = p) (hsrc:FCells F pa 0 news ∨ (p = 0 ∧ news = [])) (h2:∀ u ∈ news,u.oneCell' = true)
  (kk:K (L.set 1001 (.row (.slice (some ⟨g,0,none⟩) (n + p) c') 5 1 (n + p) (xs ++ news))) p):CopyPt F L 5 1 (slcVal (some ⟨g,0,none⟩) c' l h 1) (.slice pa p cp) K:=by
 subst hl' hh
 obtain ⟨j,j1,j2,j3⟩:=cut_row (g:=g) hc
 refine ⟨.inl ⟨1001,p,_,_,_,⟨g,0,none⟩,c',c' - l,j,p,pa,cp,news,hk,rfl,j3,j1,rfl,by rw [Nat.min_self,hl,Nat.mul_one],by rw [Nat.min_self]; exact hsrc,h2,?_⟩⟩
 rw [Nat.min_self]
 have e:splice (xs ++ ys) (j * 1) news = xs ++ news:=by
  rw [Nat.mul_one]
  by_cases hp:p = 0
  ·obtain rfl:news = []:=List.eq_nil_of_length_eq_zero (by omega)
   obtain rfl:ys = []:=List.eq_nil_of_length_eq_zero (by omega)
   simp [splice]
  ·rw [j2 hp]; exact splice_end hx (by omega)
 rw [e]
 exact kk
theorem cpStr {L:Loc} {K:Loc → Nat → Prop} {g c' n:Nat} {l h:Nat} {t:ByteArray} {xs ys:List Value} (hk:L.get 1001 = some (.row (.slice (some ⟨g,0,none⟩) (n + t.size) c') 5 1 (n + t.size) (xs ++ ys))) (hl':l = n) (hh:h = n + t.size) (hc:n + t.size ≤ c')
  (hx:xs.length = n) (hy:ys.length = t.size)
  (kk:K (L.set 1001 (.row (.slice (some ⟨g,0,none⟩) (n + t.size) c') 5 1 (n + t.size) (xs ++ t.data.toList.map fun b => Value.int .u8 b.toNat))) t.size):CopySPt L 5 (slcVal (some ⟨g,0,none⟩) c' l h 1) t K:=by
 subst hl' hh
 obtain ⟨j,j1,j2,j3⟩:=cut_row (g:=g) hc
 rw [Nat.mul_one] at j3
 have hln:t.data.toList.length = t.size:=by simp
 refine ⟨1001,t.size,_,_,_,⟨g,0,none⟩,c',c' - l,j,hk,rfl,j3,j1,?_⟩
 rw [Nat.min_self,List.take_of_length_le (by omega)]
 have e:splice (xs ++ ys) j (t.data.toList.map fun b => Value.int .u8 b.toNat) = xs ++ t.data.toList.map fun b => Value.int .u8 b.toNat:=by
  by_cases hp:t.size = 0
  ·have h0:t.data.toList = []:=List.eq_nil_of_length_eq_zero (by omega)
   obtain rfl:ys = []:=List.eq_nil_of_length_eq_zero (by omega)
   simp [splice,h0]
  ·rw [j2 hp]; exact splice_end hx (by rw [List.length_map]; omega)
 rw [e]
 exact kk
theorem t66A (F:Frz) (gb tb:Nat) (s:Value) (lr:Int) (n c p cp:Nat) (pa:Option Addr) (xs news:List Value) (hs:RowV s n c) (hm:n + p ≤ 70368744177664) (hp:0 < n + p) (hx:xs.length = n) (h1:∀ u ∈ xs,u.oneCell' = true)
  (hl:news.length = p) (hsrc:FCells F pa 0 news ∨ (p = 0 ∧ news = [])) (h2:∀ u ∈ news,u.oneCell' = true) :
  CallsA PZ 66 #[.pointer (some ⟨gb,0,none⟩),.slice pa p cp] F (BO ex gb tb s lr n xs) (RW ex gb tb n p (xs ++ news) (.tuple #[.int .i64 p,.nilIface])):=by
 refine callsA2_facts (svs:=[.own 1000 0,.v (.slice pa p cp)]) rfl facts66 rfl rfl (buf_own (svs:=[.slice pa p cp])) (fun _ _ _ _ _ h => h) ?_
 refine call87s (s:=s) (lr:=0) rfl hs (by omega) hp (fun F1 g c' ys hF hy q1 q2 => ?_) (fun F1 hF hc => ?_)
 ·refine SlcPt.mk (by omega) (by omega) (by omega) ?_
  refine cpBytes rfl (by omega) (by omega) q1 hx hy hl (hsrc.imp (fun h => h.mono hF) id) h2 ?_
  exact ⟨[1000,1001],_,rfl,by decide,_,c',.inr ⟨g,rfl,q1,q2⟩,rfl,rfl⟩
 ·refine call88s (s:=s) (lr:=0) rfl hs (by omega) hx h1 hp fun F2 g c' ys hF2 hy q1 q2 => ?_
  refine SlcPt.mk (by omega) (by omega) (by omega) ?_
  refine cpBytes rfl (by omega) (by omega) q1 hx hy hl (hsrc.imp (fun h => (h.mono hF).mono hF2) id) h2 ?_
  exact ⟨[1000,1001],_,rfl,by decide,_,c',.inr ⟨g,rfl,q1,q2⟩,rfl,rfl⟩
theorem t79A (F:Frz) (gb tb:Nat) (s:Value) (lr:Int) (n c:Nat) (t:ByteArray) (xs:List Value) (hs:RowV s n c) (hm:n + t.size ≤ 70368744177664) (hp:0 < n + t.size) (hx:xs.length = n) (h1:∀ u ∈ xs,u.oneCell' = true) :
  CallsA PZ 79 #[.pointer (some ⟨gb,0,none⟩),.string t] F (BO ex gb tb s lr n xs) (RW ex gb tb n t.size (xs ++ t.data.toList.map fun b => Value.int .u8 b.toNat) (.tuple #[.int .i64 t.size,.nilIface])):=by
 refine callsA2_facts (svs:=[.own 1000 0,.v (.string t)]) rfl facts79 rfl rfl (buf_own (svs:=[.string t])) (fun _ _ _ _ _ h => h) ?_
 refine call87s (s:=s) (lr:=0) rfl hs (by omega) hp (fun F1 g c' ys hF hy q1 q2 => ?_) (fun F1 hF hc => ?_)
 ·refine SlcPt.mk (by omega) (by omega) (by omega) ?_
  refine cpStr rfl (by omega) (by omega) q1 hx hy ?_
  exact ⟨[1000,1001],_,rfl,by decide,_,c',.inr ⟨g,rfl,q1,q2⟩,rfl,rfl⟩
 ·refine call88s (s:=s) (lr:=0) rfl hs (by omega) hx h1 hp fun F2 g c' ys hF2 hy q1 q2 => ?_
  refine SlcPt.mk (by omega) (by omega) (by omega) ?_
  refine cpStr rfl (by omega) (by omega) q1 hx hy ?_
  exact ⟨[1000,1001],_,rfl,by decide,_,c',.inr ⟨g,rfl,q1,q2⟩,rfl,rfl⟩
def WB (t:Nat) (ec:List C) (bs:List UInt8):List TO:=[.box t (.rw 1001 :: IC 0 :: .int .i8 0 :: ec),.row 5 1 (bcells bs)]
theorem wb_of {F:Frz} {Li:List Own} {t:Nat} {ec:List C} {bs:List UInt8} (hl:Li.length = (WB t ec bs).length) (h:RelTL F (inp Li) (tinp (WB t ec bs))) :
  ∃ gb tb s ex,Li = BO ex gb tb s 0 bs.length (bvals bs) ∧ tyOk t gb tb ∧ bs.length ≤ maxLen ∧ Rels F (inp Li) ec ex:=by
 match Li,hl with
 | [o1,o2],_ =>
  have h1:RelO F (inp [o1,o2]) (.box t (.rw 1001 :: IC 0 :: .int .i8 0 :: ec)) o1:=h 1000
  have h2:RelO F (inp [o1,o2]) (.row 5 1 (bcells bs)) o2:=h 1001
  cases o1 with
  | row => exact h1.elim
  | box gb tb us =>
   cases o2 with
   | box => exact h2.elim
   | row v t' sz' n xs =>
    obtain ⟨rfl,rfl,hn,⟨hm,a,c,rfl,hc⟩,hr⟩:=h2
    have hx:=RelRow_bvals hr
    subst hx
    have hn2:n = bs.length:=by rw [hn]; simp [bcells]
    subst hn2
    obtain ⟨ht,hu⟩:=h1
    simp only [Rels,Rel] at hu
    obtain ⟨v1,_,rfl,hv1,v2,_,rfl,hv2,v3,ex,rfl,hv3,hex⟩:=hu
    obtain ⟨a',c',t',sz',n',xs',_,hg⟩:=hv1
    have e:some (Own.row (.slice a bs.length c) 5 1 bs.length (bvals bs)) = some (.row v1 t' sz' n' xs'):=hg
    injection e with e
    injection e with e1
    subst e1
    obtain ⟨rfl,_⟩:=hv2
    obtain ⟨rfl,_⟩:=hv3
    exact ⟨gb,tb,_,ex,rfl,ht,hm,hex⟩
theorem wb_to {F:Frz} {t gb tb c:Nat} {s:Value} {ec:List C} {ex:List Value} {bs:List UInt8} (hex:Rels F (inp (BO ex gb tb s 0 bs.length (bvals bs))) ec ex) (ht:tyOk t gb tb) (hs:RowV s bs.length c) (hm:bs.length ≤ maxLen):RelTL F (inp (BO ex gb tb s 0 bs.length (bvals bs))) (tinp (WB t ec bs)):=by
 obtain ⟨a,rfl,h1,h2,h3⟩:=hs.form
 intro k
 rw [tinp_get,inp_get]
 split
 case isFalse => trivial
 rename_i hk
 match hj:k - 1000 with
 | 0 =>
  refine ⟨ht,?_⟩
  simp only [Rels,Rel]
  exact ⟨_,_,rfl,⟨a,c,5,1,bs.length,bvals bs,rfl,rfl⟩,_,_,rfl,⟨rfl,by decide⟩,_,_,rfl,⟨rfl,by decide⟩,hex⟩
 | 1 => exact ⟨rfl,rfl,by simp [bcells],⟨hm,a,c,rfl,fun e => (h3 e).1⟩,RelRow_of_bvals bs⟩
 | j + 2 => trivial
theorem CallsA.ofSt {P:Program} {f:FuncId} {args:Array Value} {F:Frz} {Lin:List Own} {R:Frz → List Own → Value → Prop} (hent:∃ fn,P.funcs[f]? = some fn ∧ fn.body.isSome = true ∧ (fn.name == "runtime.NumGoroutine") = false)
  (hmono:∀ F G L v,F.le G → R F L v → R G L v) (h:∀ w,St F (inp Lin) w → CallsA P f args F Lin R):CallsA P f args F Lin R:=⟨hent,hmono,fun w hs => (h w hs).run w hs⟩
theorem CallsA.to {P:Program} {f:FuncId} {args:Array Value} {F:Frz} {Lin:List Own} {R R':Frz → List Own → Value → Prop} (h:CallsA P f args F Lin R)
  (hmono:∀ F G L v,F.le G → R' F L v → R' G L v) (hk:∀ F L v,R F L v → R' F L v):CallsA P f args F Lin R':=⟨h.ent,hmono,fun w hs => (h.run w hs).mono fun e w' ⟨v,F',Lo,h1,h2,h3,h4⟩ => ⟨v,F',Lo,h1,h2,h3,hk _ _ _ h4⟩⟩
theorem wrT {f t:Nat} {args:List C} {ec:List C} {bs:List UInt8} {ys:List UInt8} {r:C} (hp:puresL ec = true) (hent:∃ fn,Tryz.prog.funcs[f]? = some fn ∧ fn.body.isSome = true ∧ (fn.name == "runtime.NumGoroutine") = false)
  (hm:bs.length + ys.length ≤ 70368744177664) (rv:Value) (hr:∀ F L,Rel F L r rv)
  (h:∀ F gb tb s c ex vs,RowV s bs.length c → Rels F (inp (BO ex gb tb s 0 bs.length (bvals bs))) args vs → CallsA PZ f vs.toArray F (BO ex gb tb s 0 bs.length (bvals bs)) (RW ex gb tb bs.length ys.length (bvals bs ++ bvals ys) rv)) :
  CallsT PZ f args (WB t ec bs) (Ret (WB t ec (bs ++ ys)) r):=by
 refine ⟨fun F Li vs h1 h2 h3 => ?_⟩
 obtain ⟨gb,tb,s,ex,rfl,ht,hm0,hex⟩:=wb_of h1 h2
 refine CallsA.ofSt hent ResA.mono' fun w hs => ?_
 obtain ⟨c,hrv⟩:=rowV_of hs (k:=1001) rfl
 have hA:=h F gb tb s c ex vs hrv h3
 refine ⟨hA.ent,ResA.mono',fun w hs => (hA.run w hs).mono ?_⟩
 rintro e w' ⟨v,F',Lo,h1,h2,h3,s',c',hs',rfl,rfl⟩
 refine ⟨_,F',_,h1,h2,h3,?_⟩
 have hl:(bs ++ ys).length = bs.length + ys.length:=List.length_append
 rw [← bvals_app,← hl]
 rw [← hl] at hs'
 refine ⟨WB t ec (bs ++ ys),r,rfl,wb_to (pures_rel hp (hex.mono h3.le)) ht hs' (by rw [hl]; simp only [maxLen]; omega),hr _ _,fun i g t0 cs e => ?_,rfl,rfl⟩
 match i with
 | 0 =>
  injection e with e
  injection e with e1 e2 e3
  subst e1 e2
  exact ⟨_,rfl⟩
 | 1 => injection e with e; cases e
 | i + 2 => cases e
theorem ent93:∃ fn,Tryz.prog.funcs[93]? = some fn ∧ fn.body.isSome = true ∧ (fn.name == "runtime.NumGoroutine") = false:=⟨_,Tryz.func93,by kernel_rfl,by kernel_rfl⟩
theorem ent66:∃ fn,Tryz.prog.funcs[66]? = some fn ∧ fn.body.isSome = true ∧ (fn.name == "runtime.NumGoroutine") = false:=⟨_,Tryz.func66,by kernel_rfl,by kernel_rfl⟩
theorem ent79:∃ fn,Tryz.prog.funcs[79]? = some fn ∧ fn.body.isSome = true ∧ (fn.name == "runtime.NumGoroutine") = false:=⟨_,Tryz.func79,by kernel_rfl,by kernel_rfl⟩
theorem own_arg {F:Frz} {gb tb:Nat} {s:Value} {n:Nat} {xs ex:List Value} {v:Value} (h:Rel F (inp (BO ex gb tb s 0 n xs)) (.own 1000 0) v):v = .pointer (some ⟨gb,0,none⟩):=by
 simp only [Rel] at h
 obtain ⟨g,t,cs,e,rfl⟩:=h
 have e':some (Own.box gb tb (s :: .int .i64 0 :: .int .i8 0 :: ex)) = some (.box g t cs):=e
 injection e' with e'
 injection e' with e1
 rw [e1]
theorem t93T (t:Nat) (ec:List C) (hec:puresL ec = true) (bs:List UInt8) (x:UInt8) (hm:bs.length + 1 ≤ 70368744177664) :
  CallsT PZ 93 [.own 1000 0,.int .u8 x.toNat] (WB t ec bs) (Ret (WB t ec (bs ++ [x])) (.opq 0)):=by
 refine wrT (ys:=[x]) hec ent93 hm .nilIface (fun _ _ => opq_nil) fun F gb tb s c ex vs hs hr => ?_
 simp only [Rels] at hr
 obtain ⟨v1,_,rfl,h1,v2,_,rfl,h2,rfl⟩:=hr
 rw [own_arg h1]
 simp only [Rel] at h2
 rw [h2.1]
 exact t93A F gb tb s 0 bs.length c x.toNat (bvals bs) hs hm (bvals_len bs) (bvals_ones bs)
theorem t66T (t:Nat) (ec:List C) (hec:puresL ec = true) (bs ys:List UInt8) (hm:bs.length + ys.length ≤ 70368744177664) (hp:0 < bs.length + ys.length) :
  CallsT PZ 66 [.own 1000 0,.sl (bcells ys)] (WB t ec bs) (Ret (WB t ec (bs ++ ys)) (.tup [IC ys.length,.opq 0])):=by
 refine wrT hec ent66 hm (.tuple #[.int .i64 ys.length,.nilIface]) (fun F L => ?_) fun F gb tb s c ex vs hs hr => ?_
 ·simp only [Rel,Rels]
  exact ⟨[_,_],rfl,_,_,rfl,⟨rfl,by simp [Lit.wf,IntKind.min,IntKind.max,IntKind.signed,IntKind.bits]; omega⟩,_,_,rfl,opq_nil,rfl⟩
 simp only [Rels] at hr
 obtain ⟨v1,_,rfl,h1,v2,_,rfl,h2,rfl⟩:=hr
 rw [own_arg h1]
 obtain ⟨a,cp,rfl,_,_,hF⟩:=sl_bytes h2
 exact t66A F gb tb s 0 bs.length c ys.length cp a (bvals bs) (bvals ys) hs hm hp (bvals_len bs) (bvals_ones bs) (bvals_len ys) hF (bvals_ones ys)
theorem t79T (t:Nat) (ec:List C) (hec:puresL ec = true) (bs:List UInt8) (s:ByteArray) (hm:bs.length + s.data.toList.length ≤ 70368744177664) (hp:0 < bs.length) :
  CallsT PZ 79 [.own 1000 0,.str s] (WB t ec bs) (Ret (WB t ec (bs ++ s.data.toList)) (.tup [IC s.size,.opq 0])):=by
 have hsz:s.data.toList.length = s.size:=by simp
 refine wrT hec ent79 hm (.tuple #[.int .i64 s.size,.nilIface]) (fun F L => ?_) fun F gb tb s' c ex vs hs hr => ?_
 ·simp only [Rel,Rels]
  exact ⟨[_,_],rfl,_,_,rfl,⟨rfl,by simp [Lit.wf,IntKind.min,IntKind.max,IntKind.signed,IntKind.bits]; omega⟩,_,_,rfl,opq_nil,rfl⟩
 simp only [Rels] at hr
 obtain ⟨v1,_,rfl,h1,v2,_,rfl,h2,rfl⟩:=hr
 rw [own_arg h1]
 simp only [Rel] at h2
 obtain ⟨rfl,_⟩:=h2
 have:=t79A F gb tb s' 0 bs.length c s (bvals bs) (ex:=ex) hs (by omega) (by omega) (bvals_len bs) (bvals_ones bs)
 rw [← hsz] at this
 exact this
end Go.Fr.Tryz
