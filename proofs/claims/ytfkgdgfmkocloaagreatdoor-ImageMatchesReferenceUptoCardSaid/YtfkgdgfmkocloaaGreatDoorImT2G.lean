/- Part of the proofs of the statements of this seat. -/
import Derived.Test.YtfkgdgfmkocloaaGreatDoorFW3
import Derived.Test.YtfkgdgfmkocloaaGreatDoorImCode
import Derived.Test.YtfkgdgfmkocloaaGreatDoorProg
import Derived.Tactics
import Derived.Tactics2
import Derived.Defers
import Derived.Recover
import Derived.Laws.Pointers
import Derived.OneCell
import Derived.RangeFuncBox
set_option maxRecDepth 10000
set_option linter.unusedVariables false
set_option linter.unusedSimpArgs false
namespace Go.Fr.Tryz
open Go Go.RowKit Go.Proofs Go.Fr Go.Fr.T Go.Fr.Api
noncomputable abbrev PZ:Program:=Tryz.prog
def failV:Value:=.iface 112 (.agg #[])
structure Lent where
 slot:Int
 excl:Bool
 re:Bool
structure Slot where
 state:Int
 type:Ty
 var:Int
 flag:Int
 lent:List Lent
structure Rout where
 name:ByteArray
 params:List Ty
 result:Ty
 ties:List Int
 slots:Int
 blocks:List Block
 entry:List (List Slot)
structure Img where
 datas:List Api.Data
 routs:List Rout
 main:Int
def lentC (x:Lent):List C:=[IC x.slot,.bool x.excl,.bool x.re]
def slotC (x:Slot):List C:=[IC x.state,IC x.type.kind,IC x.type.id,.sl (x.type.args.map tyC),IC x.var,IC x.flag,.sl (x.lent.map lentC)]
def slotsC (l:List Slot):List C:=[.sl (l.map slotC)]
def routC (r:Rout):List C:=[.str r.name,.sl (r.params.map tyC),IC r.result.kind,IC r.result.id,.sl (r.result.args.map tyC),.sl (ics r.ties),IC r.slots,.sl (r.blocks.map blockC),.sl (r.entry.map slotsC)]
def imgC (i:Img):List C:=[.sl (i.datas.map dataC),.sl (i.routs.map routC),IC i.main]
def tyA (t:Ty):C:=.agg [IC t.kind,IC t.id,.sl (t.args.map tyC)]
abbrev Dec (α:Type):=List UInt8 → Option (α × List UInt8)
def bound:Int:=1099511627776
def takeD (n:Int):Dec (List UInt8):=fun l => if 0 ≤ n ∧ n ≤ l.length then some (l.take n.toNat,l.drop n.toNat) else none
def unz (z:Nat):Int:=if z % 2 = 0 then ((z / 2:Nat):Int) else -((z / 2:Nat):Int) - 1
def numGo:Nat → Nat → Nat → Dec Int
 | 0,_,_,_ => none
 | _ + 1,_,_,[] => none
 | f + 1,k,z,c :: r => if c.toNat < 128 then
   (if 0 < c.toNat ∨ k = 0 then (if -bound ≤ unz (z + c.toNat * 128 ^ k) ∧ unz (z + c.toNat * 128 ^ k) ≤ bound then some (unz (z + c.toNat * 128 ^ k),r) else none) else none)
  else numGo f (k + 1) (z + (c.toNat - 128) * 128 ^ k) r
def numD:Dec Int:=numGo 6 0 0
def bitD:Dec Bool:=fun l => match numD l with
 | some (n,r) => if n = 0 ∨ n = 1 then some (decide (n = 1),r) else none
 | none => none
def nameD:Dec ByteArray:=fun l => match numD l with
 | some (n,r) => if n ≤ 200 then (match takeD n r with | some (b,r) => some (⟨b.toArray⟩,r) | none => none) else none
 | none => none
def repD {α:Type} (f:Dec α):Nat → Dec (List α)
 | 0,l => some ([],l)
 | n + 1,l => match f l with
  | some (x,r) => match repD f n r with
   | some (xs,r) => some (x :: xs,r)
   | none => none
  | none => none
def listD {α:Type} (f:Dec α):Dec (List α):=fun l => match numD l with
 | some (n,r) => if 0 ≤ n ∧ n ≤ 400 then repD f n.toNat r else none
 | none => none
def andD {α β:Type} (f:Dec α) (k:α → Dec β):Dec β:=fun l => match f l with
 | none => none
 | some (x,r) => k x r
theorem andD_none {α β:Type} {f:Dec α} {k:α → Dec β} {l:List UInt8} (h:f l = none):andD f k l = none:=by simp only [andD,h]
theorem andD_some {α β:Type} {f:Dec α} {k:α → Dec β} {l r:List UInt8} {x:α} (h:f l = some (x,r)):andD f k l = k x r:=by simp only [andD,h]
def retD {α:Type} (x:α):Dec α:=fun l => some (x,l)
def typD:Nat → Dec Ty
 | 0 => fun _ => none
 | d + 1 => andD numD fun k => andD numD fun i => andD (listD (typD d)) fun a => retD (.mk k i a)
def fullD:Dec Ty:=typD 8
def varD:Dec Variant:=andD nameD fun s => andD (listD fullD) fun f => retD ⟨s,f⟩
def dataD:Dec Api.Data:=andD nameD fun s => andD numD fun m => andD numD fun p => andD numD fun d => andD (listD varD) fun v => retD ⟨s,m,p,v,d⟩
def insD:Dec Ins:=andD numD fun o => andD numD fun d => andD numD fun a => andD numD fun b => andD numD fun n => andD (listD numD) fun x => andD (listD fullD) fun t => retD ⟨o,d,a,b,n,x,t⟩
def blockD:Dec Block:=andD (listD insD) fun c => andD numD fun k => andD numD fun a => andD (listD numD) fun t => retD ⟨c,⟨k,a,t⟩⟩
def lentD:Dec Lent:=andD numD fun s => andD bitD fun e => andD bitD fun r => retD ⟨s,e,r⟩
def slotD:Dec Slot:=andD numD fun s => andD fullD fun t => andD numD fun v => andD numD fun f => andD (listD lentD) fun l => retD ⟨s,t,v,f,l⟩
def slotsD:Dec (List Slot):=listD slotD
def routD:Dec Rout:=andD nameD fun s => andD (listD fullD) fun p => andD fullD fun r => andD (listD numD) fun t => andD numD fun n => andD (listD blockD) fun b => andD (listD slotsD) fun e => retD ⟨s,p,r,t,n,b,e⟩
def imgD:Dec Img:=andD (listD dataD) fun d => andD (listD routD) fun r => andD numD fun m => retD ⟨d,r,m⟩
def RdOk {α:Type} (f:Nat) (args:List C) (t:Nat) (bs:List UInt8) (o:Option (α × List UInt8)) (cell:α → C):Prop :=
 CallsTX PZ f args [.box t [.sl (bcells bs)]] (fun Mo c => ∃ y r,o = some (y,r) ∧ Mo = [.box t [.sl (bcells r)]] ∧ c = cell y) (fun v => v = failV ∧ o = none)
section
variable {L:TL} {ρ:TEnv}
theorem rows1 {L:TL} {t:Nat} {cs:List C} (hs:L.sub [1000] = some [.box t cs]):rowsOf L [1000] = []:=by
 simp only [TL.sub] at hs
 split at hs
 ·rename_i o l h1 h2
  injection hs with hs
  injection hs with hs _
  subst hs
  simp only [rowsOf,h1]
 ·cases hs
theorem rdD {α:Type} {PS:Value → Prop} {fb:List Nat} {f:Nat} {args args':List C} {t:Nat} {bs:List UInt8} {o:Option (α × List UInt8)} {cell:α → C} {K:TL → TEnv → C → Prop} (h:RdOk f args' t bs o cell)
  (hs:L.sub [1000] = some [.box t [.sl (bcells bs)]]) (hfb:disjB [1000] fb = true) (ha:(args.map fun c => c.canA.ren (toIn [1000] 1000)) = args') (hp:o = none → PS failV)
  (k:∀ y r,o = some (y,r) → Wf (cell y) → K ((L.dels [1000]).puts [1000] [.box t [.sl (bcells r)]]) ρ ((cell y).ren (fromIn [1000])).slt):CallXDT PZ PS fb f args L ρ K:=by
 subst ha
 refine ⟨[1000],_,_,_,hs,rfl,hfb,rfl,h,fun v ⟨e,h⟩ => e ▸ hp h,?_⟩
 rintro v Mo ⟨y,r,e1,rfl,rfl⟩ hw hwo
 refine ⟨rfl,?_⟩
 rw [rows1 hs]
 exact k y r e1 hw
theorem rdN {α:Type} {PS:Value → Prop} {f:Nat} {args args':List C} {t:Nat} {bs:List UInt8} {o:Option (α × List UInt8)} {cell:α → C} {K:TL → TEnv → C → Prop} (h:RdOk f args' t bs o cell)
  (hs:L.sub [1000] = some [.box t [.sl (bcells bs)]]) (ha:(args.map fun c => c.canA.ren (toIn [1000] 1000)) = args') (hp:o = none → PS failV)
  (k:∀ y r,o = some (y,r) → Wf (cell y) → K ((L.dels [1000]).puts [1000] [.box t [.sl (bcells r)]]) ρ ((cell y).ren (fromIn [1000])).slt):CallXT PZ PS f args L ρ K:=by
 subst ha
 refine ⟨[],[1000],[1000],L,_,_,_,.inl rfl,hs,rfl,rfl,rfl,rfl,h,fun v ⟨e,h⟩ => e ▸ hp h,?_⟩
 rintro v Mo ⟨y,r,e1,rfl,rfl⟩ hw hwo
 refine ⟨rfl,?_⟩
 rw [rows1 hs]
 exact k y r e1 hw
def ChkOk (b:Bool):Prop:=CallsTX PZ 33 [.bool b] [] (fun Mo c => b = true ∧ Mo = [] ∧ c = .tup []) (fun v => v = failV ∧ b = false)
theorem chk {PS:Value → Prop} {b:Bool} {args:List C} {K:TL → TEnv → C → Prop} (h:ChkOk b) (ha:args = [.bool b]) (hp:b = false → PS failV) (k:b = true → K L ρ (.tup [])):CallXT PZ PS 33 args L ρ K:=by
 subst ha
 refine ⟨[],[],[],L,[],_,_,.inl rfl,rfl,rfl,rfl,rfl,rfl,h,fun v ⟨e,h⟩ => e ▸ hp h,?_⟩
 rintro v Mo ⟨e1,rfl,rfl⟩ hw hwo
 exact ⟨rfl,k e1⟩
theorem retR {R:List TO → C → Prop} (ko:List Nat) {Lin Mo Lo:List TO} {v x:C} (hs:L.sub ko = some Mo) (hc:(T.nodup? ko && boxesAt Lin (List.range' 1000 Lin.length) ko) = true) (hl:Mo.map (TO.mapC (C.ren (toIn ko 1000))) = Lo) (e:v.canR.ren (toIn ko 1000) = x) (h:R Lo x):RetT Lin L v R:=by
 simp only [Bool.and_eq_true] at hc
 exact ⟨[],ko,L,v,v,Mo,rfl,.inl ⟨rfl,rfl⟩,hs,hc.1,hc.2,fun _ => by rw [hl,e]; exact h⟩
theorem retRF {R:List TO → C → Prop} (fz ko:List Nat) {Lin:List TO} {v:C} (hf:frzK fz L (fun _ => .any) [v] fun L _ vs => ∃ c Mo,vs = [c] ∧ L.sub ko = some Mo ∧ (T.nodup? ko && boxesAt Lin (List.range' 1000 Lin.length) ko) = true ∧ R (Mo.map (TO.mapC (C.ren (toIn ko 1000)))) (c.canR.ren (toIn ko 1000))):RetT Lin L v R:=by
 refine ⟨fz,ko,?_⟩
 refine callF.frzK_imp hf ?_
 rintro L ρ vs ⟨c,Mo,rfl,hs,hc,hR⟩
 simp only [Bool.and_eq_true] at hc
 exact ⟨L,c,c,Mo,rfl,.inl ⟨rfl,rfl⟩,hs,hc.1,hc.2,fun _ => hR⟩
end
end Go.Fr.Tryz
namespace Go.Fr.Tryz
open Go Go.RowKit Go.Proofs Go.Fr Go.Fr.T
theorem St.reslice {F:Frz} {L:Loc} {w:World} {k g t sz n n' c:Nat} {xs:List Value} (hs:St F L w) (hk:L.get k = some (.row (.slice (some ⟨g,0,none⟩) n c) t sz n xs)) (hn:n' ≤ c) :
  ∃ ys,ys.length = n' * sz ∧ (∀ i,i < n * sz → i < n' * sz → ys[i]? = xs[i]?) ∧ St F (L.set k (.row (.slice (some ⟨g,0,none⟩) n' c) t sz n' ys)) w:=by
 have hr:=hs.own k _ hk
 simp only [Own.ok] at hr
 obtain ⟨hx,⟨e,_⟩ | ⟨g',cap,cur,e,h0,hg,h1,h2,h3,h4⟩⟩:=hr
 ·cases e
 ·injection e with e1 e2 e3
  injection e1 with e1
  injection e1 with e1 _ _
  subst e1 e3
  have hle:n' * sz ≤ c * sz:=Nat.mul_le_mul_right _ hn
  refine ⟨cur.toList.take (n' * sz),?_,fun i hi hi' => ?_,?_⟩
  ·rw [List.length_take,Array.length_toList,h3]; omega
  ·rw [← h4,List.getElem?_take_of_lt hi,List.getElem?_take_of_lt hi']
  ·refine hs.turn hk (o':=.row (.slice (some ⟨g,0,none⟩) n' c) t sz n' (cur.toList.take (n' * sz))) ?_ (fun _ _ _ => rfl) (fun g' hg' => .inl hg')
   exact ⟨by rw [List.length_take,Array.length_toList,h3]; omega,.inr ⟨g,c,cur,rfl,h0,hg,hn,h2,h3,rfl⟩⟩
theorem CallsA.relo {P:Program} {f:FuncId} {args:Array Value} {F:Frz} {Lin:List Own} {R R':Frz → List Own → Value → Prop} (h:CallsA P f args F Lin R) (hm:∀ F G L v,F.le G → R' F L v → R' G L v)
  (hk:∀ F' Lo v w',St F' (inp Lo) w' → R F' Lo v → ∃ Lo',St F' (inp Lo') w' ∧ (∀ b,(inp Lo').owns b → (inp Lo).owns b) ∧ R' F' Lo' v):CallsA P f args F Lin R':=by
 refine ⟨h.ent,hm,fun w hs => (h.run w hs).mono ?_⟩
 rintro e w' ⟨v,F',Lo,rfl,h1,h2,h3⟩
 obtain ⟨Lo',k1,k2,k3⟩:=hk F' Lo v w' h1 h3
 exact ⟨v,F',Lo',rfl,k1,⟨h2.le,h2.os,h2.tape,h2.output,h2.size,h2.same,h2.frz,fun b hb => h2.own b (k2 b hb)⟩,k3⟩
def RowV (s:Value) (n c:Nat):Prop:=(s = .slice none 0 0 ∧ n = 0 ∧ c = 0) ∨ ∃ g,s = .slice (some ⟨g,0,none⟩) n c ∧ n ≤ c ∧ c ≤ maxLen
theorem RowV.form {s:Value} {n c:Nat} (h:RowV s n c):∃ a,s = .slice a n c ∧ n ≤ c ∧ c ≤ maxLen ∧ (a = none → n = 0 ∧ c = 0):=by
 rcases h with ⟨rfl,rfl,rfl⟩ | ⟨g,rfl,h1,h2⟩
 ·exact ⟨none,rfl,Nat.le_refl _,Nat.zero_le _,fun _ => ⟨rfl,rfl⟩⟩
 ·exact ⟨_,rfl,h1,h2,fun e => by cases e⟩
theorem rowV_of {F:Frz} {L:Loc} {w:World} {k t sz n:Nat} {v:Value} {xs:List Value} (hs:St F L w) (hk:L.get k = some (.row v t sz n xs)):∃ c,RowV v n c:=by
 have hr:=hs.own k _ hk
 simp only [Own.ok] at hr
 obtain ⟨hx,⟨e,e2⟩ | ⟨g',cap,cur,e,h0,hg,h1,h2,h3,h4⟩⟩:=hr
 ·exact ⟨0,.inl ⟨e,e2,rfl⟩⟩
 ·exact ⟨cap,.inr ⟨g',e,h1,h2⟩⟩
def BO (gb tb:Nat) (s:Value) (lr:Int) (n:Nat) (xs:List Value):List Own:=[.box gb tb [s,.int .i64 0,.int .i8 lr],.row s 5 1 n xs]
theorem inp_BO {gb tb:Nat} {s:Value} {lr:Int} {n:Nat} {xs:List Value}:inp (BO gb tb s lr n xs) = [(1000,.box gb tb [s,.int .i64 0,.int .i8 lr]),(1001,.row s 5 1 n xs)]:=rfl
theorem env_args {Lin:List Own} (svs:List SV) (n:Nat) (hown:∀ v ∈ svs,(∀ k off,v = .own k off → ∃ g ty cs,(inp Lin).get k = some (.box g ty cs)) ∧ (∀ ad j,v = .el ad j → ad ≠ none)) :
  EnvOk (inp Lin) (argE 0 svs) { tmps:=(svs.map (conc (inp Lin))).toArray ++ Array.replicate (n - (svs.map (conc (inp Lin))).toArray.size) undef,defers:=[] }:=by
 have hin:∀ t,argE 0 svs t = .v undef ∨ argE 0 svs t ∈ svs:=by
  intro t
  rw [argE_get]
  simp only [Nat.zero_le,if_true,Nat.sub_zero]
  cases e:svs[t]? with
  | none => exact .inl rfl
  | some v => exact .inr (List.mem_of_getElem? e)
 refine ⟨fun t => ?_,fun t k off e => ?_,fun t ad j e => ?_⟩
 ·rw [argE_get]
  simp only [Nat.zero_le,if_true,Nat.sub_zero,Array.getD_eq_getD_getElem?]
  cases e:svs[t]? with
  | some v =>
   have hlt:t < svs.length:=(List.getElem?_eq_some_iff.1 e).1
   rw [Array.getElem?_append_left (by simpa using hlt)]
   simp [e]
  | none =>
   have hge:svs.length ≤ t:=List.getElem?_eq_none_iff.1 e
   rw [Array.getElem?_append_right (by simpa using hge)]
   simp only [Array.getElem?_replicate,Option.getD_none,conc]
   split <;> rfl
 ·rcases hin t with h1 | h1
  ·rw [h1] at e; cases e
  ·exact (hown _ h1).1 k off e
 ·rcases hin t with h1 | h1
  ·rw [h1] at e; cases e
  ·exact (hown _ h1).2 ad j e
theorem buf_own {gb tb:Nat} {s:Value} {lr:Int} {n:Nat} {xs:List Value} {svs:List Value}:∀ v ∈ (SV.own 1000 0 :: svs.map SV.v),(∀ k off,v = .own k off → ∃ g ty cs,(inp (BO gb tb s lr n xs)).get k = some (.box g ty cs)) ∧ (∀ ad j,v = .el ad j → ad ≠ none):=by
 intro v hv
 rcases List.mem_cons.1 hv with rfl | hv
 ·exact ⟨fun k off e => by injection e with e1 e2; subst e1; exact ⟨_,_,_,rfl⟩,fun _ _ e => by cases e⟩
 ·obtain ⟨u,_,rfl⟩:=List.mem_map.1 hv
  exact ⟨fun _ _ e => (by cases e),fun _ _ e => (by cases e)⟩
theorem slc0 {s:Value} {n c h:Nat} {a:Option Addr} (hs:RowV s n c) (e:s = .slice a n c):slcVal a c 0 h 1 = .slice a h c:=by
 rcases hs with ⟨rfl,rfl,rfl⟩ | ⟨g,rfl,_,_⟩
 ·injection e with e1 e2 e3
  subst e1
  simp [slcVal]
 ·injection e with e1 e2 e3
  subst e1
  simp [slcVal,Addr.add]
def R79 (gb tb:Nat) (s:Value) (lr:Int) (n c m:Nat) (xs:List Value):Frz → List Own → Value → Prop:=fun _ Lo v =>
 (∃ s' ys,ys.length = m ∧ RowV s' (n + m) c ∧ Lo = BO gb tb s' lr (n + m) (xs ++ ys) ∧ v = .tuple #[.int .i64 n,.bool true]) ∨
 (c < n + m ∧ Lo = BO gb tb s lr n xs ∧ v = .tuple #[.int .i64 0,.bool false])
theorem t79A (F:Frz) (gb tb:Nat) (s:Value) (lr:Int) (n c m:Nat) (xs:List Value) (hs:RowV s n c) (hm:n + m ≤ 140737488355328) :
  CallsA PZ 79 #[.pointer (some ⟨gb,0,none⟩),.int .i64 m] F (BO gb tb s lr n xs) (R79 gb tb s lr n c m xs):=by
 obtain ⟨a,rfl,hnc,hcm,ha⟩:=hs.form
 unfold maxLen at hcm
 have h1:CallsA PZ 79 #[.pointer (some ⟨gb,0,none⟩),.int .i64 m] F (BO gb tb (.slice a n c) lr n xs) (fun _ Lo v =>
   (n + m ≤ c ∧ Lo = [.box gb tb [.slice a (n + m) c,.int .i64 0,.int .i8 lr],.row (.slice a n c) 5 1 n xs] ∧ v = .tuple #[.int .i64 n,.bool true]) ∨
   (c < n + m ∧ Lo = BO gb tb (.slice a n c) lr n xs ∧ v = .tuple #[.int .i64 0,.bool false])):=by
  refine callsA2_facts (svs:=[.own 1000 0,.v (.int .i64 m)]) rfl facts79 rfl rfl (buf_own (svs:=[.int .i64 m])) (fun _ _ _ _ _ h => h) ?_
  refine Fit.in64 (by omega) (by omega) ?_
  refine brn_p (fun h => ?_) (fun h => ?_)
  ·refine Fit.in64 (by omega) (by omega) ?_
   refine SlcPt.mk (by omega) (by omega) (by omega) ?_
   have e:((n:Int) + m).toNat = n + m:=by omega
   have e2:slcVal a c 0 ((n:Int) + m).toNat 1 = .slice a (n + m) c:=by rw [e]; exact slc0 hs rfl
   exact ⟨[1000,1001],_,rfl,by decide,.inl ⟨by omega,congrArg (fun q => [Own.box gb tb [q,.int .i64 0,.int .i8 lr],.row (.slice a n c) 5 1 n xs]) e2,rfl⟩⟩
  ·exact ⟨[1000,1001],_,rfl,by decide,.inr ⟨by omega,rfl,rfl⟩⟩
 refine CallsA.relo h1 (fun _ _ _ _ _ h => h) ?_
 rintro F' Lo v w' hst (⟨hle,rfl,rfl⟩ | ⟨hlt,rfl,rfl⟩)
 ·rcases hs with ⟨e,rfl,rfl⟩ | ⟨g,e,_,_⟩
  ·injection e with e1 _ _
   subst e1
   have:m = 0:=by omega
   subst this
   exact ⟨_,hst,fun b h => h,.inl ⟨.slice none 0 0,[],rfl,.inl ⟨rfl,rfl,rfl⟩,by simp [BO],rfl⟩⟩
  ·injection e with e1 _ _
   subst e1
   have hk:(inp [.box gb tb [.slice (some ⟨g,0,none⟩) (n + m) c,.int .i64 0,.int .i8 lr],.row (.slice (some ⟨g,0,none⟩) n c) 5 1 n xs]).get 1001 = some (.row (.slice (some ⟨g,0,none⟩) n c) 5 1 n xs):=rfl
   have hxl:xs.length = n:=by
    have:=(hst.own _ _ hk).1
    simpa using this
   obtain ⟨ys,y1,y2,y3⟩:=St.reslice hst hk hle
   have hys:ys = xs ++ ys.drop n:=by
    apply List.ext_getElem?
    intro i
    by_cases hi:i < n
    ·rw [y2 i (by omega) (by omega),List.getElem?_append_left (by omega)]
    ·rw [List.getElem?_append_right (by omega),List.getElem?_drop,hxl]
     congr 1
     omega
   refine ⟨BO gb tb (.slice (some ⟨g,0,none⟩) (n + m) c) lr (n + m) ys,y3,fun b hb => ?_,.inl ⟨_,ys.drop n,by rw [List.length_drop,y1]; omega,.inr ⟨g,rfl,hle,by unfold maxLen; omega⟩,by rw [← hys],rfl⟩⟩
   obtain ⟨k,o,e,hb⟩:=hb
   rw [inp_BO] at e
   simp only [Loc.get] at e
   split at e
   ·rename_i hk1
    injection e with e; subst e
    exact ⟨1000,_,rfl,hb⟩
   ·split at e
    ·injection e with e; subst e
     exact ⟨1001,_,rfl,hb⟩
    ·cases e
 ·exact ⟨_,hst,fun b h => h,.inr ⟨hlt,rfl,rfl⟩⟩
theorem catch_panicking (p:Addr) (x:Bool) (older:List PanicEntry) (w:World) (hc:(w.alloc (.cells #[] 112)).cell? p = some (.bool x)) (hz:(w.alloc (.cells #[] 112)).frozen? p = false) :
  CallsD Tryz.prog 61 #[.pointer (some p)] (.panicking ({ v:=failV,recovered:=false } :: older)) w fun e u' w' =>
   e = .returned (.tuple #[]) ∧ u' = .panicking ({ v:=failV,recovered:=true } :: older) ∧ w' = (w.alloc (.cells #[] 112)).setCell p (.bool false):=by
 refine callsD_of_wpS Tryz.func61 rfl fun c₀ cs hu => ?_
 apply wpS_seq
 apply wpS_region
 have hn:Tryz.f61.ntmps = 15:=by kernel_rfl
 have hr:Tryz.f61.results = #[]:=by kernel_rfl
 have u112:Tryz.prog.underlying 112 = some (.struct #[]):=by kernel_rfl
 simp [wpOpsS,go_sem,recoverD,hu,failV,Exit.thenS,hn]
 apply wpS_seq
 apply wpS_region
 simp [wpOpsS,go_sem,Exit.thenS]
 refine wpS_cond (t:=true) (by simp [Act.eval,Array.replicate]) ?_
 simp only [if_true]
 apply wpS_seq
 apply wpS_seq
 apply wpS_region
 have hta:∀ W:World,(Instr.typeAssert (.iface 112 (.agg #[])) 20 112 true).run Tryz.prog W = .ok (.tuple #[.agg #[],.bool true]) W:=fun W => by kernel_rfl
 simp [wpOpsS,go_sem,Exit.thenS,hc,hz,hta,storeCells]
 apply wpS_seq
 apply wpS_region
 simp [wpOpsS,go_sem,Exit.thenS]
 refine wpS_cond (t:=false) (by simp [Act.eval,Array.replicate]) ?_
 simp only [Bool.false_eq_true,if_false]
 refine wpS_of_wp (wp_skip ?_)
 apply wpS_region
 simp [wpOpsS,go_sem,hc,hz,bodyPostS,results,hr]
theorem catch_idle (p:Addr) (w:World) :
  CallsD Tryz.prog 61 #[.pointer (some p)] .returning w fun e u' w' => e = .returned (.tuple #[]) ∧ u' = .returning ∧ w' = w:=by
 have hn:Tryz.f61.ntmps = 15:=by kernel_rfl
 have hr:Tryz.f61.results = #[]:=by kernel_rfl
 refine callsD_of_wpS Tryz.func61 rfl fun c₀ cs hu => ?_
 apply wpS_seq
 apply wpS_region
 simp [wpOpsS,go_sem,recoverD,hu,hn,Exit.thenS]
 apply wpS_seq
 apply wpS_region
 simp [wpOpsS,go_sem,Exit.thenS]
 refine wpS_cond (t:=false) (by simp [Act.eval,Array.replicate]) ?_
 simp only [Bool.false_eq_true,if_false]
 refine wpS_of_wp (wp_skip ?_)
 cases c₀
 simp_all [bodyPostS,results]
theorem wpOps_one {P:Program} {ops:Array Oper} {Q:Exit → Act → World → Prop} {i:Nat} {rest:List Nat} {a:Act} {w:World} {o:Oper} (ho:ops[i]? = some o) (hg:o.guard = none) (h:o.wp P a w (wpOps P ops Q rest) Q):wpOps P ops Q (i :: rest) a w:=by
 simp only [wpOps,ho]
 rw [if_pos (by simp [Region.wanted,hg])]
 exact .inl h
theorem inp_sub0:∀ (n:Nat) (l:List Own) (L:Loc),(∀ i (o:Own),l[i]? = some o → L.get (n + i) = some o) → L.sub (List.range' n l.length) = some l
 | n,[],L,h => rfl
 | n,o :: l,L,h => by
  simp only [List.length_cons,List.range'_succ,Loc.sub]
  have h0:=h 0 o rfl
  simp only [Nat.add_zero] at h0
  rw [h0,inp_sub0 (n + 1) l L fun i o' e => by have:=h (i + 1) o' (by simpa using e); rwa [show n + (i + 1) = n + 1 + i by omega] at this]
theorem EnvOk.only {L L':Loc} {ρ:Env} {a:Act} {k0:Nat} (he:EnvOk L ρ a) (h:∀ j k off,ρ j = .own k off → k = k0) (hg:L'.get k0 = L.get k0):EnvOk L' ρ a:=by
 refine ⟨fun j => ?_,fun j k off e => ?_,he.el⟩
 ·rw [he.eq j]
  cases e:ρ j with
  | v x => rfl
  | el a i => rfl
  | own k off =>
   obtain rfl:=h j k off e
   simp only [conc,hg]
 ·obtain rfl:=h j k off e
  rw [hg]
  exact he.own j k off e
theorem results_run {P:Program} {F:Frz} {L:Loc} {ρ:Env} {a:Act} {w:World} {fn:Func} {rs:List RV} {K:List Value → Prop} (hs:St F L w) (he:EnvOk L ρ a) (hres:resOk P fn.results.toList = some rs) (h:retV L ρ rs K) :
  ∃ vs,(results fn a.tmps).run P w = .ok (resVal vs) w ∧ K vs:=by
 obtain ⟨vs,hm,hk⟩:=retV_run hs he hres h
 refine ⟨vs,?_,hk⟩
 rw [results_eq,Array.mapM_eq_mapM_toList]
 simp only [Sem.run_bind,Sem.run_map]
 rw [hm]
 simp only [Result.andThen_ok,Sem.run_pure]
 congr 1
 match vs with
 | [] => rfl
 | [t] => rfl
 | t :: u :: r =>
  simp only [resVal]
  rw [dif_neg (by simp)]
theorem Step.part {F F':Frz} {L L' L2:Loc} {w w':World} (h:Step F L w F' L' w') (hp:L'.part L2):Step F L w F' L2 w' :=
 ⟨h.le,h.os,h.tape,h.output,h.size,h.same,h.frz,fun b hb => h.own b (Loc.part_owns hp hb)⟩
theorem caught_A {F0:Nat} {fi ca:List Value} {F:Frz} {Lin:List Own} {R:Frz → List Own → Value → Prop} {p:Prop} (h:CallsX Tryz.prog F0 (fi ++ ca).toArray F Lin R (fun v => v = failV ∧ p)) :
  CallsA Tryz.prog 26 #[.func (.func F0) fi.toArray ca.toArray] F Lin (fun F' Lo v => (v = .bool true ∧ ∃ v0,R F' Lo v0) ∨
   (v = .bool false ∧ p ∧ Lo.length = Lin.length ∧ ∀ (i:Nat) g t cs,Lin[i]? = some (.box g t cs) → ∃ cs',Lo[i]? = some (.box g t cs'))):=by
 have hnt:Tryz.f26.ntmps = 6:=by kernel_rfl
 refine ⟨⟨_,Tryz.func26,by kernel_rfl,by kernel_rfl⟩,?_,fun w hs => ?_⟩
 ·rintro F1 F2 Lo v hle (⟨rfl,v0,hR⟩ | hR)
  ·exact .inl ⟨rfl,v0,h.mono _ _ _ _ hle hR⟩
  ·exact .inr hR
 suffices hall:∀ RR:Ending → World → Prop,(∀ v F' Lo w',St F' (inp Lo) w' → Step F (inp Lin) w F' (inp Lo) w' → ((v = .bool true ∧ ∃ v0,R F' Lo v0) ∨
   (v = .bool false ∧ p ∧ Lo.length = Lin.length ∧ ∀ (i:Nat) g t cs,Lin[i]? = some (.box g t cs) → ∃ cs',Lo[i]? = some (.box g t cs'))) → RR (.returned v) w') → Calls Tryz.prog 26 #[.func (.func F0) fi.toArray ca.toArray] w RR from
  hall _ fun v F' Lo w' h1 h2 h3 => ⟨v,F',Lo,rfl,h1,h2,h3⟩
 intro RR hRR
 refine calls_of_wp_defers Tryz.func26 rfl ?_
 rw [hnt]
 generalize hclo:Value.func (.func F0) fi.toArray ca.toArray = clo
 have h2:(inp Lin).get 2 = none:=by rw [inp_get,if_neg (by omega)]
 have he0:EnvOk (inp Lin) (put (some 0) (.v clo) fun _ => .v undef) { tmps:=#[clo] ++ Array.replicate (6 - #[clo].size) undef,defers:=[] }:=by
  refine ⟨fun j => ?_,fun j k off e => ?_,fun j a i e => ?_⟩
  ·rw [put_eq]
   simp only []
   split
   ·rename_i hj; subst hj; rfl
   ·rename_i hj
    simp only [conc]
    match j with
    | 0 => exact absurd rfl hj
    | 1 => rfl
    | 2 => rfl
    | 3 => rfl
    | 4 => rfl
    | 5 => rfl
    | j + 6 => simp [Array.getD_eq_getD_getElem?]
  ·rw [put_eq] at e; simp only [] at e; split at e <;> cases e
  ·rw [put_eq] at e; simp only [] at e; split at e <;> cases e
 refine wp_seq (wp_region (evalOps_sound (A:={ n:=6 }) (r:=0) (List.range 1) (ss:=[.op (some 2) (.alloc 4 [.bool false]) none]) (by kernel_rfl) hs he0 (by simp)
  (K:=fun F' L' ρ' => ∃ g,F' = F ∧ L' = (inp Lin).set 2 (.box g 4 [.bool false]) ∧ ρ' = put (some 2) (.own 2 0) (put (some 0) (.v clo) fun _ => .v undef)) ?_ ?_))
 ·simp only [evalOps,evalOp,h2]
  exact fun g => ⟨g,by simp⟩
 rintro a1 w1 ⟨F1,L1,ρ1,hs1,he1,hn1,hd1,hst1,_,g,rfl,rfl,rfl⟩
 have hbx:((inp Lin).set 2 (.box g 4 [.bool false])).get 2 = some (.box g 4 [.bool false]):=by rw [Loc.get_set,if_pos rfl]
 have t2:a1.tmps.getD 2 undef = .pointer (some ⟨g,0,none⟩):=by
  rw [he1.eq 2]
  simp only [put_eq,if_true,conc,hbx]
 have t0:a1.tmps.getD 0 undef = clo:=by
  rw [he1.eq 0]
  simp [put_eq,conc]
 simp only [Exit.then]
 refine wp_seq (wp_region ?_)
 obtain ⟨tm,df⟩:=a1
 simp only at hn1 hd1 t2 t0
 subst hd1
 simp [wpOps,go_sem,t2,hn1,Exit.then]
 have he2:EnvOk ((inp Lin).set 2 (.box g 4 [.bool false])) (put (some 3) (.v (.func (.func 61) #[] #[.pointer (some ⟨g,0,none⟩)])) (put (some 2) (.own 2 0) (put (some 0) (.v clo) fun _ => .v undef)))
   { tmps:=tm.setIfInBounds 3 (.func (.func 61) #[] #[.pointer (some ⟨g,0,none⟩)]),defers:=[{ target:=.fn (.func 61) #[.pointer (some ⟨g,0,none⟩)],args:=#[] }] }:=by
  have:=he1.put (L':=(inp Lin).set 2 (.box g 4 [.bool false])) (d:=some 3) (v:=.func (.func 61) #[] #[.pointer (some ⟨g,0,none⟩)]) (x:=.v _) (fun k e => by injection e with e; subst e; simp [hn1]) rfl noOwn noEl (fun k g ty cs e => ⟨cs,e⟩)
  exact ⟨this.eq,this.own,this.el⟩
 refine .inl (.inl ?_)
 clear he1
 generalize hd0:({ target:=.fn (.func 61) #[.pointer (some ⟨g,0,none⟩)],args:=#[] }:Deferred) = d0 at he2 ⊢
 -- the call
 generalize hL1:(inp Lin).set 2 (.box g 4 [.bool false]) = L1 at *
 have hn2:(tm.setIfInBounds 3 (.func (.func 61) #[] #[.pointer (some ⟨g,0,none⟩)])).size = 6:=by simp [hn1]
 refine wp_seq (wp_region ?_)
 refine wpOps_one (ops:=_) rfl rfl ?_
 refine Oper.wp_mono ?_ (evalOp_sound (own:=false) (s:=.mov (.t 0)) hs1 he2 (fun k e => by injection e with e; subst e; show 4 < Array.size _; rw [hn2]; omega) rfl
  (show evalOp Tryz.prog (.mov (.t 0)) (some 4) _ _ _ (fun F' L' ρ' => F' = F1 ∧ L' = L1 ∧ ρ' = put (some 4) (.v clo) (put (some 3) (.v (.func (.func 61) #[] #[.pointer (some ⟨g,0,none⟩)])) (put (some 2) (.own 2 0) (put (some 0) (.v clo) fun _ => .v undef)))) from ⟨rfl,rfl,rfl⟩))
 rintro a3 w3 ⟨F3,L3,ρ3,hs3,he3,hn3,hd3,hst3,rfl,rfl,rfl⟩
 rw [show ({ tmps:=tm.setIfInBounds 3 (.func (.func 61) #[] #[.pointer (some ⟨g,0,none⟩)]),defers:=[d0] }:Act).tmps.size = 6 from hn2] at hn3
 refine wpOps_one (ops:=_) rfl rfl ?_
 have hsub:L3.sub (List.range' 1000 Lin.length) = some Lin:=by
  refine inp_sub0 _ _ _ fun i o e => ?_
  rw [← hL1,Loc.get_set,if_neg (by omega),inp_get,if_pos (by omega),show 1000 + i - 1000 = i by omega]
  exact e
 have hnd:(List.range' 1000 Lin.length).Nodup:=List.nodup_range'
 have hx:ev (put (some 4) (.v clo) (put (some 3) (.v (.func (.func 61) #[] #[.pointer (some ⟨g,0,none⟩)])) (put (some 2) (.own 2 0) (put (some 0) (.v clo) fun _ => .v undef)))) (.t 4) = .v (.func (.func F0) fi.toArray ca.toArray):=by
  rw [hclo]; rfl
 have hρ:∀ j k off,(put (some 4) (.v clo) (put (some 3) (.v (.func (.func 61) #[] #[.pointer (some ⟨g,0,none⟩)])) (put (some 2) (.own 2 0) (put (some 0) (.v clo) fun _ => .v undef)))) j = .own k off → k = 2:=by
  intro j k off e
  simp only [put_eq] at e
  split at e
  ·cases e
  split at e
  ·cases e
  split at e
  ·injection e with e1 e2; exact e1.symm
  split at e <;> cases e
 have hρ2:(put (some 4) (.v clo) (put (some 3) (.v (.func (.func 61) #[] #[.pointer (some ⟨g,0,none⟩)])) (put (some 2) (.own 2 0) (put (some 0) (.v clo) fun _ => .v undef)))) 2 = .own 2 0:=rfl
 have ey:a3.eval (.tmp 4) = .func (.func F0) fi.toArray ca.toArray:=by
  rw [hclo]; exact he3.eq 4
 generalize (put (some 4) (.v clo) (put (some 3) (.v (.func (.func 61) #[] #[.pointer (some ⟨g,0,none⟩)])) (put (some 2) (.own 2 0) (put (some 0) (.v clo) fun _ => .v undef)))) = ρ3 at *
 have hrun:∀ (o:Oper),o.op = .call { callee:=.value (.tmp 4),args:=#[],argTypes:=#[] } → (execOp a3.eval o).run Tryz.prog w3 = .ok (.enter F0 (fi ++ ca).toArray) w3:=by
  intro o ho
  have hall:fi.toArray ++ ((#[]:Array Value) ++ ca.toArray) = (fi ++ ca).toArray:=by apply Array.ext'; simp
  simp [execOp,ho,resolve,Deferred.ofValue,ey,invoke]
  rw [run_callFunc h.ent]
 unfold Oper.wp
 rw [hrun _ rfl,Oper.upon_enter]
 have hko:∀ Lo:List Own,∀ k,k ∈ List.range' 1000 Lo.length → k ∈ List.range' 1000 Lin.length ∨ L3.get k = none:=by
  intro Lo k hk
  rw [List.mem_range'_1] at hk ⊢
  by_cases hl:k < 1000 + Lin.length
  ·exact .inl ⟨hk.1,hl⟩
  ·refine .inr ?_
   rw [← hL1,Loc.get_set,if_neg (by omega),inp_get,if_pos (by omega),List.getElem?_eq_none (by omega)]
 have hgets:∀ Lo:List Own,((L3.dels (List.range' 1000 Lin.length)).puts (List.range' 1000 Lo.length) Lo).get 2 = some (.box g 4 [.bool false]) ∧
   ∀ j o,(inp Lo).get j = some o → ((L3.dels (List.range' 1000 Lin.length)).puts (List.range' 1000 Lo.length) Lo).get j = some o:=by
  intro Lo
  have hndo:(List.range' 1000 Lo.length).Nodup:=List.nodup_range'
  have hl:(List.range' 1000 Lo.length).length = Lo.length:=by simp
  refine ⟨?_,fun j o e => ?_⟩
  ·rcases puts_get _ Lo (L3.dels (List.range' 1000 Lin.length)) 2 hndo hl with ⟨q1,q2⟩ | ⟨i,q1,q2,q3⟩
   ·rw [q1,dels_get,if_neg (by rw [List.mem_range'_1]; omega)]; exact hbx
   ·have:=List.mem_of_getElem? q1
    rw [List.mem_range'_1] at this
    omega
  ·rw [inp_get] at e
   split at e
   case isFalse => cases e
   rename_i hj
   have hlt:=(List.getElem?_eq_some_iff.1 e).1
   refine puts_get' hndo hl (i:=j - 1000) ?_ e
   rw [List.getElem?_eq_getElem (by simpa using hlt)]
   simp
   omega
 have hd3':a3.defers = [d0]:=hd3
 have fin:∀ (b:Bool) (F':Frz) (Lo:List Own) (a':Act) (ρ':Env) (w':World),ρ' 2 = .own 2 0 → EnvOk (((L3.dels (List.range' 1000 Lin.length)).puts (List.range' 1000 Lo.length) Lo).set 2 (.box g 4 [.bool b])) ρ' a' →
   St F' (((L3.dels (List.range' 1000 Lin.length)).puts (List.range' 1000 Lo.length) Lo).set 2 (.box g 4 [.bool b])) w' → Step F3 (inp Lin) w F' (((L3.dels (List.range' 1000 Lin.length)).puts (List.range' 1000 Lo.length) Lo).set 2 (.box g 4 [.bool b])) w' →
   ((b = true ∧ ∃ v0,R F' Lo v0) ∨ (b = false ∧ p ∧ Lo.length = Lin.length ∧ ∀ (i:Nat) g t cs,Lin[i]? = some (.box g t cs) → ∃ cs',Lo[i]? = some (.box g t cs'))) →
   Leaves Tryz.prog Tryz.f26 a'.tmps RR [] .returning w':=by
  intro b F' Lo a' ρ' w' hr2 he' hs' hst' hres
  obtain ⟨vs,h5,rfl⟩:=results_run (P:=Tryz.prog) (fn:=Tryz.f26) (rs:=[(2,some (false,1))]) (K:=fun vs => vs = [.bool b]) hs' he' (by kernel_rfl) (by
   simp only [retV,hr2,Loc.get_set,if_true]
   rfl)
  have hpart:(((L3.dels (List.range' 1000 Lin.length)).puts (List.range' 1000 Lo.length) Lo).set 2 (.box g 4 [.bool b])).part (inp Lo):=by
   intro j o e
   rw [Loc.get_set,if_neg]
   ·exact (hgets Lo).2 j o e
   ·rintro rfl
    rw [inp_get,if_neg (by omega)] at e
    cases e
  refine ⟨_,h5,hRR _ F' Lo w' (hs'.part hpart) (Step.part hst' hpart) ?_⟩
  rcases hres with ⟨rfl,hr⟩ | ⟨rfl,hr⟩
  ·exact .inl ⟨rfl,hr⟩
  ·exact .inr ⟨rfl,hr⟩
 have hinv:∀ w':World,(invoke (.fn (.func 61) #[.pointer (some ⟨g,0,none⟩)]) #[]).run Tryz.prog w' = .ok (.enter 61 #[.pointer (some ⟨g,0,none⟩)]) w':=by
  intro w'
  simp [invoke]
 refine (h.run w3 (hs3.handed hsub hnd)).mono ?_
 rintro e w4 (⟨v,F4,Lo,rfl,hs4,hst4,hR⟩ | ⟨v,F4,Lo,rfl,hs4,hst4,hlo,hbxs,rfl,hp⟩)
 ·obtain ⟨c1,c2⟩:=call_back hs3 hsub hnd (List.nodup_range':(List.range' 1000 Lo.length).Nodup) (hko Lo) hs4 hst4 (by simp)
  have hL4:=(hgets Lo).1
  have he4:=EnvOk.only he3 hρ (L':=(L3.dels (List.range' 1000 Lin.length)).puts (List.range' 1000 Lo.length) Lo) (hL4.trans hbx.symm)
  have he5:=he4.put (L':=(L3.dels (List.range' 1000 Lin.length)).puts (List.range' 1000 Lo.length) Lo) (d:=some 5) (v:=v) (x:=.v v) (fun k e => by injection e with e; subst e; omega) rfl noOwn noEl (fun k g ty cs e => ⟨cs,e⟩)
  show Code.wp _ _ _ (a3.put (some 5) v) w4
  refine wp_seq (wp_region (evalOps_sound (A:={ n:=6 }) (r:=3) (List.range 1) (ss:=[.op none (.store 1 (.t 2) (.c (.bool true))) none]) (by kernel_rfl) c1 he5 (by rw [size_put,hn3])
   (K:=fun F' L' ρ' => F' = F4 ∧ L' = ((L3.dels (List.range' 1000 Lin.length)).puts (List.range' 1000 Lo.length) Lo).set 2 (.box g 4 [.bool true]) ∧ ρ' = put (some 5) (.v v) ρ3) ?_ ?_))
  ·have e2:(put (some 5) (.v v) ρ3) 2 = .own 2 0:=by rw [put_eq]; simp only []; rw [if_neg (by omega)]; exact hρ2
   simp only [evalOps,evalOp,val,ev,conc,e2,vcells,len?,ones?,Value.oneCell']
   rw [hL4]
   exact ⟨trivial,rfl,rfl⟩
  ·rintro a5 w5 ⟨F5,L5,ρ5,hs5,he5',hn5,hd5,hst5,_,rfl,rfl,rfl⟩
   refine wp_ret ?_
   show Leaves Tryz.prog Tryz.f26 a5.tmps RR a5.defers .returning w5
   rw [hd5,defers_put,hd3',← hd0]
   refine leaves_cons (f:=61) (args:=#[.pointer (some ⟨g,0,none⟩)]) (by simp) (hinv w5) ?_
   refine (catch_idle _ _).mono ?_
   rintro e u' w6 ⟨rfl,rfl,rfl⟩
   refine fin true F5 Lo a5 _ _ ?_ he5' hs5 (((hst1.trans hst3).trans c2).trans hst5) (.inl ⟨rfl,v,hR⟩)
   rw [put_eq]; simp only []; rw [if_neg (by omega)]; exact hρ2
 ·obtain ⟨c1,c2⟩:=call_back hs3 hsub hnd (List.nodup_range':(List.range' 1000 Lo.length).Nodup) (hko Lo) hs4 hst4 (by simp)
  have hL4:=(hgets Lo).1
  show Leaves Tryz.prog Tryz.f26 a3.tmps RR a3.defers (.panicking [{ v:=failV,recovered:=false }]) w4
  rw [hd3',← hd0]
  have hg4:w4.heap[g]? = some (.cells #[.bool false] 4 (0,0)):=c1.own 2 _ hL4
  have hlt:g < w4.heap.size:=(Array.getElem?_eq_some_iff.1 hg4).1
  have hg5:(w4.alloc (.cells #[] 112)).heap[g]? = some (.cells #[.bool false] 4 (0,0)):=by rw [Below.heap_alloc w4 _ g hlt]; exact hg4
  refine leaves_cons (f:=61) (args:=#[.pointer (some ⟨g,0,none⟩)]) (by simp) (hinv w4) ?_
  refine (catch_panicking ⟨g,0,none⟩ false [] w4 (by simp [World.cell?,hg5]) (by simp [World.frozen?,hg5])).mono ?_
  rintro e u' w6 ⟨rfl,rfl,rfl⟩
  have hgr:=grownBy_setCell' (w4.alloc (.cells #[] 112)) g (.bool false)
  have hs6:=(c1.alloc (.cells #[] 112)).turn hL4 (o':=.box g 4 [.bool false]) (w':=(w4.alloc (.cells #[] 112)).setCell ⟨g,0,none⟩ (.bool false)) (one_setCell hg5) (fun b hb hne => hgr.block b hb (fun e => hne e.symm)) (fun g' hg' => .inl hg')
  have hst6:Step F4 ((L3.dels (List.range' 1000 Lin.length)).puts (List.range' 1000 Lo.length) Lo) w4 F4 (((L3.dels (List.range' 1000 Lin.length)).puts (List.range' 1000 Lo.length) Lo).set 2 (.box g 4 [.bool false])) ((w4.alloc (.cells #[] 112)).setCell ⟨g,0,none⟩ (.bool false)):=by
   have hga:=World.grownBy_alloc w4 (.cells #[] 112) none
   refine ⟨Frz.le_refl _,rfl,rfl,rfl,Nat.le_trans hga.size hgr.size,fun b hb hn => ?_,fun b h => .inl h,fun b hb => ?_⟩
   ·rw [hgr.block b (Nat.lt_of_lt_of_le hb hga.size) (fun e => hn ⟨2,_,hL4,e.symm⟩)]
    exact hga.block b hb (by simp)
   ·rcases Loc.owns_set hb with hb | hb
    ·exact .inl ⟨2,_,hL4,hb⟩
    ·exact .inl hb
  refine fin false F4 Lo a3 ρ3 _ hρ2 (EnvOk.only he3 hρ ?_) hs6 (((hst1.trans hst3).trans c2).trans hst6) (.inr ⟨rfl,hp,hlo,hbxs⟩)
  rw [Loc.get_set,if_pos rfl,hbx]
def lostL:List TO → List TO → Prop
 | [],Mo => Mo = []
 | .box t _ :: l,Mo => ∃ (n:Nat) (Mo':List TO),Mo = .box t (List.replicate n .any) :: Mo' ∧ lostL l Mo'
 | .row t sz _ :: l,Mo => ∃ Mo',Mo = .row t sz [] :: Mo' ∧ lostL l Mo'
theorem rels_any {F:Frz} {L:Loc}:∀ vs:List Value,Rels F L (List.replicate vs.length .any) vs
 | [] => by simp only [List.length_nil,List.replicate_zero,Rels]
 | v :: vs => by
  simp only [List.length_cons,List.replicate_succ,Rels]
  exact ⟨v,vs,rfl,trivial,rels_any vs⟩
theorem lost_ex {F:Frz}:∀ (Lin:List TO) (Li Lo:List Own),Li.length = Lin.length → Lo.length = Lin.length → (∀ (i:Nat) o p,Lin[i]? = some o → Li[i]? = some p → ∃ L,RelO F L o p) →
  (∀ (i:Nat) g t cs,Li[i]? = some (.box g t cs) → ∃ cs',Lo[i]? = some (.box g t cs')) →
  ∃ (Mo:List TO) (Lo':List Own),lostL Lin Mo ∧ Mo.length = Lin.length ∧ Lo'.length = Lin.length ∧ (∀ (i:Nat) o,Lo'[i]? = some o → Lo[i]? = some o ∨ ∃ t sz,o = .row (.slice none 0 0) t sz 0 []) ∧
   (∀ (i:Nat) g t cs,Li[i]? = some (.box g t cs) → ∃ cs',Lo'[i]? = some (.box g t cs')) ∧ ∀ (i:Nat) o p L G,Mo[i]? = some o → Lo'[i]? = some p → RelO G L o p
 | [],Li,Lo,h1,h2,h3,h4 => by
  have:Li = []:=List.length_eq_zero_iff.1 h1
  subst this
  exact ⟨[],[],rfl,rfl,rfl,fun i o e => by simp at e,fun i g t cs e => by simp at e,fun i o p L G e => by simp at e⟩
 | o :: Lin,[],Lo,h1,h2,h3,h4 => by simp at h1
 | o :: Lin,p :: Li,[],h1,h2,h3,h4 => by simp at h2
 | o :: Lin,p :: Li,q :: Lo,h1,h2,h3,h4 => by
  obtain ⟨Mo,Lo',a1,a2,a3,a4,a5,a6⟩:=lost_ex Lin Li Lo (by simpa using h1) (by simpa using h2) (fun i o p e1 e2 => h3 (i + 1) o p (by simpa using e1) (by simpa using e2)) (fun i g t cs e => by simpa using h4 (i + 1) g t cs (by simpa using e))
  obtain ⟨L,hr⟩:=h3 0 o p rfl rfl
  cases o with
  | box t cs =>
   cases p with
   | row => exact hr.elim
   | box g t' us =>
    obtain ⟨cs',e⟩:=h4 0 g t' us rfl
    simp only [List.getElem?_cons_zero,Option.some.injEq] at e
    subst e
    refine ⟨.box t (List.replicate cs'.length .any) :: Mo,.box g t' cs' :: Lo',⟨_,_,rfl,a1⟩,by simp [a2],by simp [a3],fun i o e => ?_,fun i g t cs e => ?_,fun i o p L G e1 e2 => ?_⟩
    ·cases i with
     | zero => exact .inl e
     | succ i => simpa using a4 i o (by simpa using e)
    ·cases i with
     | zero => simp only [List.getElem?_cons_zero,Option.some.injEq] at e; injection e with q1 q2 q3; subst q1 q2; exact ⟨_,rfl⟩
     | succ i => simpa using a5 i g t cs (by simpa using e)
    ·cases i with
     | zero =>
      simp only [List.getElem?_cons_zero,Option.some.injEq] at e1 e2
      subst e1 e2
      exact ⟨hr.1,rels_any _⟩
     | succ i => exact a6 i o p L G (by simpa using e1) (by simpa using e2)
  | row t sz els =>
   cases p with
   | box => exact hr.elim
   | row v t' sz' n xs =>
    refine ⟨.row t sz [] :: Mo,.row (.slice none 0 0) t sz 0 [] :: Lo',⟨_,rfl,a1⟩,by simp [a2],by simp [a3],fun i o e => ?_,fun i g t cs e => ?_,fun i o p L G e1 e2 => ?_⟩
    ·cases i with
     | zero => simp only [List.getElem?_cons_zero,Option.some.injEq] at e; subst e; exact .inr ⟨_,_,rfl⟩
     | succ i => simpa using a4 i o (by simpa using e)
    ·cases i with
     | zero => simp only [List.getElem?_cons_zero,Option.some.injEq] at e; cases e
     | succ i => simpa using a5 i g t cs (by simpa using e)
    ·cases i with
     | zero =>
      simp only [List.getElem?_cons_zero,Option.some.injEq] at e1 e2
      subst e1 e2
      exact ⟨rfl,rfl,rfl,⟨Nat.zero_le _,none,0,rfl,fun _ => rfl⟩,by simp only [RelRow]⟩
     | succ i => exact a6 i o p L G (by simpa using e1) (by simpa using e2)
theorem caught_T {F0:Nat} {fi ca:List C} {Lin:List TO} {R:List TO → C → Prop} {p:Prop} (h:CallsTX Tryz.prog F0 (fi ++ ca) Lin R (fun v => v = failV ∧ p)) :
  CallsT Tryz.prog 26 [.fn F0 fi ca] Lin (fun Mo c => (c = .bool true ∧ ∃ c0,R Mo c0) ∨ (c = .bool false ∧ p ∧ lostL Lin Mo)):=by
 refine ⟨fun F Li vs hl htl hr => ?_⟩
 simp only [Rels,Rel] at hr
 obtain ⟨v,vs',rfl,⟨fi',ca',rfl,hf,hc⟩,rfl⟩:=hr
 have hA:=caught_A (fi:=fi') (ca:=ca') (h.out F Li (fi' ++ ca') hl htl (hf.append hc))
 refine ⟨hA.ent,ResA.mono',fun w hs => (hA.run w hs).mono ?_⟩
 rintro e w' ⟨v,F',Lo,rfl,hs',hst,⟨rfl,v0,Mo,c0,q1,q2,q3,q4,q5⟩ | ⟨rfl,hp,hlo,hbx⟩⟩
 ·exact ⟨.bool true,F',Lo,rfl,hs',hst,Mo,.bool true,q1,q2,by simp only [Rel],q4,.inl ⟨rfl,c0,q5⟩⟩
 ·have hrel:∀ (i:Nat) o p,Lin[i]? = some o → Li[i]? = some p → ∃ L,RelO F L o p:=by
   intro i o p e1 e2
   have hk:=htl (1000 + i)
   rw [tinp_get,inp_get,if_pos (by omega),if_pos (by omega),show 1000 + i - 1000 = i by omega,e1,e2] at hk
   exact ⟨_,hk⟩
  obtain ⟨Mo,Lo',a1,a2,a3,a4,a5,a6⟩:=lost_ex Lin Li Lo hl (by rw [hlo,hl]) hrel hbx
  have hget:∀ j o,(inp Lo').get j = some o → (inp Lo).get j = some o ∨ ∃ t sz,o = .row (.slice none 0 0) t sz 0 []:=by
   intro j o e
   rw [inp_get] at e ⊢
   split at e
   case isFalse => cases e
   rename_i hj
   rw [if_pos hj]
   exact a4 _ o e
  refine ⟨.bool false,F',Lo',rfl,⟨hs'.frz,fun j o e => ?_,fun j o g e hb => ?_,fun j j' o o' g e e' hb hb' => ?_,hs'.glob⟩,?_,Mo,.bool false,by rw [a2,a3],fun k => ?_,by simp only [Rel],a5,.inr ⟨rfl,hp,a1⟩⟩
  ·rcases hget j o e with e1 | ⟨t,sz,rfl⟩
   ·exact hs'.own j o e1
   ·exact World.ownsRow_nil w' 0 t sz
  ·rcases hget j o e with e1 | ⟨t,sz,rfl⟩
   ·exact hs'.off j o g e1 hb
   ·cases hb
  ·rcases hget j o e with e1 | ⟨t,sz,rfl⟩
   ·rcases hget j' o' e' with e2 | ⟨t,sz,rfl⟩
    ·exact hs'.sep j j' o o' g e1 e2 hb hb'
    ·cases hb'
   ·cases hb
  ·refine ⟨hst.le,hst.os,hst.tape,hst.output,hst.size,hst.same,hst.frz,fun b hb => ?_⟩
   obtain ⟨j,o,e,hb⟩:=hb
   rcases hget j o e with e1 | ⟨t,sz,rfl⟩
   ·exact hst.own b ⟨j,o,e1,hb⟩
   ·cases hb
  ·rw [tinp_get,inp_get]
   split
   ·cases e1:Mo[k - 1000]? with
    | none =>
     have:Lo'[k - 1000]? = none:=List.getElem?_eq_none (by rw [a3,← a2]; exact List.getElem?_eq_none_iff.1 e1)
     rw [this]; trivial
    | some o =>
     have hlt:k - 1000 < Lo'.length:=by rw [a3,← a2]; exact (List.getElem?_eq_some_iff.1 e1).1
     rw [List.getElem?_eq_getElem hlt]
     exact a6 _ o _ _ _ e1 (List.getElem?_eq_getElem hlt)
   ·trivial
end Go.Fr.Tryz
namespace Go.Fr.Tryz
open Go Go.RowKit Go.Proofs Go.Fr Go.Fr.T Go.Fr.Api
theorem t33 (b:Bool):ChkOk b:=by
 refine callsTX_facts Tryz.func33 facts33 rfl fun _ _ => ?_
 cases b
 ·exact panT rfl ⟨rfl,rfl⟩
 ·exact retR [] rfl rfl rfl rfl ⟨rfl,rfl,rfl⟩
theorem bcells_len {bs:List UInt8}:(bcells bs).length = bs.length:=by simp [bcells]
theorem bcells_sz {bs:List UInt8}:∀ es ∈ bcells bs,es.length = 1:=by
 intro es h
 simp only [bcells,List.mem_map] at h
 obtain ⟨b,_,rfl⟩:=h
 rfl
theorem takeD_pos {n:Int} {bs:List UInt8} (h:0 ≤ n) (k:n ≤ bs.length):takeD n bs = some (bs.take n.toNat,bs.drop n.toNat):=by simp [takeD,h,k]
theorem bcells_slice (bs:List UInt8) (n m:Nat):((bcells bs).drop n).take m = bcells ((bs.drop n).take m):=by simp [bcells]
theorem t72o (n:Int) (bs:List UInt8):RdOk 72 [.own 1000 0,IC n] 61 bs (takeD n bs) (fun b => .sl (bcells b)):=by
 refine callsTX_facts Tryz.func72 facts72 rfl fun hw ho => ?_
 have hl:bs.length ≤ 9223372036854775807:=by
  have:=ho _ (List.mem_singleton.2 rfl)
  exact wf_lenB this.1
 have hlen:(bcells bs).length = bs.length:=bcells_len
 refine brn_p (fun h0 => ?_) (fun h0 => ?_)
 ·refine chk (t33 (decide (n ≤ (bcells bs).length))) rfl (fun h => ⟨rfl,?_⟩) fun h1 => ?_
  ·rw [hlen] at h
   have:=of_decide_eq_false h
   simp only [takeD]
   rw [if_neg (fun q => this q.2)]
  ·rw [hlen] at h1
   have h1:=of_decide_eq_true h1
   refine SlcT.mk (Int.le_refl 0) h0 (by rw [hlen]; exact h1) bcells_sz ?_
   refine SlcT.mk h0 (by rw [hlen]; exact h1) (Int.le_refl _) bcells_sz ?_
   refine retR [1000] rfl rfl rfl rfl ⟨_,_,takeD_pos h0 h1,?_,?_⟩
   ·refine congrArg (fun q => [TO.box 61 [C.sl q]]) (?_:((bcells bs).drop n.toNat).take (((bcells bs).length:Int).toNat - n.toNat) = bcells (bs.drop n.toNat))
    rw [bcells_slice,hlen,List.take_of_length_le (by simp)]
   ·refine congrArg C.sl (?_:((bcells bs).drop 0).take (n.toNat - 0) = bcells (bs.take n.toNat))
    rw [bcells_slice]; simp
 ·refine chk (t33 false) rfl (fun h => ⟨rfl,?_⟩) fun h1 => by cases h1
  simp only [takeD]
  rw [if_neg (fun q => h0 q.1)]
theorem t72 (g:Nat) (n:Int) (bs:List UInt8):RdOk 72 [adr g 0,IC n] (pin g 61) bs (takeD n bs) (fun b => .sl (bcells b)):=by
 have e:([adr g 0,IC n]:List C).map (C.toOwn1 g) = [.own 1000 0,IC n]:=by
  simp only [List.map_cons,List.map_nil,toOwn1_adr g 0 (by omega)]
  rfl
 refine (CallsTX.pinned g (by omega) (by rw [e]; exact t72o n bs)).imp ?_ fun _ h => h
 rintro Mo c ⟨Mo0,⟨y,r,h1,rfl,rfl⟩,rfl⟩
 exact ⟨y,r,h1,rfl,rfl⟩
theorem wrap64_small {n:Nat} (h:n < 9223372036854775808):IntKind.wrap .i64 (n:Int) = n:=by
 simp only [IntKind.wrap,IntKind.bits,IntKind.signed,Bool.true_and,decide_eq_true_eq,ge_iff_le,Nat.reduceSub,Int.reducePow]
 split <;> omega
theorem or_eq {z c k:Nat} (hz:z < 128 ^ k) (hc:c < 128) (hk:k < 6):IntKind.wrap .i64 ((BitVec.ofInt 64 (z:Int) ||| BitVec.ofInt 64 (((c * 128 ^ k:Nat)):Int)).toNat:Int) = ((z + c * 128 ^ k:Nat):Int):=by
 have hp:128 ^ k = 2 ^ (7 * k):=by rw [Nat.pow_mul]
 have hb:128 ^ k ≤ 128 ^ 5:=Nat.pow_le_pow_right (by omega) (by omega)
 have hcb:c * 128 ^ k ≤ 127 * 128 ^ 5:=Nat.mul_le_mul (by omega) hb
 have e:(BitVec.ofInt 64 (z:Int) ||| BitVec.ofInt 64 ((c * 128 ^ k:Nat):Int)).toNat = z + c * 128 ^ k:=by
  rw [BitVec.toNat_or,BitVec.ofInt_natCast,BitVec.ofInt_natCast,BitVec.toNat_ofNat,BitVec.toNat_ofNat,Nat.mod_eq_of_lt (by omega),Nat.mod_eq_of_lt (by omega)]
  rw [hp] at hz ⊢
  rw [Nat.or_comm,Nat.mul_comm,← Nat.two_pow_add_eq_or_of_lt hz]
  omega
 rw [e]
 exact wrap64_small (by omega)
theorem Fit.to {k:IntKind} {n m:Int} {K:Int → Prop} (h:k.wrap n = m) (hK:K m):Fit k n K:=⟨by rw [h]; exact hK⟩
theorem wrap64_id {n:Int} (h1:-9223372036854775808 ≤ n) (h2:n ≤ 9223372036854775807):IntKind.wrap .i64 n = n:=by
 simp only [IntKind.wrap,IntKind.bits,IntKind.signed,Bool.true_and,decide_eq_true_eq,ge_iff_le,Nat.reduceSub,Int.reducePow]
 split <;> omega
theorem xor_eq {z:Nat} (hz:z < 9223372036854775808):IntKind.wrap .i64 ((BitVec.ofInt 64 ((z / 2:Nat):Int) ^^^ BitVec.ofInt 64 (0 - ((z % 2:Nat):Int))).toNat:Int) = unz z:=by
 unfold unz
 rcases Nat.mod_two_eq_zero_or_one z with h | h
 ·rw [h,if_pos rfl]
  have e:(BitVec.ofInt 64 ((z / 2:Nat):Int) ^^^ BitVec.ofInt 64 (0 - ((0:Nat):Int))).toNat = z / 2:=by
   rw [show (0 - ((0:Nat):Int)) = ((0:Nat):Int) from rfl,BitVec.ofInt_natCast,BitVec.ofInt_natCast]
   simp
   omega
  rw [e]
  exact wrap64_small (by omega)
 ·rw [h,if_neg (by omega)]
  have e:(BitVec.ofInt 64 ((z / 2:Nat):Int) ^^^ BitVec.ofInt 64 (0 - ((1:Nat):Int))).toNat = 18446744073709551615 - z / 2:=by
   have:BitVec.ofInt 64 (0 - ((1:Nat):Int)) = BitVec.allOnes 64:=by decide
   rw [this,BitVec.ofInt_natCast,BitVec.xor_allOnes,BitVec.toNat_not,BitVec.toNat_ofNat,Nat.mod_eq_of_lt (by omega)]
  rw [e]
  simp only [IntKind.wrap,IntKind.bits,IntKind.signed,Bool.true_and,decide_eq_true_eq,ge_iff_le,Nat.reduceSub,Int.reducePow]
  split <;> omega
def RdL (g:Nat) (bs:List UInt8):TL:=[(1000,.box (pin g 61) [.sl (bcells bs)])]
theorem take1 {x:UInt8} {r:List UInt8}:takeD 1 (x :: r) = some ([x],r):=by
 rw [takeD_pos (by omega) (by simp only [List.length_cons]; omega)]; rfl
theorem take1_nil:takeD 1 [] = none:=by simp [takeD]
theorem t32 (g:Nat) (bs:List UInt8):RdOk 32 [adr g 0] (pin g 61) bs (numD bs) IC:=by
 refine callsTX_facts Tryz.func32 facts32 rfl fun hw ho => ?_
 refine loopN 6 7 [3] ((0,bs):Nat × List UInt8) (fun s => [IC s.1]) (fun s => RdL g s.2) (fun k s => numGo (6 - k) k s.1 s.2 = numD bs ∧ s.1 < 128 ^ k) ⟨rfl,by simp⟩ (same_keys rfl) ⟨same_keys rfl,trivial⟩ ⟨.inl ⟨_,rfl,.inl ⟨rfl,rfl⟩⟩,trivial⟩ (fun _ => rfl) (fun _ => rfl) ?_
 rintro k ⟨z,rest⟩ hk ⟨hinv,hz⟩ _ _ _
 refine brn_p (fun hlt => ?_) (fun hge => ?_)
 ·have hlt:k < 6:=by omega
  refine rdN (t72 g 1 rest) rfl rfl (fun h => ?_) fun y r e _ => ?_
  ·refine ⟨rfl,?_⟩
   cases rest with
   | nil => rw [← hinv,show 6 - k = (5 - k) + 1 by omega]; rfl
   | cons x r => rw [take1] at h; cases h
  cases rest with
  | nil => rw [take1_nil] at e; cases e
  | cons x r' =>
   rw [take1] at e
   injection e with e
   injection e with e1 e2
   subst e1 e2
   refine idxB (k:=0) (x:=x) rfl ?_
   have hx:=x.toNat_lt
   refine Fit.in64 (by omega) (by omega) ?_
   refine NonZ.mk (by omega) ?_
   have hc:x.toNat % 128 < 128:=Nat.mod_lt _ (by omega)
   have hk5:128 ^ k ≤ 128 ^ 5:=Nat.pow_le_pow_right (by omega) (by omega)
   have hm:x.toNat % 128 * 128 ^ k ≤ 127 * 128 ^ 5:=Nat.mul_le_mul (by omega) hk5
   have hsh:((x.toNat:Nat):Int).tmod 128 * 2 ^ (min ((7:Int) * (k:Int)).toNat 64) = ((x.toNat % 128 * 128 ^ k:Nat):Int):=by
    rw [Int.tmod_eq_emod_of_nonneg (by omega),show min ((7:Int) * (k:Int)).toNat 64 = 7 * k by omega]
    rw [show (128:Nat) ^ k = 2 ^ (7 * k) by rw [Nat.pow_mul]]
    push_cast
    rfl
   have hor:=or_eq hz hc hlt
   refine Fit.in64 (by omega) (by omega) ?_
   refine ⟨by omega,Fit.to (m:=((x.toNat % 128 * 128 ^ k:Nat):Int)) (by rw [show (min ((7:Int) * (k:Int)).toNat IntKind.i64.bits) = min ((7:Int) * (k:Int)).toNat 64 from rfl,hsh]; exact wrap64_id (by omega) (by omega)) ?_⟩
   have hz':z + x.toNat % 128 * 128 ^ k < 9223372036854775808:=by
    have:z < 128 ^ 5:=Nat.lt_of_lt_of_le hz hk5
    omega
   refine brn_p (fun hlow => ?_) (fun hhigh => ?_)
   ·have hlow:x.toNat < 128:=by omega
    have hmod:x.toNat % 128 = x.toNat:=Nat.mod_eq_of_lt hlow
    have h6:6 - k = (6 - (k + 1)) + 1:=by omega
    rw [h6] at hinv
    simp only [numGo] at hinv
    rw [if_pos hlow] at hinv
    have hxr:=xor_eq hz'
    have rest:∀ (hc0:0 < x.toNat ∨ k = 0),((if -bound ≤ unz (z + x.toNat * 128 ^ k) ∧ unz (z + x.toNat * 128 ^ k) ≤ bound then some (unz (z + x.toNat * 128 ^ k),r') else none):Option (Int × List UInt8)) = numD bs:=by
     intro hc0
     rw [if_pos hc0] at hinv
     exact hinv
    have hdiv:IntKind.wrap .i64 ((IntKind.wrap .i64 ((BitVec.ofInt 64 (z:Int) ||| BitVec.ofInt 64 ((x.toNat % 128 * 128 ^ k:Nat):Int)).toNat:Int)).tdiv 2) = (((z + x.toNat % 128 * 128 ^ k) / 2:Nat):Int):=by
     rw [hor,Int.tdiv_eq_ediv_of_nonneg (by omega)]
     exact wrap64_id (by omega) (by omega)
    have hrem:0 - (IntKind.wrap .i64 ((BitVec.ofInt 64 (z:Int) ||| BitVec.ofInt 64 ((x.toNat % 128 * 128 ^ k:Nat):Int)).toNat:Int)).tmod 2 = 0 - (((z + x.toNat % 128 * 128 ^ k) % 2:Nat):Int):=by
     rw [hor,Int.tmod_eq_emod_of_nonneg (by omega)]
     rfl
    have hneg:IntKind.wrap .i64 (0 - (IntKind.wrap .i64 ((BitVec.ofInt 64 (z:Int) ||| BitVec.ofInt 64 ((x.toNat % 128 * 128 ^ k:Nat):Int)).toNat:Int)).tmod 2) = 0 - (((z + x.toNat % 128 * 128 ^ k) % 2:Nat):Int):=by
     rw [hrem]
     exact wrap64_id (by omega) (by omega)
    refine brn_p (fun hc0 => ?_) (fun hc0 => ?_)
    ·refine chk (t33 true) rfl (fun h => by cases h) fun _ => ?_
     have hr:=rest (.inl (by omega))
     rw [← hmod] at hr
     refine NonZ.mk (by omega) (Fit.to hdiv ?_)
     refine NonZ.mk (by omega) (Fit.to hneg ?_)
     refine brn_p (fun hb1 => ?_) (fun hb1 => ?_)
     ·have hb1:-1099511627776 ≤ unz (z + x.toNat % 128 * 128 ^ k):=by rw [← hxr]; exact hb1
      refine chk (t33 (decide (unz (z + x.toNat % 128 * 128 ^ k) ≤ 1099511627776))) (congrArg (fun q => [C.bool (decide (q ≤ 1099511627776))]) hxr) (fun h => ⟨rfl,?_⟩) fun h => ?_
      ·have h:=of_decide_eq_false h
       rw [← hr,if_neg (fun q => h q.2)]
      ·have h:=of_decide_eq_true h
       refine retR [1000] rfl rfl rfl (congrArg (C.int .i64) hxr) ⟨_,r',?_,rfl,rfl⟩
       rw [← hr,if_pos ⟨hb1,h⟩]
     ·have hb1:¬ -1099511627776 ≤ unz (z + x.toNat % 128 * 128 ^ k):=by rw [← hxr]; exact hb1
      refine chk (t33 false) rfl (fun h => ⟨rfl,?_⟩) fun h => by cases h
      rw [← hr,if_neg (fun q => hb1 q.1)]
    ·refine chk (t33 (decide ((k:Int) = 0))) rfl (fun h => ⟨rfl,?_⟩) fun h => ?_
     ·have h:=of_decide_eq_false h
      rw [← hinv,if_neg (by omega)]
     ·have h:=of_decide_eq_true h
      have hr:=rest (.inr (by omega))
      rw [← hmod] at hr
      refine NonZ.mk (by omega) (Fit.to hdiv ?_)
      refine NonZ.mk (by omega) (Fit.to hneg ?_)
      refine brn_p (fun hb1 => ?_) (fun hb1 => ?_)
      ·have hb1:-1099511627776 ≤ unz (z + x.toNat % 128 * 128 ^ k):=by rw [← hxr]; exact hb1
       refine chk (t33 (decide (unz (z + x.toNat % 128 * 128 ^ k) ≤ 1099511627776))) (congrArg (fun q => [C.bool (decide (q ≤ 1099511627776))]) hxr) (fun h => ⟨rfl,?_⟩) fun h => ?_
       ·have h:=of_decide_eq_false h
        rw [← hr,if_neg (fun q => h q.2)]
       ·have h:=of_decide_eq_true h
        refine retR [1000] rfl rfl rfl (congrArg (C.int .i64) hxr) ⟨_,r',?_,rfl,rfl⟩
        rw [← hr,if_pos ⟨hb1,h⟩]
      ·have hb1:¬ -1099511627776 ≤ unz (z + x.toNat % 128 * 128 ^ k):=by rw [← hxr]; exact hb1
       refine chk (t33 false) rfl (fun h => ⟨rfl,?_⟩) fun h => by cases h
       rw [← hr,if_neg (fun q => hb1 q.1)]
   ·refine Fit.in64 (by omega) (by omega) ?_
    refine ⟨(k + 1,(z + x.toNat % 128 * 128 ^ k,r')),⟨by omega,?_,?_⟩,⟨nextI,⟨.inr (.inl ⟨congrArg C.cel (congrArg (C.int .i64) hor),rfl⟩),trivial⟩⟩,⟨.inl ⟨_,rfl,.inl ⟨rfl,rfl⟩⟩,trivial⟩,nextM hlt⟩
    ·have h6:6 - k = (6 - (k + 1)) + 1:=by omega
     rw [← hinv,h6]
     simp only [numGo]
     rw [if_neg (by omega),show x.toNat % 128 = x.toNat - 128 by omega]
    ·rw [Nat.pow_succ]
     have:x.toNat % 128 * 128 ^ k ≤ 127 * 128 ^ k:=Nat.mul_le_mul_right _ (by omega)
     simp only []
     omega
 ·have:k = 6:=by omega
  subst this
  refine panT rfl ⟨rfl,?_⟩
  rw [← hinv]; rfl
end Go.Fr.Tryz
