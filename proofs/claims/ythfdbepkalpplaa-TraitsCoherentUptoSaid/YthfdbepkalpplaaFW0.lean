/- Part of the proofs of the statements of this seat. -/
import Derived.Orders
import Derived.Below
import Derived.Laws.OwnMore
import Derived.Maps.AppendAt
import Derived.WalkKit
import Derived.KernelRfl
import Derived.Lib.AppendStr
import Derived.Laws.BytesString
import Derived.Laws.StructEq
import Derived.Lib.AppendZeros
import Derived.ArgAppend
import Derived.Laws.CopyRow
import Derived.Laws.IdiomCopy
import Derived.Carry
import Derived.Maps.RangeRun
set_option maxRecDepth 10000
set_option linter.unusedVariables false
set_option linter.unusedSimpArgs false
namespace Go.Fr
open Go Go.RowKit
abbrev eu:=@if_pos
abbrev fo:=@if_neg
abbrev fL:=@absurd
abbrev vv:=@congrArg
abbrev vz:=@List.length_map
abbrev v5:=@Bool.and_eq_true
abbrev xo:=@Option.some.injEq
abbrev aaN:=@decide_eq_true
abbrev aaO:=@List.getElem?_eq_getElem
abbrev aaP:=@decide_eq_false
abbrev aaQ:=@Nat.eq_of_beq_eq_true
abbrev aaR:=@List.getElem?_eq_some_iff
abbrev aaS:=@Bool.true_and
abbrev aaT:=@List.mem_cons
abbrev aaU:=@List.mem_append
abbrev aaV:=@Bool.false_and
abbrev aaW:=@List.mem_of_getElem?
abbrev aaX:=@List.map_cons
abbrev aaY:=@List.all_eq_true
abbrev aaZ:=@decide_eq_true_eq
abbrev aa0:=@Nat.le_refl
abbrev aa1:=@List.cons_append
abbrev aa2:=@Bool.false_eq_true
abbrev aa3:=@List.getElem?_cons_zero
abbrev aa4:=@List.getElem?_map
abbrev aa5:=@List.length_cons
abbrev aa6:=@Array.getD_eq_getD_getElem?
abbrev aa7:=@Bool.false_ne_true
abbrev aa8:=@Nat.zero_le
abbrev aa9:=@Nat.le_of_ble_eq_true
abbrev abb:=@Int.le_refl
abbrev abd:=@List.all_cons
abbrev abe:=@List.getElem?_cons_succ
abbrev abf:=@List.mem_iff_getElem?
abbrev abg:=@List.mem_cons_of_mem
abbrev abh:=@Bool.and_false
abbrev abj:=@if_true
abbrev abk:=@List.length_replicate
abbrev abl:=@List.getElem?_eq_none
abbrev abm:=@List.append_nil
abbrev abn:=@Bool.or_eq_true
abbrev abo:=@Option.map_some
abbrev abp:=@List.nil_append
abbrev abq:=@List.mem_map
abbrev abr:=@Option.some.inj
abbrev abt:=@of_decide_eq_true
abbrev abu:=@List.eq_nil_of_length_eq_zero
abbrev abv:=@Nat.le_trans
abbrev abw:=@List.length_set
abbrev abx:=@List.getElem?_drop
abbrev aby:=@List.getElem?_eq_none_iff
abbrev abz:=@Nat.not_lt_zero
abbrev abA:=@List.take_of_length_le
abbrev abB:=@List.map_append
abbrev abC:=@List.map_nil
abbrev abD:=@List.getElem?_take
abbrev abE:=@List.any_cons
abbrev abF:=@List.getElem?_append_left
abbrev abG:=@List.getElem?_append_right
abbrev abH:=@List.mem_singleton
abbrev abI:=@List.length_append
abbrev abJ:=@List.length_take
abbrev abK:=@List.append_assoc
abbrev abL:=@List.length_nil
abbrev abM:=@of_decide_eq_false
abbrev abN:=@List.getElem?_set_ne
abbrev abO:=@List.any_eq_true
abbrev abP:=@List.ext_getElem?
abbrev abQ:=@if_false
abbrev abR:=@List.map_map
abbrev abS:=@List.getElem?_set_self
abbrev abT:=@Nat.lt_succ_self
abbrev abU:=@List.mem_replicate
abbrev abV:=@List.map_congr_left
abbrev abW:=@List.map_replicate
abbrev abX:=@List.any_eq_false
abbrev abY:=@decide_eq_false_iff_not
abbrev abZ:=@Bool.not_false
abbrev ab0:=@List.getElem?_replicate
abbrev ab1:=@Bool.not_eq_true
abbrev ab2:=@List.replicate_succ
abbrev ab3:=@Bool.and_true
abbrev ab4:=@List.mem_or_eq_of_mem_set
abbrev ab6:=@List.drop_eq_getElem_cons
abbrev aA:=Nat->Option Obj
def aA.le (F G:aA):Prop:=∀b o,F b=some o->G b=some o
theorem aA.le_refl (F:aA):F.le F:=fun _ _ h=>h
theorem aA.le_trans {F G H:aA}(h:F.le G) (k:G.le H):F.le H:=fun b o e=>k b o (h b o e)
def fV:Nat:=2 ^ 64
def Jz:Nat->Value
 | 0=>.slice none 0 0
 | m+1=>.slice (some ⟨m / (fV*fV),0,none⟩) (m / fV % fV) (m % fV)
def gX (k:Nat) (F:aA) (v:Value):Prop:=(k=0/\v=.nilIface)\/∃m,k=m+1/\v=Jz m
theorem gX.mono {k:Nat}{F G:aA}{v:Value}(h:F.le G) (r:gX k F v):gX k G v:=r
theorem gX.one {k:Nat}{F:aA}{v:Value}(r:gX k F v):v.oneCell'=true:=by
 rcases r with⟨_,rfl⟩ | ⟨m,_,rfl⟩
 ·rfl
 ·cases m<;>rfl
theorem MU {F:aA}:gX 0 F .nilIface:=.inl ⟨rfl,rfl⟩
def rX:Nat->Option Nat
 | 0=>none
 | 1=>some 0
 | m+2=>some (m / fV % fV)
theorem MV {F:aA}{k n:Nat}{v:Value}(h:gX k F v) (e:rX k=some n):∃a c,v=.slice a n c:=by
 rcases h with⟨rfl,_⟩ | ⟨m,rfl,rfl⟩
 ·cases e
 ·cases m with
  | zero=>injection e with e;subst e;exact⟨none,0,rfl⟩
  | succ m=>injection e with e;subst e;exact⟨_,_,rfl⟩
def s6 (F:aA):Prop:=True
theorem s6.mono {F G:aA}(h:F.le G) (g:s6 F):s6 G:=g
def wL (g:Nat):Option Nat:=none
theorem JA {F:aA}{g k:Nat}(h:s6 F) (e:wL g=some k):∃v t a,F g=some (.cells #[v] t a)/\gX k F v:=by cases e
def MW (k:Nat) (n:Int):Option (Int×Bool):=none
def E0 (k:Nat):Option Bool:=match k with | 0=>some true | _=>none
theorem JB {F:aA}{k:Nat}{v:Value}{b:Bool}(h:gX k F v) (e:E0 k=some b):(b=true->v=.nilIface)/\(b=false->∃t u,v=.iface t u):=by
 unfold E0 at e;split at e
 case h_2=>cases e
 injection e with e;subst e
 refine⟨fun _=>?_,fun e=>by cases e⟩;rcases h with h | ⟨m,h,_⟩
 ·exact h.2
 ·cases h
def MX:Bool:=false
def Rn:List (TypeId×String):=[]
inductive SV where
 | v (x:Value)
 | own (k off:Nat)
 | el (a:Option Addr) (j:Nat)
 deriving Inhabited
inductive Own where
 | box (g:Nat) (t:TypeId) (cs:List Value)
 | row (v:Value) (t:TypeId) (sz n:Nat) (xs:List Value)
def Own.blk:Own->Option Nat
 | .box g _ _=>some g
 | .row v _ _ _ _=>v.ownBlock
abbrev Loc:=List (Nat×Own)
def Loc.get:Loc->Nat->Option Own
 | [],_=>none
 | (j,o)::l,k=>match Nat.beq j k with | true=>some o | false=>Loc.get l k
def Loc.set:Loc->Nat->Own->Loc
 | [],k,o=>[(k,o)]
 | (j,p)::l,k,o=>match Nat.beq j k with
  | true=>(k,o)::l
  | false=>match Nat.ble j k with
   | true=>(j,p)::Loc.set l k o
   | false=>(k,o)::(j,p)::l
def Loc.del:Loc->Nat->Loc
 | [],_=>[]
 | (j,o)::l,k=>match Nat.beq j k with | true=>Loc.del l k | false=>(j,o)::Loc.del l k
abbrev Env:=Nat->SV
def put (d:Option Nat) (v:SV) (ρ:Env):Env :=
 match d with
 | some d=>fun j=>match Nat.beq j d with | true=>v | false=>ρ j
 | none=>ρ
def conc (L:Loc):SV->Value
 | .v x=>x
 | .own k off=>match L.get k with | some (.box g _ _)=>.pointer (some ⟨g,off,none⟩) | _=>undef
 | .el a j=>match a with | some ad=>.pointer (some (ad.add j)) | none=>undef
def f9:Value->Nat->MapEntry
 | .agg ⟨[k,v]⟩,i=>{key:=k,val:=v,born:=i}
 | v,i=>{key:=v,val:=v,born:=i}
def iW:Value->Nat
 | .int _ n=>n.toNat
 | _=>0
def bg:List Value->Nat->List MapEntry
 | [],_=>[]
 | v::l,i=>f9 v i::bg l (i+1)
def iw:List Value->Obj
 | .tuple ⟨[.map (some m),.int .i64 n]⟩::a=>.mapIter (some m) n.toNat (a.map iW).toArray n.toNat
 | es=>.map (bg es 0).toArray es.length
def nj:TypeId->List Value->Obj
 | 0,cs=>iw cs
 | t+1,cs=>.cells cs.toArray (t+1) (0,0)
theorem jy {t:TypeId}(h:t≠0) (cs:List Value):nj t cs=.cells cs.toArray t (0,0):=by
 cases t with
 | zero=>exact fL rfl h
 | succ t=>rfl
def Own.ok (w:World):Own->Prop
 | .box g t cs=>w.heap[g]?=some (nj t cs)
 | .row v t sz n xs=>w.ownsRow 0 t sz v n xs
structure St (F:aA) (L:Loc) (w:World):Prop where
 frz:∀b o,F b=some o->w.heap[b]?=some o
 own:∀k o,L.get k=some o->o.ok w
 off:∀k o g,L.get k=some o->o.blk=some g->F g=none
 sep:∀k k' o o' g,L.get k=some o->L.get k'=some o'->o.blk=some g->o'.blk=some g->k=k'
 glob:s6 F
def Loc.owns (L:Loc) (b:Nat):Prop:=∃k o,L.get k=some o/\o.blk=some b
structure Step (F:aA) (L:Loc) (w:World) (F':aA) (L':Loc) (w':World):Prop where
 le:F.le F'
 os:w'.os=w.os
 tape:w'.tape=w.tape
 output:w'.output=w.output
 size:w.heap.size<=w'.heap.size
 same:∀b,b<w.heap.size->¬L.owns b->w'.heap[b]?=w.heap[b]?
 frz:∀b,F' b≠none->F b≠none\/L.owns b\/w.heap.size<=b
 own:∀b,L'.owns b->L.owns b\/w.heap.size<=b
def dL (F:aA) (a:Option Addr) (j:Nat) (cs:List Value):Prop :=
 ∃c b t d,a=some c/\F c.block=some (.cells b t d)/\c.spot=none/\∀(i:Nat) (v:Value),cs[i]?=some v->b[c.off+j+i]?=some v
def s9:Nat->List Own->Loc
 | _,[]=>[]
 | k,o::l=>(k,o)::s9 (k+1) l
def inp (l:List Own):Loc:=s9 1000 l
structure CallsA (P:Program) (f:FuncId) (args:Array Value) (F:aA) (Lin:List Own) (R:aA->List Own->Value->Prop):Prop where
 ent:∃fn,P.funcs[f]?=some fn/\fn.body.isSome=true/\(fn.name == "runtime.NumGoroutine")=false
 mono:∀F G L v,F.le G->R F L v->R G L v
 run:∀w,St F (inp Lin) w->Calls P f args w fun e w'=>∃v F' Lo,e=.returned v/\St F' (inp Lo) w'/\Step F (inp Lin) w F' (inp Lo) w'/\R F' Lo v
def rY (v:Value) (b:List PanicEntry):Prop:=∃a,b={v,recovered:=false}::a/\∀e∈a,e.goexit=false
theorem rY.one (v:Value):rY v [{v,recovered:=false}]:=⟨[],rfl,fun e h=>by cases h⟩
structure oH (P:Program) (f:FuncId) (args:Array Value) (F:aA) (Lin:List Own) (R:aA->List Own->Value->Prop) (Pp:Value->Prop):Prop where
 ent:∃fn,P.funcs[f]?=some fn/\fn.body.isSome=true/\(fn.name == "runtime.NumGoroutine")=false
 mono:∀F G L v,F.le G->R F L v->R G L v
 run:∀w,St F (inp Lin) w->Calls P f args w fun e w'=>(∃v F' Lo,e=.returned v/\St F' (inp Lo) w'/\Step F (inp Lin) w F' (inp Lo) w'/\R F' Lo v) \/
  ∃v ch F' Lo,e=.panicked ch/\rY v ch/\St F' (inp Lo) w'/\Step F (inp Lin) w F' (inp Lo) w'/\Lo.length=Lin.length/\(∀(i:Nat) g t cs,Lin[i]?=some (.box g t cs)->∃cs',Lo[i]?=some (.box g t cs'))/\Pp v
theorem CallsA.toX {P:Program}{f:FuncId}{args:Array Value}{F:aA}{Lin:List Own}{R:aA->List Own->Value->Prop}{Pp:Value->Prop}(h:CallsA P f args F Lin R):oH P f args F Lin R Pp :=
 ⟨h.ent,h.mono,fun w a=>(h.run w a).mono fun _ _ k=>.inl k⟩
structure wM (P:Program) (f:FuncId) (args:Array Value) (F:aA) (Lin:List Own) (R:aA->List Own->Value->Prop) (Pp:aA->List Own->Value->Prop):Prop where
 ent:∃fn,P.funcs[f]?=some fn/\fn.body.isSome=true/\(fn.name == "runtime.NumGoroutine")=false
 mono:∀F G L v,F.le G->R F L v->R G L v
 run:∀w,St F (inp Lin) w->Calls P f args w fun e w'=>(∃v F' Lo,e=.returned v/\St F' (inp Lo) w'/\Step F (inp Lin) w F' (inp Lo) w'/\R F' Lo v) \/
  ∃v ch F' Lo,e=.panicked ch/\rY v ch/\St F' (inp Lo) w'/\Step F (inp Lin) w F' (inp Lo) w'/\Lo.length=Lin.length/\(∀(i:Nat) g t cs,Lin[i]?=some (.box g t cs)->∃cs',Lo[i]?=some (.box g t cs'))/\Pp F' Lo v
theorem oH.toS {P:Program}{f:FuncId}{args:Array Value}{F:aA}{Lin:List Own}{R:aA->List Own->Value->Prop}{Pp:Value->Prop}(h:oH P f args F Lin R Pp):wM P f args F Lin R (fun _ _=>Pp):=⟨h.ent,h.mono,h.run⟩
inductive X where
 | t (n:Nat)
 | c (v:Value)
 | fn (f:Nat)
 | mt (nm:String) (n:Nat)
 deriving Inhabited
def Tp (a:String):SV->SV
 | .v x=>.v (.func (.method a) #[x] #[])
 | .own _ _=>.v undef
 | .el _ _=>.v undef
def ev (ρ:Env):X->SV
 | .t n=>ρ n
 | .c v=>.v v
 | .fn f=>.v (.func (.func f) #[] #[])
 | .mt a n=>Tp a (ρ n)
def tj (P:Program) (t:TypeId) (b:String):Option FuncId :=
 match P.info? t with
 | some i=>match i.methods.find? (·.name == b) with
  | some m=>match m.path.toList,m.func with
   | [],some (f,a)=>match P.underlying t,a with
    | some (.pointer _),true=>some f
    | some (.pointer _),false=>none
    | some _,false=>some f
    | _,_=>none
   | _,_=>none
  | none=>none
 | none=>none
def Tq:List (TypeId×String)->TypeId->String->Bool
 | [],_,_=>false
 | (t,c)::l,b,a=>match Nat.beq t b,decide (c=a) with | true,true=>true | _,_=>Tq l b a
def Qr (P:Program):Bool:=Rn.all fun x=>(tj P x.1 x.2).isSome
def rZ (P:Program):SV->Option (Nat×List Value×List Value)
 | .v (.func (.func f) a b)=>some (f,a.toList,b.toList)
 | .v (.func (.method c) a b)=>match a.toList with
  | [.iface t u]=>match tj P t c with
   | some f=>some (f,[u],[])
   | none=>none
  | _=>none
 | _=>none
def Ao (P:Program) (f:SV) (args:List Value):Option (Nat×List Value) :=
 match f,args with
 | .v (.func (.methodOf t c) ⟨[]⟩ _),.iface b u::a=>match P.underlying t with
  | some (.interface _)=>match tj P b c with
   | some f=>some (f,u::a)
   | none=>none
  | _=>none
 | _,_=>none
def val (L:Loc) (ρ:Env) (x:X):Value:=conc L (ev ρ x)
inductive dX where
 | mov (x:X)
 | pick (c a b:X)
 | box (t:TypeId) (x:X)
 | boxF (t:TypeId) (x:X)
 | alloc (t:TypeId) (zs:List Value)
 | mkF (e:TypeId) (n sz:Nat) (xs:List X)
 | mkR (e:TypeId) (n sz:Nat) (xs:List X)
 | build (zs:List Value) (ps:List (Nat×Nat×X))
 | load (agg:Bool) (n:Nat) (x:X)
 | loadD (agg:Bool) (n:Nat) (x:X)
 | store (n:Nat) (a x:X)
 | nilck (x:X)
 | bin (op:BinOp) (x y:X)
 | eqB (neg:Bool) (x y:X)
 | eqS (neg:Bool) (x y:X)
 | eqN (neg:Bool) (x:X)
 | tas (t:TypeId) (z:Value) (x:X)
 | eqA (neg:Bool) (ks:List Bool) (x y:X)
 | un (op:UnOp) (x:X)
 | conv (k:IntKind) (x:X)
 | mkfn (f:Nat) (first cap:List X)
 | makeS (e:TypeId) (sz bytes:Nat) (zs:List Value) (l c:X)
 | slc (sz:Nat) (x:X) (lo hi:Option X)
 | fieldA (off:Nat) (x:X)
 | idxA (sz:Nat) (x i:X)
 | extr (x:X) (i:Nat)
 | call (f:Nat) (args:List X)
 | callV (f:X) (args:List X)
 | callD (f:Nat) (args:List X)
 | boxD (t:TypeId) (x:X)
 | allocD (t:TypeId) (zs:List Value)
 | mkFD (e:TypeId) (n sz:Nat) (xs:List X)
 | callVD (f:X) (args:List X)
 | callO (f:Nat) (args:List X)
 | callVO (f:X) (args:List X)
 | len (x:X)
 | mm (mx:Bool) (args:List X)
 | app (e:TypeId) (sz bytes:Nat) (zs:List Value) (s x:X)
 | appD (e:TypeId) (sz bytes:Nat) (zs:List Value) (s x:X)
 | storeD (n:Nat) (a x:X)
 | appX (e:TypeId) (sz bytes:Nat) (zs:List Value) (s x:X)
 | mkif (t:TypeId) (x:X)
 | makeSD (e sz n:Nat) (zs:List Value)
 | makeSV (e sz b:Nat) (zs:List Value) (x:X)
 | loadK (key:Nat) (agg:Bool) (n:Nat) (x:X)
 | storeK (key n:Nat) (a x:X)
 | storeX (n:Nat) (a x:X)
 | pan (x:X)
 | gload (g:Nat)
 | loadF (agg:Bool) (n:Nat) (x:X)
 | loadR (agg:Bool) (n:Nat) (x:X)
 | mkmap
 | mlook (str ok:Bool) (z:Value) (x i:X)
 | mupd (str:Bool) (x i v:X)
 | mrange (x:X)
 | mnext (x:X)
 | mentry (x:X)
 | dead
 deriving Inhabited
structure YF where
 dst:Option Nat
 op:dX
 guard:Option (Nat×Bool)
 deriving Inhabited
abbrev dG:=aA->Loc->Env->Prop
def bU (cs:List Value) (off:Nat) (a:List Value):List Value:=cs.take off++a++cs.drop (off+a.length)
structure Fit (k:IntKind) (n:Int) (K:Int->Prop):Prop where
 out:K (k.wrap n)
structure Ro (n:Int) (K:Prop):Prop where
 ne:n≠0
 out:K
structure BS (i:Int) (n:Int) (K:Prop):Prop where
 lo:0<=i
 hi:i<n
 out:K
structure JC (a:Option Addr) (i:Int) (n:Int) (K:Prop):Prop where
 ne:a≠none
 lo:0<=i
 hi:i<n
 out:K
structure ku (F:aA) (L:Loc) (a:Option Addr) (j n:Nat) (K:List Value->Prop):Prop where
 out:∃cs,cs.length=n/\(dL F a j cs\/(∃k v t sz m xs ad c,L.get k=some (.row v t sz m xs)/\a=some ad/\v=.slice (some ad) m c/\∀(i:Nat) (u:Value),cs[i]?=some u->xs[j+i]?=some u)\/n=0\/∃k g t bs o,L.get k=some (.box g t bs)/\t≠0/\a=some ⟨g,o,none⟩/\∀(i:Nat) (u:Value),cs[i]?=some u->bs[o+j+i]?=some u)/\K cs
structure Tr (F:aA) (g:Nat) (K:Value->Prop):Prop where
 out:∃v t fr,F g=some (.cells #[v] t fr)/\K v
structure jm (F:aA) (a:Option Addr) (j n:Nat) (K:List Value->Prop):Prop where
 out:∃cs,cs.length=n/\(dL F a j cs\/n=0)/\K cs
structure qU (L:Loc) (a:Option Addr) (j:Nat) (cs:List Value) (K:Loc->Prop):Prop where
 out:∃k v t sz m xs ad c,L.get k=some (.row v t sz m xs)/\a=some ad/\v=.slice (some ad) m c/\j+cs.length<=xs.length/\(∀u∈cs,u.oneCell'=true) /\
  K (L.set k (.row v t sz m (bU xs j cs)))
def Loc.sub (L:Loc):List Nat->Option (List Own)
 | []=>some []
 | k::ks=>match L.get k,Loc.sub L ks with
  | some o,some l=>some (o::l)
  | _,_=>none
def Loc.aae (L:Loc):List Nat->Loc
 | []=>L
 | k::ks=>Loc.aae (L.del k) ks
def Loc.puts (L:Loc):List Nat->List Own->Loc
 | k::ks,o::l=>Loc.puts (L.set k o) ks l
 | _,_=>L
structure dY (P:Program) (f:Nat) (args:List Value) (F:aA) (L:Loc) (K:aA->Loc->Value->Prop):Prop where
 out:∃(ks ko:List Nat) (Lin:List Own) (R:aA->List Own->Value->Prop),L.sub ks=some Lin/\ks.Nodup/\ko.Nodup/\(∀k,k∈ko->k∈ks\/L.get k=none)/\CallsA P f args.toArray F Lin R /\
  ∀v F' Lo,F.le F'->R F' Lo v->ko.length=Lo.length /\
   (∀k g t cs,k∈ks->L.get k=some (.box g t cs)->∃cs',Loc.get ((L.aae ks).puts ko Lo) k=some (.box g t cs')) /\
   K F' ((L.aae ks).puts ko Lo) v
def Real (F:aA) (L:Loc):Prop:=∃w,St F L w
inductive dO (P:Program) (f:Nat) (args:List Value) (F:aA) (L:Loc) (d:Option Nat) (K:aA->Loc->Value->Prop):Prop
 | frz (R:aA->List Own->Value->Prop) (h:CallsA P f args.toArray F [] R) (k:∀v F' Lo,F.le F'->R F' Lo v->Lo=[]/\(Real F' L->K F' L v))
 | own (R:aA->List Own->Value->Prop) (k:Nat) (h:CallsA P f args.toArray F [] R) (hd:d=some k) (hk:L.get k=none)
   (kk:∀v F' Lo,F.le F'->R F' Lo v->∃o,Lo=[o]/\(Real F' (L.set k o)->K F' (L.set k o) v))
 | row (R:aA->List Own->Value->Prop) (kr:Nat) (rv:Value) (t:TypeId) (sz n:Nat) (xs:List Value) (h:CallsA P f args.toArray F [.row rv t sz n xs] R) (hk:L.get kr=some (.row rv t sz n xs))
   (kk:∀v F' Lo,F.le F'->R F' Lo v->Lo=[]/\(Real F' (L.set kr (.row (.slice none 0 0) t sz 0 []))->K F' (L.set kr (.row (.slice none 0 0) t sz 0 [])) v))
 | lent (R:aA->Value->Prop) (kr:Nat) (rv:Value) (t:TypeId) (sz n:Nat) (xs:List Value) (h:CallsA P f args.toArray F [.row rv t sz n xs] (fun F' Lo v=>Lo=[.row rv t sz n xs]/\R F' v)) (hk:L.get kr=some (.row rv t sz n xs))
   (kk:∀v F',F.le F'->R F' v->Real F' L->K F' L v)
structure Gl (F:aA) (L:Loc) (e:TypeId) (sz bytes:Nat) (s x:Value) (K:Loc->Value->Prop):Prop where
 out:∃(kd:Nat) (n:Nat) (xs:List Value) (m:Nat) (news:List Value),
  (L.get kd=some (.row s e sz n xs)\/(L.get kd=none/\n=0/\xs=[]/\s=.slice none 0 0)\/(L.get kd=none/\∃ad,s=.slice (some ad) n n/\0<m/\xs.length=n*sz/\(dL F (some ad) 0 xs\/(n=0/\xs=[])))) /\
  (∃a c,x=.slice a m c/\news.length=m*sz/\(dL F a 0 news\/(m=0/\news=[]) \/
    ∃k v t sz' m' ys ad c',L.get k=some (.row v t sz' m' ys)/\a=some ad/\v=.slice (some ad) m' c'/\∀(i:Nat) (u:Value),news[i]?=some u->ys[i]?=some u)) /\
  (∀u∈news,u.oneCell'=true)/\n+m<=maxLen/\(n+m)*bytes<=140737488355328 /\
  ∀v,(∃a c,v=.slice a (n+m) c/\(a=none->n+m=0))->K (L.set kd (.row v e sz (n+m) (xs++news))) v
structure pX (F:aA) (L:Loc) (d:Option Nat) (e:TypeId) (sz bytes:Nat) (s x:Value) (K:Loc->Value->Prop):Prop where
 out:∃(kd:Nat) (n:Nat) (xs:List Value) (m:Nat) (news:List Value),
  (L.get kd=some (.row s e sz n xs)\/(d=some kd/\L.get kd=none/\n=0/\xs=[]/\s=.slice none 0 0) \/
   (d=some kd/\L.get kd=none/\∃ad,s=.slice (some ad) n n/\0<m/\xs.length=n*sz/\(dL F (some ad) 0 xs\/(n=0/\xs=[])))) /\
  (∃a c,x=.slice a m c/\news.length=m*sz/\(dL F a 0 news\/(m=0/\news=[]))) /\
  (∀u∈news,u.oneCell'=true)/\n+m<=maxLen/\(n+m)*bytes<=140737488355328 /\
  ∀v,(∃a c,v=.slice a (n+m) c/\(a=none->n+m=0))->Real F (L.set kd (.row v e sz (n+m) (xs++news)))->K (L.set kd (.row v e sz (n+m) (xs++news))) v
structure VU (L:Loc) (e:TypeId) (s:Value) (t:ByteArray) (K:Loc->Value->Prop):Prop where
 out:∃(kd:Nat) (n:Nat) (xs:List Value),
  (L.get kd=some (.row s e 1 n xs)\/(L.get kd=none/\n=0/\xs=[]/\s=.slice none 0 0)) /\
  n+t.size<=maxLen/\(n+t.size)<=140737488355328 /\
  ∀v,(∃a c,v=.slice a (n+t.size) c/\(a=none->n+t.size=0))->K (L.set kd (.row v e 1 (n+t.size) (xs++t.data.toList.map fun b=>Value.int .u8 b.toNat))) v
structure VW (L:Loc) (e:TypeId) (bytes:Nat) (ki:IntKind) (s:Value) (m:Nat) (K:Loc->Value->Prop):Prop where
 out:∃(kd:Nat) (n:Nat) (xs:List Value),
  (L.get kd=some (.row s e 1 n xs)\/(L.get kd=none/\n=0/\xs=[]/\s=.slice none 0 0)) /\
  n+m<=maxLen/\(n+m)*bytes<=140737488355328 /\
  ∀v,(∃a c,v=.slice a (n+m) c/\(a=none->n+m=0))->K (L.set kd (.row v e 1 (n+m) (xs++List.replicate m (.int ki 0)))) v
structure VX (F:aA) (L:Loc) (e:TypeId) (sz:Nat) (d x:Value) (K:Loc->Nat->Prop):Prop where
 out:(∃(k n:Nat) (v:Value) (nr:Nat) (xs:List Value) (ad:Addr) (cr cd j m:Nat) (a:Option Addr) (c:Nat) (news:List Value),
  L.get k=some (.row v e sz nr xs)/\v=.slice (some ad) nr cr/\d=.slice (some (ad.add (j*sz))) n cd/\j+n<=nr /\
  x=.slice a m c/\news.length=(min m n)*sz/\(dL F a 0 news\/(min m n=0/\news=[]))/\(∀u∈news,u.oneCell'=true) /\
  K (L.set k (.row v e sz nr (bU xs (j*sz) news))) (min m n)) \/
  ∃(da:Option Addr) (n cd:Nat) (a:Option Addr) (m c:Nat),d=.slice da n cd/\x=.slice a m c/\min m n=0/\K L 0
structure Vz (L:Loc) (e:TypeId) (d:Value) (t:ByteArray) (K:Loc->Nat->Prop):Prop where
 out:∃(k n:Nat) (v:Value) (nr:Nat) (xs:List Value) (ad:Addr) (cr cd j:Nat),
  L.get k=some (.row v e 1 nr xs)/\v=.slice (some ad) nr cr/\d=.slice (some (ad.add j)) n cd/\j+n<=nr /\
  K (L.set k (.row v e 1 nr (bU xs j ((t.data.toList.take n).map fun b=>Value.int .u8 b.toNat)))) (min t.size n)
structure MY (cs:List Value) (K:List UInt8->Prop):Prop where
 out:∃bs:List UInt8,cs=bs.map (fun b=>Value.int .u8 b.toNat)/\K bs
structure Za (L:Loc) (a:Option Addr) (n:Nat) (K:List UInt8->Prop):Prop where
 out:∃k t c,∃bs:List UInt8,L.get k=some (.row (.slice a n c) t 1 n (bs.map (fun b=>Value.int .u8 b.toNat)))/\bs.length=n/\(a=none->n=0)/\K bs
def lC:List Value->Bool
 | .tuple _::_=>false
 | _=>true
def fj:Bool->Value->Value->Option Bool
 | false,.int .i64 a,.int .i64 b=>some (decide (a=b))
 | true,.string a,.string b=>some (decide (a.data.toList=b.data.toList))
 | _,_,_=>none
def lW (str:Bool) (key:Value):List Value->Nat->Option (Option (Nat×Value))
 | [],_=>some none
 | .agg ⟨[k,v]⟩::l,i=>match fj str key k with
  | some true=>some (some (i,v))
  | some false=>lW str key l (i+1)
  | none=>none
 | _::_,_=>none
def xq (str:Bool) (key val:Value):List Value->Option (List Value)
 | []=>some [.agg #[key,val]]
 | .agg ⟨[k,v]⟩::l=>match fj str key k with
  | some true=>some (.agg #[key,val]::l)
  | some false=>match xq str key val l with | some l'=>some (.agg #[k,v]::l') | none=>none
  | none=>none
 | _::_=>none
structure Df (L:Loc) (g:Nat) (K:Nat->List Value->Prop):Prop where
 out:∃k cs,L.get k=some (.box g 0 cs)/\lC cs=true/\K k cs
structure Gm (str:Bool) (cs:List Value) (key:Value) (ok:Bool) (z:Value) (K:Value->Prop):Prop where
 out:(∃i v,lW str key cs 0=some (some (i,v))/\K (match ok with | true=>.tuple #[v,.bool true] | false=>v))\/(lW str key cs 0=some none/\K (match ok with | true=>.tuple #[z,.bool false] | false=>z))
structure Rq (str:Bool) (cs:List Value) (key val:Value) (K:List Value->Prop):Prop where
 isKey:fj str key key=some true
 out:∃cs',xq str key val cs=some cs'/\K cs'
structure JD (L:Loc) (k gi g n:Nat) (seen:List Value) (K:Loc->Value->Prop):Prop where
 out:∃km cs,L.get km=some (.box g 0 cs)/\lC cs=true/\cs.length=n/\(∀j e,cs[j]?=some e->j∉seen.map iW->K (L.set k (.box gi 0 (.tuple #[.map (some g),.int .i64 n]::(seen++[.int .i64 j])))) (.tuple #[.bool true,(f9 e j).key,(f9 e j).val])) /\
  ((∀j,j<n->j∈seen.map iW)->K L (.tuple #[.bool false]))
structure Gn (L:Loc) (g n:Nat) (seen:List Value) (K:Value->Prop):Prop where
 out:∃km cs j e,L.get km=some (.box g 0 cs)/\lC cs=true/\cs.length=n/\seen.getLast?=some (.int .i64 (.ofNat j))/\cs[j]?=some e/\K (.tuple #[(f9 e j).key,(f9 e j).val])
structure VY (F:aA) (mv:Value) (n:Int) (K:Int->Bool->Prop):Prop where
 out:∃k r b,gX k F mv/\MW k n=some (r,b)/\K r b
structure nk (n c:Int) (bytes:Nat) (K:Nat->Prop):Prop where
 lo:0<=n
 le:n<=c
 hi:c.toNat*bytes<=140737488355328
 max:c.toNat<=maxLen
 out:K n.toNat
structure Qs (l h:Int) (c:Nat) (K:Nat->Nat->Prop):Prop where
 lo:0<=l
 le:l<=h
 hi:h<=c
 out:K l.toNat h.toNat
abbrev zP:Bool->Prop->Prop->Prop
 | true,A,_=>A
 | false,_,B=>B
def aO:Value->List Value
 | .agg cs=>cs.toList
 | v=>[v]
def bw (L:Loc) (ρ:Env):List X->List Value
 | []=>[]
 | x::xs=>val L ρ x::bw L ρ xs
def cellsOf (L:Loc) (ρ:Env):List X->List Value
 | []=>[]
 | x::xs=>aO (val L ρ x)++cellsOf L ρ xs
def iy (agg:Bool) (cs:List Value):Value :=
 match agg,cs with
 | true,cs=>.agg cs.toArray
 | false,[v]=>v
 | false,_=>undef
def ig:List Value->Nat->Bool
 | [],0=>true
 | _::l,n+1=>ig l n
 | _,_=>false
def jt (t:TypeId) (l:List Value) (n:Nat):Bool:=match Nat.beq t 0 with | true=>false | false=>ig l n
def ga (L:Loc) (ρ:Env) (sz:Nat):List X->Bool
 | []=>true
 | x::xs=>match ig (aO (val L ρ x)) sz with | true=>ga L ρ sz xs | false=>false
def j9:List Value->Bool
 | []=>true
 | v::l=>match v.oneCell' with | true=>j9 l | false=>false
def tq:Bool->Bool->Bool
 | true,b=>!b
 | false,b=>b
def Qt (a b:ByteArray):Bool:=decide (a.data.toList=b.data.toList)
def Qu (a b:ByteArray):Bool:=Op.bytesLess a.data.toList b.data.toList
def built (L:Loc) (ρ:Env):List Value->List (Nat×Nat×X)->Option (List Value)
 | zs,[]=>some zs
 | zs,(off,n,x)::ps=>match ig (aO (val L ρ x)) n with
  | true=>built L ρ (bU zs off (aO (val L ρ x))) ps
  | false=>none
def Qv (mx:Bool):Int->List SV->Option Int
 | a,[]=>some a
 | a,.v (.int _ b)::l=>Qv mx (match mx with | true=>if b>a then b else a | false=>if b<a then b else a) l
 | _,_=>none
def r9 (a:Option Addr) (c l h sz:Nat):Value:=.slice (if c=l then a else a.map (·.add (l*sz))) (h-l) (c-l)
def nG (ρ:Env) (d:Int):Option X->Option Int
 | none=>some d
 | some x=>match ev ρ x with | .v (.int _ i)=>some i | _=>none
def lX:Value->Nat
 | .int _ m=>m.toNat
 | _=>0
def tu (b:Nat):Value->Bool
 | .int _ m=>Nat.ble (m.toNat*b) 140737488355328&&Nat.ble m.toNat 9223372036854775807&&decide (0<=m)
 | _=>false
theorem Dg {b:Nat}{v:Value}(h:tu b v=true):∃k m,v=.int k m/\0<=m/\lX v=m.toNat/\m.toNat*b<=140737488355328/\m.toNat<=maxLen:=by
 cases v<;>simp only[tu] at h<;>try (cases h;done)
 rename_i k m;simp only[v5,aaZ] at h;exact⟨k,m,rfl,h.2,rfl,aa9 h.1.1,aa9 h.1.2⟩
theorem HZ {b:Nat}{v:Value}(h:tu b v=true):lX v<=maxLen:=by
 obtain⟨k,m,rfl,_,e,_,a⟩:=Dg h;rw[e];exact a
def binI (op:BinOp) (k:IntKind) (a b:Int) (K:Value->Prop):Prop :=
 match op with
 | .add=>Fit k (a+b) fun n=>K (.int k n)
 | .sub=>Fit k (a-b) fun n=>K (.int k n)
 | .mul=>Fit k (a*b) fun n=>K (.int k n)
 | .quo=>Ro b (Fit k (a.tdiv b) fun n=>K (.int k n))
 | .rem=>Ro b (K (.int k (a.tmod b)))
 | .and=>K (.int k (k.wrap (BitVec.ofInt k.bits a &&& BitVec.ofInt k.bits b).toNat))
 | .or=>K (.int k (k.wrap (BitVec.ofInt k.bits a ||| BitVec.ofInt k.bits b).toNat))
 | .xor=>K (.int k (k.wrap (BitVec.ofInt k.bits a ^^^ BitVec.ofInt k.bits b).toNat))
 | .andNot=>K (.int k (k.wrap (BitVec.ofInt k.bits a &&& ~~~ BitVec.ofInt k.bits b).toNat))
 | .eql=>K (.bool (decide (a=b)))
 | .neq=>K (.bool (!decide (a=b)))
 | .lss=>K (.bool (decide (a<b)))
 | .leq=>K (.bool (decide (a<=b)))
 | .gtr=>K (.bool (decide (b<a)))
 | .geq=>K (.bool (decide (b<=a)))
 | _=>False
def shI (op:BinOp) (k:IntKind) (a b:Int) (K:Value->Prop):Prop :=
 match op with
 | .shl=>0<=b/\Fit k (a*2 ^ (min b.toNat k.bits)) fun n=>K (.int k n)
 | .shr=>0<=b/\K (.int k (a.fdiv (2 ^ (min b.toNat k.bits))))
 | _=>False
def binS (op:BinOp) (a b:ByteArray) (K:Value->Prop):Prop :=
 match op with
 | .add=>((a.size+b.size:Nat):Int)<=IntKind.i64.max/\K (.string (a++b))
 | .eql=>K (.bool (Qt a b))
 | .neq=>K (.bool (!Qt a b))
 | .lss=>K (.bool (Qu a b))
 | .geq=>K (.bool (!Qu a b))
 | _=>False
def pY:IntKind->IntKind->Bool
 | .i64,.i64=>true | .u8,.u8=>true | .u64,.u64=>true | .i32,.i32=>true | .u16,.u16=>true | .u32,.u32=>true | .i8,.i8=>true | .i16,.i16=>true
 | _,_=>false
def JE:BinOp->Bool
 | .shl | .shr=>true
 | _=>false
def je:List Bool->List Value->List Value->Bool->Option Bool
 | [],[],[],c=>some c
 | true::ks,.int k a::l,.int e b::d,c=>match pY k e with | true=>je ks l d (c&&decide (a=b)) | false=>none
 | false::ks,.bool a::l,.bool b::d,c=>je ks l d (c&&decide (a=b))
 | _,_,_,_=>none
def aL (o:dX) (F:aA) (L:Loc) (ρ:Env) (V:SV->Prop):Prop :=
 match o with
 | .mov x=>V (ev ρ x)
 | .pick c a b=>match ev ρ c with
  | .v (.bool true)=>V (ev ρ a)
  | .v (.bool false)=>V (ev ρ b)
  | _=>False
 | .build zs ps=>match built L ρ zs ps with
  | some cs=>V (.v (.agg cs.toArray))
  | none=>False
 | .load agg n x=>match ev ρ x with
  | .own k off=>match L.get k with
   | some (.box _ t cs)=>match jt t ((cs.drop off).take n) n with
    | true=>V (.v (iy agg ((cs.drop off).take n)))
    | false=>False
   | _=>False
  | .el a j=>ku F L a j n fun cs=>V (.v (iy agg cs))
  | .v (.pointer (some a))=>ku F L (some a) 0 n fun cs=>V (.v (iy agg cs))
  | _=>False
 | .loadR agg n x=>match ev ρ x with
  | .own k off=>match L.get k with
   | some (.box _ t cs)=>match jt t ((cs.drop off).take n) n with
    | true=>V (.v (iy agg ((cs.drop off).take n)))
    | false=>False
   | _=>False
  | .el a j=>ku F L a j n fun cs=>V (.v (iy agg cs))
  | .v (.pointer (some a))=>ku F L (some a) 0 n fun cs=>V (.v (iy agg cs))
  | _=>False
 | .nilck x=>match ev ρ x with
  | .own k off=>V (.own k off)
  | .el a j=>a≠none/\V (.el a j)
  | .v (.pointer (some a))=>V (.v (.pointer (some a)))
  | .v (.func (.func f) d e)=>V (.v (.func (.func f) d e))
  | .v (.func (.method p) d e)=>match d.toList with
   | [.iface t u]=>Tq Rn t p=true/\V (.v (.func (.method p) d e))
   | _=>False
  | _=>False
 | .bin op x y=>match ev ρ x,ev ρ y with
  | .v (.int k a),.v (.int w b)=>match JE op with
   | true=>shI op k a b fun v=>V (.v v)
   | false=>match pY k w with
    | true=>binI op k a b fun v=>V (.v v)
    | false=>False
  | .v (.string a),.v (.string b)=>binS op a b fun v=>V (.v v)
  | _,_=>False
 | .eqB neg x y=>match ev ρ x,ev ρ y with
  | .v (.bool a),.v (.bool b)=>V (.v (.bool (tq neg (decide (a=b)))))
  | _,_=>False
 | .eqS neg x y=>match ev ρ x,ev ρ y with
  | .v (.slice a _ _),.v (.slice none _ _)=>V (.v (.bool (tq neg a.isNone)))
  | _,_=>False
 | .eqN neg x=>match ev ρ x with
  | .v .nilIface=>V (.v (.bool (tq neg true)))
  | .v (.iface _ _)=>V (.v (.bool (tq neg false)))
  | _=>False
 | .tas t z x=>match ev ρ x with
  | .v .nilIface=>V (.v (.tuple #[z,.bool false]))
  | .v (.iface q u)=>match Nat.beq q t with
   | true=>V (.v (.tuple #[u,.bool true]))
   | false=>V (.v (.tuple #[z,.bool false]))
  | _=>False
 | .eqA neg ks x y=>match ev ρ x,ev ρ y with
  | .v (.agg cs),.v (.agg ds)=>match je ks cs.toList ds.toList true with
   | some b=>V (.v (.bool (tq neg b)))
   | none=>False
  | _,_=>False
 | .un op x=>match op,ev ρ x with
  | .not,.v (.bool b)=>V (.v (.bool (!b)))
  | .neg,.v (.int k n)=>Fit k (0-n) fun m=>V (.v (.int k m))
  | .xor,.v (.int k n)=>V (.v (.int k (k.wrap (BitVec.ofInt k.bits (if k.signed then -1 else k.max) ^^^ BitVec.ofInt k.bits n).toNat)))
  | _,_=>False
 | .conv k x=>match ev ρ x with
  | .v (.int _ n)=>Fit k n fun m=>V (.v (.int k m))
  | _=>False
 | .mkfn f d e=>V (.v (.func (.func f) (bw L ρ d).toArray (bw L ρ e).toArray))
 | .slc sz x lo hi=>match ev ρ x with
  | .v (.slice a n c)=>match nG ρ 0 lo,nG ρ n hi with
   | some l,some h=>Qs l h c fun l h=>V (.v (r9 a c l h sz))
   | _,_=>False
  | _=>False
 | .fieldA off x=>match ev ρ x with
  | .own k o=>V (.own k (o+off))
  | .el a j=>V (.el a (j+off))
  | .v (.pointer (some a))=>V (.el (some a) off)
  | _=>False
 | .idxA sz x i=>match ev ρ x,ev ρ i with
  | .v (.slice a n _),.v (.int _ i)=>JC a i n (V (.el a (i.toNat*sz)))
  | _,_=>False
 | .extr x i=>match ev ρ x with
  | .v (.tuple s)=>match s.toList[i]? with
   | some v=>V (.v v)
   | none=>False
  | _=>False
 | .len x=>match ev ρ x with
  | .v (.slice _ n _)=>V (.v (.int .i64 n))
  | _=>False
 | .mm mx args=>match args.map (ev ρ) with
  | .v (.int k a)::l=>match Qv mx a l with
   | some m=>V (.v (.int k m))
   | none=>False
  | _=>False
 | .loadD agg n x=>match ev ρ x with
  | .own k off=>match L.get k with
   | some (.box _ t cs)=>match jt t ((cs.drop off).take n) n with
    | true=>V (.v (iy agg ((cs.drop off).take n)))
    | false=>False
   | _=>False
  | .el a j=>jm F a j n fun cs=>V (.v (iy agg cs))
  | .v (.pointer (some a))=>jm F (some a) 0 n fun cs=>V (.v (iy agg cs))
  | _=>False
 | .gload g=>Tr F g fun v=>V (.v v)
 | .loadF agg n x=>match ev ρ x with
  | .el a j=>jm F a j n fun cs=>V (.v (iy agg cs))
  | .v (.pointer (some a))=>jm F (some a) 0 n fun cs=>V (.v (iy agg cs))
  | _=>False
 | .mkif t x=>match ev ρ x with
  | .v v=>V (.v (.iface t v))
  | .el (some r) j=>V (.v (.iface t (.pointer (some (r.add j)))))
  | _=>False
 | .mlook str ok z x i=>match ev ρ x with
  | .v (.map (some g))=>Df L g fun _ cs=>Gm str cs (val L ρ i) ok z fun v=>V (.v v)
  | _=>False
 | .loadK key agg n x=>match ev ρ x with
  | .own k off=>match Nat.beq k key with
   | true=>match L.get k with
    | some (.box _ t cs)=>match jt t ((cs.drop off).take n) n with
     | true=>V (.v (iy agg ((cs.drop off).take n)))
     | false=>False
    | _=>False
   | false=>False
  | _=>False
 | _=>False
def evalOp (P:Program) (o:dX) (d:Option Nat) (F:aA) (L:Loc) (ρ:Env) (K:dG):Prop :=
 match o with
 | .mov x=>aL (.mov x) F L ρ fun v=>K F L (put d v ρ)
 | .pick c a b=>aL (.pick c a b) F L ρ fun v=>K F L (put d v ρ)
 | .box t x=>match d with
  | some k=>match L.get k with
   | none=>∀g,K F (L.set k (.box g t (aO (val L ρ x)))) (put d (.own k 0) ρ)
   | some _=>False
  | none=>False
 | .boxF t x=>∀g F',F.le F'->F' g=some (.cells (aO (val L ρ x)).toArray t (0,0))->K F' L (put d (.v (.pointer (some ⟨g,0,none⟩))) ρ)
 | .alloc t zs=>match d with
  | some k=>match L.get k with
   | none=>∀g,K F (L.set k (.box g t zs)) (put d (.own k 0) ρ)
   | some _=>False
  | none=>False
 | .mkF e n sz xs=>match ga L ρ sz xs with
  | true=>∀g F',F.le F'->F' g=some (.cells (cellsOf L ρ xs).toArray e (0,0))->K F' L (put d (.v (.slice (some ⟨g,0,none⟩) n n)) ρ)
  | false=>False
 | .mkR e n sz xs=>match ga L ρ sz xs,d with
  | true,some k=>match L.get k with
   | none=>∀g,K F (L.set k (.row (.slice (some ⟨g,0,none⟩) n n) e sz n (cellsOf L ρ xs))) (put d (.v (.slice (some ⟨g,0,none⟩) n n)) ρ)
   | some _=>False
  | _,_=>False
 | .build zs ps=>aL (.build zs ps) F L ρ fun v=>K F L (put d v ρ)
 | .load agg n x=>aL (.load agg n x) F L ρ fun v=>K F L (put d v ρ)
 | .store n a x=>match ig (aO (val L ρ x)) n,j9 (aO (val L ρ x)),ev ρ a with
  | true,true,.own k off=>match L.get k with
   | some (.box g t cs)=>match jt t ((cs.drop off).take n) n with
    | true=>K F (L.set k (.box g t (bU cs off (aO (val L ρ x))))) (put d (.v undef) ρ)
    | false=>False
   | _=>False
  | true,true,.el q j=>qU L q j (aO (val L ρ x)) fun L'=>K F L' (put d (.v undef) ρ)
  | true,true,.v (.pointer (some q))=>qU L (some q) 0 (aO (val L ρ x)) fun L'=>K F L' (put d (.v undef) ρ)
  | _,_,_=>False
 | .nilck x=>aL (.nilck x) F L ρ fun v=>K F L (put d v ρ)
 | .mkif t x=>aL (.mkif t x) F L ρ fun v=>K F L (put d v ρ)
 | .pan _=>False
 | .dead=>False
 | .bin op x y=>aL (.bin op x y) F L ρ fun v=>K F L (put d v ρ)
 | .eqB neg x y=>aL (.eqB neg x y) F L ρ fun v=>K F L (put d v ρ)
 | .eqS neg x y=>aL (.eqS neg x y) F L ρ fun v=>K F L (put d v ρ)
 | .eqN neg x=>aL (.eqN neg x) F L ρ fun v=>K F L (put d v ρ)
 | .tas t z x=>aL (.tas t z x) F L ρ fun v=>K F L (put d v ρ)
 | .eqA neg ks x y=>aL (.eqA neg ks x y) F L ρ fun v=>K F L (put d v ρ)
 | .un op x=>aL (.un op x) F L ρ fun v=>K F L (put d v ρ)
 | .conv k x=>aL (.conv k x) F L ρ fun v=>K F L (put d v ρ)
 | .mkfn f p r=>aL (.mkfn f p r) F L ρ fun v=>K F L (put d v ρ)
 | .makeS e sz bytes zs l c=>match ev ρ l,ev ρ c,d with
  | .v (.int _ n),.v (.int _ m),some k=>match L.get k with
   | none=>nk n m bytes fun n=>∀g,K F (L.set k (.row (.slice (some ⟨g,0,none⟩) n m.toNat) e sz n (List.replicate n zs).flatten)) (put d (.v (.slice (some ⟨g,0,none⟩) n m.toNat)) ρ)
   | some _=>False
  | _,_,_=>False
 | .slc sz x lo hi=>aL (.slc sz x lo hi) F L ρ fun v=>K F L (put d v ρ)
 | .fieldA off x=>aL (.fieldA off x) F L ρ fun v=>K F L (put d v ρ)
 | .idxA sz x i=>aL (.idxA sz x i) F L ρ fun v=>K F L (put d v ρ)
 | .extr x i=>aL (.extr x i) F L ρ fun v=>K F L (put d v ρ)
 | .call f args=>dY P f (bw L ρ args) F L fun F' L' v=>K F' L' (put d (.v v) ρ)
 | .callV f args=>match rZ P (ev ρ f) with
  | some (f,p,r)=>dY P f (p++bw L ρ args++r) F L fun F' L' v=>K F' L' (put d (.v v) ρ)
  | none=>match Ao P (ev ρ f) (bw L ρ args) with
   | some (f,args)=>dY P f args F L fun F' L' v=>K F' L' (put d (.v v) ρ)
   | none=>False
 | .gload g=>aL (.gload g) F L ρ fun v=>K F L (put d v ρ)
 | .mkmap=>match d with
  | some k=>match L.get k with
   | none=>∀g,K F (L.set k (.box g 0 [])) (put d (.v (.map (some g))) ρ)
   | some _=>False
  | none=>False
 | .mlook str ok z x i=>aL (.mlook str ok z x i) F L ρ fun v=>K F L (put d v ρ)
 | .mupd str x i v=>match ev ρ x with
  | .v (.map (some g))=>Df L g fun k cs=>Rq str cs (val L ρ i) (val L ρ v) fun cs'=>K F (L.set k (.box g 0 cs')) (put d (.v undef) ρ)
  | _=>False
 | .mrange x=>match ev ρ x,d with
  | .v (.map (some g)),some k=>match L.get k with
   | none=>Df L g fun _ cs=>∀w,K F (L.set k (.box w 0 [.tuple #[.map (some g),.int .i64 cs.length]])) (put d (.own k 0) ρ)
   | some _=>False
  | _,_=>False
 | .mnext x=>match ev ρ x with
  | .own k 0=>match L.get k with
   | some (.box w 0 (.tuple ⟨[.map (some g),.int .i64 (.ofNat n)]⟩::h))=>JD L k w g n h fun L' v=>K F L' (put d (.v v) ρ)
   | _=>False
  | _=>False
 | .mentry x=>match ev ρ x with
  | .own k 0=>match L.get k with
   | some (.box w 0 (.tuple ⟨[.map (some g),.int .i64 (.ofNat n)]⟩::h))=>Gn L g n h fun v=>K F L (put d (.v v) ρ)
   | _=>False
  | _=>False
 | .len x=>aL (.len x) F L ρ fun v=>K F L (put d v ρ)
 | .mm mx args=>aL (.mm mx args) F L ρ fun v=>K F L (put d v ρ)
 | .app e sz bytes _ s x=>match ev ρ s,ev ρ x with
  | .v sv,.v u=>Gl F L e sz bytes sv u fun L1 v=>K F L1 (put d (.v v) ρ)
  | _,_=>False
 | .appX e sz bytes _ s x=>match ev ρ s,ev ρ x with
  | .v sv,.v u=>Gl F L e sz bytes sv u fun L1 v=>Real F L1->K F L1 (put d (.v v) ρ)
  | _,_=>False
 | .appD e sz bytes _ s x=>match ev ρ s,ev ρ x with
  | .v sv,.v u=>pX F L d e sz bytes sv u fun L1 v=>K F L1 (put d (.v v) ρ)
  | _,_=>False
 | .storeD n a x=>match ig (aO (val L ρ x)) n,j9 (aO (val L ρ x)),ev ρ a with
  | true,true,.own k off=>match L.get k with
   | some (.box g t cs)=>match jt t ((cs.drop off).take n) n with
    | true=>K F (L.set k (.box g t (bU cs off (aO (val L ρ x))))) (put d (.v undef) ρ)
    | false=>False
   | _=>False
  | _,_,_=>False
 | .storeK key n a x=>match ig (aO (val L ρ x)) n,j9 (aO (val L ρ x)),ev ρ a with
  | true,true,.own k off=>match Nat.beq k key with
   | true=>match L.get k with
    | some (.box g t cs)=>match jt t ((cs.drop off).take n) n with
     | true=>K F (L.set k (.box g t (bU cs off (aO (val L ρ x))))) (put d (.v undef) ρ)
     | false=>False
    | _=>False
   | false=>False
  | _,_,_=>False
 | .loadD agg n x=>aL (.loadD agg n x) F L ρ fun v=>K F L (put d v ρ)
 | .loadF agg n x=>aL (.loadF agg n x) F L ρ fun v=>K F L (put d v ρ)
 | .loadR agg n x=>aL (.loadR agg n x) F L ρ fun v=>K F L (put d v ρ)
 | .loadK key agg n x=>aL (.loadK key agg n x) F L ρ fun v=>K F L (put d v ρ)
 | .makeSD e sz n zs=>match d with
  | some k=>match L.get k,ig zs sz,Nat.ble n 9223372036854775807 with
   | none,true,true=>∀g,Real F (L.set k (.row (.slice (some ⟨g,0,none⟩) n n) e sz n (List.replicate n zs).flatten))->K F (L.set k (.row (.slice (some ⟨g,0,none⟩) n n) e sz n (List.replicate n zs).flatten)) (put d (.v (.slice (some ⟨g,0,none⟩) n n)) ρ)
   | _,_,_=>False
  | none=>False
 | .makeSV e sz b zs x=>match d with
  | some k=>match L.get k,ig zs sz,tu b (val L ρ x) with
   | none,true,true=>∀g,Real F (L.set k (.row (.slice (some ⟨g,0,none⟩) (lX (val L ρ x)) (lX (val L ρ x))) e sz (lX (val L ρ x)) (List.replicate (lX (val L ρ x)) zs).flatten))->K F (L.set k (.row (.slice (some ⟨g,0,none⟩) (lX (val L ρ x)) (lX (val L ρ x))) e sz (lX (val L ρ x)) (List.replicate (lX (val L ρ x)) zs).flatten)) (put d (.v (.slice (some ⟨g,0,none⟩) (lX (val L ρ x)) (lX (val L ρ x)))) ρ)
   | _,_,_=>False
  | none=>False
 | .storeX n a x=>match ig (aO (val L ρ x)) n,j9 (aO (val L ρ x)),ev ρ a with
  | true,true,.own k off=>match L.get k with
   | some (.box g t cs)=>match jt t ((cs.drop off).take n) n with
    | true=>Real F (L.set k (.box g t (bU cs off (aO (val L ρ x)))))->K F (L.set k (.box g t (bU cs off (aO (val L ρ x))))) (put d (.v undef) ρ)
    | false=>False
   | _=>False
  | true,true,.el q j=>qU L q j (aO (val L ρ x)) fun L'=>Real F L'->K F L' (put d (.v undef) ρ)
  | true,true,.v (.pointer (some q))=>qU L (some q) 0 (aO (val L ρ x)) fun L'=>Real F L'->K F L' (put d (.v undef) ρ)
  | _,_,_=>False
 | .boxD t x=>match d with
  | some k=>match L.get k with
   | none=>∀g,Real F (L.set k (.box g t (aO (val L ρ x))))->K F (L.set k (.box g t (aO (val L ρ x)))) (put d (.own k 0) ρ)
   | some _=>False
  | none=>False
 | .allocD t zs=>match d with
  | some k=>match L.get k with
   | none=>∀g,Real F (L.set k (.box g t zs))->K F (L.set k (.box g t zs)) (put d (.own k 0) ρ)
   | some _=>False
  | none=>False
 | .mkFD e n sz xs=>match ga L ρ sz xs with
  | true=>∀g F',F.le F'->F' g=some (.cells (cellsOf L ρ xs).toArray e (0,0))->Real F' L->K F' L (put d (.v (.slice (some ⟨g,0,none⟩) n n)) ρ)
  | false=>False
 | .callD f args=>dO P f (bw L ρ args) F L d fun F' L' v=>K F' L' (put d (.v v) ρ)
 | .callVD f args=>match rZ P (ev ρ f) with
  | some (f,p,r)=>dO P f (p++bw L ρ args++r) F L d fun F' L' v=>K F' L' (put d (.v v) ρ)
  | none=>False
 | .callO f args=>dY P f (bw L ρ args) F L fun F' L' v=>Real F' L'->K F' L' (put d (.v v) ρ)
 | .callVO f args=>match rZ P (ev ρ f) with
  | some (f,p,r)=>dY P f (p++bw L ρ args++r) F L fun F' L' v=>Real F' L'->K F' L' (put d (.v v) ρ)
  | none=>False
def Rs (F:aA) (v:Value) (sz n:Nat) (xs:List Value):Prop :=
 (v=.slice none 0 0/\n=0/\xs=[])\/∃a c,v=.slice (some a) n c/\dL F (some a) 0 xs/\n<=c
structure Qw (F:aA) (L:Loc) (k:Nat) (K:aA->Loc->Prop):Prop where
 out:∃v t sz n xs,L.get k=some (.row v t sz n xs)/\∀F',F.le F'->Rs F' v sz n xs->K F' (L.del k)
inductive ak where
 | op (dst:Option Nat) (o:dX) (guard:Option (Nat×Bool))
 | frz (k:Nat)
 | pc (dst:Option Nat) (o:dX) (guard:Option (Nat×Bool))
 deriving Inhabited
def xu (k g:Nat) (ρ:Env):Env:=fun j=>match ρ j with
 | .own b off=>match Nat.beq b k with | true=>.v (.pointer (some ⟨g,off,none⟩)) | false=>.own b off
 | .v x=>.v x
 | .el a i=>.el a i
def aT (P:Program):List ak->aA->Loc->Env->dG->Prop
 | [],F,L,ρ,K=>K F L ρ
 | .op d o none::a,F,L,ρ,K=>evalOp P o d F L ρ fun F' L' ρ'=>aT P a F' L' ρ' K
 | .op d o (some (s,c))::a,F,L,ρ,K=>match ρ s with
  | .v (.bool b)=>zP b
    (match c with
     | true=>evalOp P o d F L (put (some s) (.v (.bool true)) ρ) fun F' L' ρ'=>aT P a F' L' ρ' K
     | false=>aT P a F L (put d (.v undef) (put (some s) (.v (.bool true)) ρ)) K)
    (match c with
     | false=>evalOp P o d F L (put (some s) (.v (.bool false)) ρ) fun F' L' ρ'=>aT P a F' L' ρ' K
     | true=>aT P a F L (put d (.v undef) (put (some s) (.v (.bool false)) ρ)) K)
  | .v (.tuple _)=>aT P a F L (put d (.v undef) ρ) K
  | _=>False
 | .frz k::a,F,L,ρ,K=>match L.get k with
  | some (.box g t cs)=>∀F',F.le F'->F' g=some (nj t cs)->aT P a F' (L.del k) (xu k g ρ) K
  | _=>Qw F L k fun F' L'=>aT P a F' L' ρ K
 | .pc _ _ _::_,_,_,_,_=>False
inductive au where
 | skip
 | reg (ops:List ak)
 | regD (ops:List ak)
 | regX (ops:List ak)
 | seq (a b:au)
 | cond (c:X) (a b:au)
 | block (id:Nat) (c:au)
 | loop (asg:List Nat) (c:au)
 | exit (id:Nat)
 | ret
 deriving Inhabited
def fC:List Nat->Nat->Bool
 | [],_=>false
 | j::l,k=>match Nat.beq j k with | true=>true | false=>fC l k
def Loc.keeps:Loc->Loc->Prop
 | [],_=>True
 | (k,.box g t _)::l,L'=>(∃cs,L'.get k=some (.box g t cs))/\Loc.keeps l L'
 | (_,.row ..)::l,L'=>Loc.keeps l L'
structure JF (F:aA) (L:Loc) (v:Value) (R:aA->List Own->Value->Prop):Prop where
 out:∃ko Lo,L.sub ko=some Lo/\ko.Nodup/\R F Lo v
abbrev RV:=Nat×Option (Bool×Nat)
def nH (L:Loc) (ρ:Env):List RV->(List Value->Prop)->Prop
 | [],K=>K []
 | (t,none)::l,K=>nH L ρ l fun a=>K (conc L (ρ t)::a)
 | (t,some (agg,n))::l,K=>match ρ t with
  | .own k off=>match L.get k with
   | some (.box _ ty cs)=>match jt ty ((cs.drop off).take n) n with
    | true=>nH L ρ l fun a=>K (iy agg ((cs.drop off).take n)::a)
    | false=>False
   | _=>False
  | _=>False
def gb:List Value->Value
 | [v]=>v
 | l=>.tuple l.toArray
def Dh:Nat->List SV->Env
 | _,[]=>fun _=>.v undef
 | k,v::l=>put (some k) v (Dh (k+1) l)
def Loc.gives (L:Loc):Loc->Prop
 | []=>True
 | (k,o)::l=>(L.get k=some o\/(L.get k=none/\∃t sz,o=.row (.slice none 0 0) t sz 0 []))/\Loc.gives L l
def qa (asg:List Nat) (a:Nat->Value) (ρ:Env):Env:=fun j=>match fC asg j with | true=>.v (a j) | false=>ρ j
def puts:List Nat->List SV->Env->Env
 | k::ks,v::a,ρ=>put (some k) v (puts ks a ρ)
 | _,_,ρ=>ρ
def holds:List Nat->List SV->Env->Prop
 | k::ks,v::a,ρ=>ρ k=v/\holds ks a ρ
 | _,_,_=>True
structure JG (body:aA->Loc->Env->dG->Prop) (asg:List Nat) (F:aA) (L:Loc) (ρ:Env):Prop where
 out:∃(σ:Type) (x0:σ) (Inv:σ->aA->Prop) (ls:List Nat) (lv:σ->List Value) (Lf:σ->Loc) (μ:σ->Nat),
  Inv x0 F/\holds ls ((lv x0).map .v) ρ/\L.gives (Lf x0)/\(∀x,L.keeps (Lf x)) /\
  ∀x F' jk,F.le F'->Inv x F'->body F' (Lf x) (puts ls ((lv x).map .v) (qa asg jk ρ)) fun F'' L'' ρ'' =>
   ∃x',Inv x' F''/\holds ls ((lv x').map .v) ρ''/\L''.gives (Lf x')/\μ x'<μ x
def jz (P:Program):au->(Nat->dG)->dG->dG->dG
 | .skip,_,_,N,F,L,ρ=>N F L ρ
 | .reg d,_,_,N,F,L,ρ=>aT P d F L ρ N
 | .regD d,_,_,N,F,L,ρ=>aT P d F L ρ N
 | .regX _,_,_,_,_,_,_=>False
 | .seq a b,E,R,N,F,L,ρ=>jz P a E R (fun F L ρ=>jz P b E R N F L ρ) F L ρ
 | .cond c a b,E,R,N,F,L,ρ=>match ev ρ c with
  | .v (.bool t)=>zP t (jz P a E R N F L ρ) (jz P b E R N F L ρ)
  | _=>False
 | .block id c,E,R,N,F,L,ρ=>jz P c (fun j=>match Nat.beq j id with | true=>N | false=>E j) R N F L ρ
 | .loop asg c,E,R,_,F,L,ρ=>JG (fun F L ρ K=>jz P c E R K F L ρ) asg F L ρ
 | .exit id,E,_,_,F,L,ρ=>E id F L ρ
 | .ret,_,R,_,F,L,ρ=>R F L ρ
theorem gF {a b:Nat}(h:Nat.beq a b=false):a≠b:=by intro e;subst e;simp at h
theorem Loc.aac (L:Loc) (k:Nat) (o:Own) (j:Nat):(L.set k o).get j=if j=k then some o else L.get j:=by
 induction L with
 | nil =>
  simp only[Loc.set,Loc.get];cases h:Nat.beq k j with
  | true=>have:=aaQ h;simp[this]
  | false=>have:=gF h;simp;omega
 | cons p l b =>
  obtain⟨i,q⟩:=p;simp only[Loc.set];cases h:Nat.beq i k with
  | true =>
   have e:=aaQ h;subst e;simp only[Loc.get];cases a:Nat.beq i j with
   | true=>have:=aaQ a;simp[this]
   | false=>have:=gF a;simp;omega
  | false =>
   have c:=gF h;simp only[];cases d:Nat.ble i k with
   | true =>
    simp only[Loc.get];cases a:Nat.beq i j with
    | true=>have:=aaQ a;simp;omega
    | false=>simpa using b
   | false =>
    simp only[Loc.get];cases a:Nat.beq k j with
    | true=>have:=aaQ a;simp[this]
    | false =>
     have:=gF a;simp only[];rw[fo (by omega)]
theorem Loc.aag (L:Loc) (k j:Nat):(L.del k).get j=if j=k then none else L.get j:=by
 induction L with
 | nil=>simp[Loc.del,Loc.get]
 | cons p l c =>
  obtain⟨i,q⟩:=p;simp only[Loc.del];cases h:Nat.beq i k with
  | true =>
   have e:=aaQ h;subst e;simp only[Loc.get,c]
   by_cases a:j=i
   ·simp[a]
   ·have:Nat.beq i j=false:=by cases b:Nat.beq i j with | true=>exact fL (aaQ b).symm a | false=>rfl
    simp[a,this]
  | false =>
   have d:=gF h;simp only[Loc.get];cases b:Nat.beq i j with
   | true=>have:=aaQ b;simp;omega
   | false=>simpa using c
def Loc.part (L L':Loc):Prop:=∀k o,L'.get k=some o->L.get k=some o
theorem St.part {F:aA}{L L':Loc}{w:World}(h:St F L w) (a:L.part L'):St F L' w :=
 ⟨h.frz,fun k o e=>h.own k o (a k o e),fun k o g e=>h.off k o g (a k o e),fun k b o o' g e c=>h.sep k b o o' g (a k o e) (a b o' c),h.glob⟩
theorem Own.aaq {w:World}{o:Own}(h:o.ok w) {g:Nat}(a:o.blk=some g):g<w.heap.size:=by
 cases o with
 | box b t cs =>
  simp only[Own.blk,xo] at a;subst a;exact(Array.getElem?_eq_some_iff.1 h).1
 | row v t sz n xs=>exact(World.ownsRow.lt h g a).2
theorem Own.aau {w w':World}{o:Own}(h:o.ok w) (c:∀g,o.blk=some g->w'.heap[g]?=w.heap[g]?):o.ok w':=by
 cases o with
 | box g t cs=>exact(c g rfl).trans h
 | row v t sz n xs =>
  obtain⟨h1,a⟩:=h;refine⟨h1,?_⟩;rcases a with a | ⟨g,cap,b,rfl,hb,d,r⟩
  ·exact .inl a
  ·exact .inr ⟨g,cap,b,rfl,hb,(c g rfl).trans d,r⟩
theorem St.aax {F:aA}{L:Loc}{w:World}(h:St F L w) {b:Nat}(hb:F b≠none):b<w.heap.size:=by
 cases e:F b with
 | none=>exact fL e hb
 | some o=>exact(Array.getElem?_eq_some_iff.1 (h.frz b o e)).1
theorem St.aaA {F:aA}{L:Loc}{w:World}(h:St F L w) {b:Nat}(hb:L.owns b):b<w.heap.size:=by
 obtain⟨k,o,e,a⟩:=hb;exact Own.aaq (h.own k o e) a
theorem St.keep {F:aA}{L:Loc}{w w':World}(h:St F L w) (a:∀b,b<w.heap.size->w'.heap[b]?=w.heap[b]?):St F L w':=by
 refine⟨fun b o e=>?_,fun k o e=>?_,h.off,h.sep,h.glob⟩
 ·have:=h.frz b o e;rw[a b (Array.getElem?_eq_some_iff.1 this).1];exact this
 ·exact Own.aau (h.own k o e) fun g c=>a g (Own.aaq (h.own k o e) c)
theorem St.drew {F:aA}{L:Loc}{w:World}(h:St F L w):St F L w.drew:=h.keep fun _ _=>rfl
theorem St.put {F:aA}{L:Loc}{w:World}(h:St F L w) {k:Nat}{o:Own}(v:L.get k=none) (s:o.ok w)
  (hf:∀g,o.blk=some g->F g=none/\¬L.owns g):St F (L.set k o) w:=by
 have a:∀j p,(L.set k o).get j=some p->(j=k/\p=o)\/(j≠k/\L.get j=some p):=by
  intro j p e;rw[Loc.aac] at e;split at e
  ·rename_i d;exact .inl ⟨d,by injection e with e;exact e.symm⟩
  ·rename_i d;exact .inr ⟨d,e⟩
 refine⟨h.frz,fun j p e=>?_,fun j p g e c=>?_,fun j m p n g e t c b=>?_,h.glob⟩
 ·rcases a j p e with⟨_,rfl⟩ | ⟨_,e⟩
  ·exact s
  ·exact h.own j p e
 ·rcases a j p e with⟨_,rfl⟩ | ⟨_,e⟩
  ·exact(hf g c).1
  ·exact h.off j p g e c
 ·rcases a j p e with⟨d,u⟩ | ⟨_,r⟩<;>rcases a m n t with⟨l,f⟩ | ⟨_,q⟩
  ·exact d.trans l.symm
  ·subst u;exact fL ⟨m,n,q,b⟩ (hf g c).2
  ·subst f;exact fL ⟨j,p,r,c⟩ (hf g b).2
  ·exact h.sep j m p n g r q c b
theorem St.turn {F:aA}{L:Loc}{w w':World}(h:St F L w) {k:Nat}{o o':Own}(n:L.get k=some o) (y:o'.ok w')
  (v:∀b,b<w.heap.size->o.blk≠some b->w'.heap[b]?=w.heap[b]?) (hb:∀g,o'.blk=some g->o.blk=some g\/w.heap.size<=g):St F (L.set k o') w':=by
 have c:∀j p,(L.set k o').get j=some p->(j=k/\p=o')\/(j≠k/\L.get j=some p):=by
  intro j p e;rw[Loc.aac] at e;split at e
  ·rename_i l;exact .inl ⟨l,by injection e with e;exact e.symm⟩
  ·rename_i l;exact .inr ⟨l,e⟩
 refine⟨fun b p e=>?_,fun j p e=>?_,fun j p g e d=>?_,fun j q p r g e z d f=>?_,h.glob⟩
 ·have:=h.frz b p e;rw[v b (Array.getElem?_eq_some_iff.1 this).1 (fun hb=>by have:=h.off k o b n hb;rw[this] at e;cases e)];exact this
 ·rcases c j p e with⟨_,rfl⟩ | ⟨l,e⟩
  ·exact y
  ·exact Own.aau (h.own j p e) fun g d=>v g (Own.aaq (h.own j p e) d) fun a=>l (h.sep j k p o g e n d a)
 ·rcases c j p e with⟨_,rfl⟩ | ⟨_,e⟩
  ·rcases hb g d with a | x
   ·exact h.off k o g n a
   ·cases hF:F g with
    | none=>rfl
    | some _=>have:=h.aax (b:=g) (by rw[hF];simp);omega
  ·exact h.off j p g e d
 ·rcases c j p e with⟨l,hp⟩ | ⟨l,u⟩<;>rcases c q r z with⟨m,s⟩ | ⟨m,t⟩
  ·exact l.trans m.symm
  ·subst hp;rcases hb g d with a | x
   ·exact fL (h.sep q k r o g t n f a) m
   ·have:=Own.aaq (h.own q r t) f;omega
  ·subst s;rcases hb g f with a | x
   ·exact fL (h.sep j k p o g u n d a) l
   ·have:=Own.aaq (h.own j p u) d;omega
  ·exact h.sep j q p r g u t d f
theorem St.freeze {F:aA}{L:Loc}{w:World}(h:St F L w) {g:Nat}{o:Obj}(c:w.heap[g]?=some o) (d:¬L.owns g) :
  St (fun b=>if b=g then some o else F b) L w:=by
 refine⟨fun b p e=>?_,h.own,fun k p b e hb=>?_,h.sep,s6.mono ?_ h.glob⟩
 ·split at e
  ·rename_i a;subst a;injection e with e;subst e;exact c
  ·exact h.frz b p e
 ·split
  ·rename_i a;subst a;exact fL ⟨k,p,e,hb⟩ d
  ·exact h.off k p b e hb
 ·intro b p e;simp only[];split
  ·rename_i a;subst a;rw[<-h.frz b p e,c]
  ·exact e
theorem aA.aav {F:aA}{w:World}{L:Loc}(h:St F L w) {g:Nat}{o:Obj}(c:w.heap[g]?=some o):F.le (fun b=>if b=g then some o else F b):=by
 intro b p e;simp only[];split
 ·rename_i a;subst a;rw[<-h.frz b p e,c]
 ·exact e
theorem Step.refl (F:aA) (L:Loc) (w:World):Step F L w F L w :=
 ⟨aA.le_refl F,rfl,rfl,rfl,aa0 _,fun _ _ _=>rfl,fun _ h=>.inl h,fun _ h=>.inl h⟩
theorem Step.trans {F F' F'':aA}{L L' L'':Loc}{w w' a:World}(h:Step F L w F' L' w') (k:Step F' L' w' F'' L'' a):Step F L w F'' L'' a:=by
 refine⟨aA.le_trans h.le k.le,k.os.trans h.os,k.tape.trans h.tape,k.output.trans h.output,abv h.size k.size,fun b hb d=>?_,fun b hb=>?_,fun b hb=>?_⟩
 ·rw[k.same b (Nat.lt_of_lt_of_le hb h.size) (fun c=>by rcases h.own b c with c | c;exact d c;omega)];exact h.same b hb d
 ·rcases k.frz b hb with h1 | h1 | h1
  ·exact h.frz b h1
  ·exact .inr (h.own b h1)
  ·exact .inr (.inr (abv h.size h1))
 ·rcases k.own b hb with h1 | h1
  ·exact h.own b h1
  ·exact .inr (abv h.size h1)
theorem Step.mk' {F F':aA}{L L':Loc}{w w':World}(le:F.le F') (a:w.grownBy w' none) (frz:∀b,F' b≠none->F b≠none\/L.owns b\/w.heap.size<=b)
  (own:∀b,L'.owns b->L.owns b\/w.heap.size<=b):Step F L w F' L' w' :=
 ⟨le,a.os,a.tape,a.output,a.size,fun b hb _=>a.block b hb (by simp),frz,own⟩
theorem Loc.aan {L:Loc}{k:Nat}{o:Own}{b:Nat}(h:(L.set k o).owns b):o.blk=some b\/L.owns b:=by
 obtain⟨j,p,e,hb⟩:=h;rw[Loc.aac] at e;split at e
 ·injection e with e;subst e;exact .inl hb
 ·exact .inr ⟨j,p,e,hb⟩
theorem Loc.aaw {L:Loc}{k b:Nat}(h:(L.del k).owns b):L.owns b:=by
 obtain⟨j,p,e,hb⟩:=h;rw[Loc.aag] at e;split at e
 ·cases e
 ·exact⟨j,p,e,hb⟩
theorem Loc.aaz (L:Loc) (k:Nat):L.part (L.del k):=by
 intro j o e;rw[Loc.aag] at e;split at e
 ·cases e
 ·exact e
theorem dL.mono {F G:aA}(h:F.le G) {a:Option Addr}{j:Nat}{cs:List Value}(c:dL F a j cs):dL G a j cs:=by
 obtain⟨f,b,t,l,e,hF,d,k⟩:=c;exact⟨f,b,t,l,e,h _ _ hF,d,k⟩
theorem dm {b o n:Nat}:(⟨b,o,none⟩:Addr).add n=⟨b,o+n,none⟩:=by
 unfold Addr.add;split<;>simp_all
theorem dL.cell {F:aA}{L:Loc}{w:World}(h:St F L w) {a:Option Addr}{j:Nat}{cs:List Value}(c:dL F a j cs) :
  ∃d,a=some d/\d.spot=none/\∀i v,cs[i]?=some v->w.cell? (d.add (j+i))=some v:=by
 obtain⟨d,k,t,p,e,hF,f,l⟩:=c;refine⟨d,e,f,fun i v m=>?_⟩;obtain⟨b,o,n⟩:=d;simp only at f;subst f;rw[dm];have:=h.frz b _ hF;simp only[World.cell?,this];simpa[Nat.add_assoc] using l i v m
def bO:Operand->Option X
 | .tmp t=>some (.t t)
 | .const v=>some (.c v)
 | .func f=>some (.fn f)
 | .global _=>none
def gG:List Operand->Option (List X)
 | []=>some []
 | o::l=>match bO o,gG l with
  | some x,some xs=>some (x::xs)
  | _,_=>none
def tw:Option Operand->Option (Option X)
 | none=>some none
 | some o=>match bO o with | some x=>some (some x) | none=>none
def eW:TypeDesc->Bool
 | .struct _ | .array _ _=>true
 | _=>false
def Tg (i:TypeInfo):Option (List Value):=match i.zero with | some z=>some z.cells.toList | none=>none
def nI (P:Program) (b:Array Field):List (Nat×Operand)->Option (List (Nat×Nat×X))
 | []=>some []
 | (i,o)::l=>match b[i]?,bO o,nI P b l with
  | some f,some x,some ps=>match P.info? f.type with
   | some j=>some ((f.offset,j.size,x)::ps)
   | none=>none
  | _,_,_=>none
def Ap:Operand->Option dX
 | .global g=>match wL g with | some _=>some (.gload g) | none=>none
 | _=>none
def oI (P:Program):List Field->Nat->Option (List Bool)
 | [],_=>some []
 | f::fs,k=>match Nat.beq f.offset k,decide (f.name="_"),P.underlying f.type with
  | true,false,some (.int _)=>match oI P fs (k+1) with | some ks=>some (true::ks) | none=>none
  | true,false,some .bool=>match oI P fs (k+1) with | some ks=>some (false::ks) | none=>none
  | _,_,_=>none
def xw:X->Bool
 | .c .nilIface=>true
 | _=>false
def iz (P:Program) (own:Bool) (o:Op):Option dX :=
 match o with
 | .move x | .assign x=>match bO x with | some x=>some (.mov x) | none=>none
 | .pick c a b=>match bO c,bO a,bO b with | some c,some a,some b=>some (.pick c a b) | _,_,_=>none
 | .box t x=>match bO x,decide (t=0) with | some x,false=>some (match own with | true=>.boxF t x | false=>.box t x) | _,_=>none
 | .alloc t=>match P.info? t,decide (t=0) with
  | some i,false=>match Tg i with | some z=>some (.alloc t z) | none=>none
  | _,_=>none
 | .buildSlice t n ps=>match P.underlying t,gG (ps.toList.map (·.2)) with
  | some (.slice e),some xs=>match P.info? e with
   | some i=>match decide (ps.toList.map (·.1)=List.range n),decide (n*i.size<=2 ^ 24/\n<=2 ^ 24),i.zero with
    | true,true,some _=>some (match own with | true=>.mkR e n i.size xs | false=>.mkF e n i.size xs)
    | _,_,_=>none
   | none=>none
  | _,_=>none
 | .build t ps=>match P.underlying t,P.info? t with
  | some (.struct fs),some i=>match Tg i,nI P fs ps.toList with
   | some z,some l=>match fs.toList.all (fun f=>(P.info? f.type).isSome),l.all (fun p=>Nat.ble (p.1+p.2.1) z.length) with
    | true,true=>some (.build z l)
    | _,_=>none
   | _,_=>none
  | _,_=>none
 | .lookup t x i ok=>match MX with
  | true=>none
  | false=>match P.underlying t,bO x,bO i with
   | some (.map key e),some x,some i=>match P.underlying key,P.info? e with
    | some (.int .i64),some j=>match j.zero with
     | some z=>some (.mlook false ok z x i)
     | none=>none
    | some .string,some j=>match j.zero with
     | some z=>some (.mlook true ok z x i)
     | none=>none
    | _,_=>none
   | _,_,_=>none
 | .makeMap _ none=>some .mkmap
 | .mapUpdate t x i v | .insert t x i v=>match P.underlying t,bO x,bO i,bO v with
  | some (.map key _),some x,some i,some v=>match P.underlying key with
   | some (.int .i64)=>some (.mupd false x i v)
   | some .string=>some (.mupd true x i v)
   | _=>none
  | _,_,_,_=>none
 | .range t x=>match P.underlying t,bO x with
  | some (.map _ _),some x=>some (.mrange x)
  | _,_=>none
 | .next x false=>match bO x with | some x=>some (.mnext x) | none=>none
 | .entry x=>match bO x with | some x=>some (.mentry x) | none=>none
 | .load t a=>match P.underlying t,P.info? t,bO a with
  | some d,some i,some x=>some (match eW d with | true=>.load true i.size x | false=>.load false 1 x)
  | some (.map _ _),some _,none=>Ap a
  | some (.interface _),some _,none=>match Ap a with | some s=>some s | none=>some .dead
  | some _,some _,none=>some .dead
  | _,_,_=>none
 | .store t a x=>match P.info? t,bO a,bO x with
  | some i,some a,some x=>match decide (i.size=0) with | true=>none | false=>some (.store i.size a x)
  | _,_,_=>none
 | .nilCheck x=>match bO x,Qr P with | some x,true=>some (.nilck x) | _,_=>none
 | .binOp op t x y _=>match P.underlying t,bO x,bO y with
  | some d,some x,some y=>match d,op with
   | .bool,.eql=>some (.eqB false x y)
   | .bool,.neq=>some (.eqB true x y)
   | .slice _,.eql=>some (.eqS false x y)
   | .slice _,.neq=>some (.eqS true x y)
   | .interface _,.eql=>match xw y with | true=>some (.eqN false x) | false=>none
   | .interface _,.neq=>match xw y with | true=>some (.eqN true x) | false=>none
   | .struct fs,.eql=>match oI P fs.toList 0,P.stoodInHeld t,P.eqGuardType P.depth t with | some ks,false,false=>some (.eqA false ks x y) | _,_,_=>none
   | .struct fs,.neq=>match oI P fs.toList 0,P.stoodInHeld t,P.eqGuardType P.depth t with | some ks,false,false=>some (.eqA true ks x y) | _,_,_=>none
   | .int _,_ | .string,_=>some (.bin op x y)
   | _,_=>none
  | _,_,_=>none
 | .unOp op _ x=>match bO x with | some x=>some (.un op x) | none=>none
 | .convert s t x=>match P.underlying s,P.underlying t,bO x with
  | some (.int _),some (.int k),some x=>some (.conv k x)
  | _,_,_=>none
 | .makeFunc (.func f) fi ca=>match gG fi.toList,gG ca.toList with
  | some fi,some ca=>some (.mkfn f fi ca)
  | _,_=>none
 | .makeFunc (.methodOf t nm) fi ca=>match fi.toList,ca.toList with
  | [],[]=>some (.mov (.c (.func (.methodOf t nm) #[] #[])))
  | _,_=>none
 | .makeSlice t l c=>match P.underlying t,bO l,bO c with
  | some (.slice e),some l,some c=>match P.info? e with
   | some i=>match i.zero with
    | some z=>match decide (z.cells.size=i.size),decide (0<i.size) with
     | true,true=>some (.makeS e i.size i.bytes z.cells.toList l c)
     | _,_=>none
    | none=>none
   | none=>none
  | _,_,_=>none
 | .slice t x lo hi none=>match P.underlying t,bO x,tw lo,tw hi with
  | some (.slice e),some x,some lo,some hi=>match P.info? e with
   | some i=>some (.slc i.size x lo hi)
   | none=>none
  | _,_,_,_=>none
 | .fieldAddr t x f=>match P.underlying t,bO x with
  | some (.struct fs),some x=>match fs[f]? with
   | some f=>match P.info? f.type with
    | some i=>match decide (i.size=0) with | true=>none | false=>some (.fieldA f.offset x)
    | none=>none
   | none=>none
  | _,_=>none
 | .indexAddr t x i=>match P.underlying t,bO x,bO i with
  | some (.slice e),some x,some i=>match P.info? e with
   | some j=>some (.idxA j.size x i)
   | none=>none
  | _,_,_=>none
 | .makeInterface t x=>match P.underlying t,bO x with
  | some (.interface _),_=>none
  | some _,some x=>some (.mkif t x)
  | _,_=>none
 | .typeAssert x _ t true=>match P.underlying t,P.info? t,bO x with
  | some (.interface _),_,_=>none
  | some _,some i,some x=>match i.zero with | some z=>some (.tas t z x) | none=>none
  | _,_,_=>none
 | .panic x=>match bO x with | some x=>some (.pan x) | none=>none
 | .extract x i=>match bO x with | some x=>some (.extr x i) | none=>none
 | .call c=>match gG c.args.toList with
  | none=>none
  | some args=>match c.callee with
   | .value (.func f)=>match P.funcs[f]? with
    | some fn=>match fn.name == "runtime.NumGoroutine",fn.body.isSome with
     | false,true=>some (.call f args)
     | _,_=>none
    | none=>none
   | .value f=>match bO f with | some x=>some (.callV x args) | none=>none
   | .invoke (.tmp n) nm=>some (.callV (.mt nm n) args)
   | .invoke _ _=>none
   | .builtin b=>match b,args,c.argTypes.toList with
    | .len,[x],[t]=>match P.underlying t with
     | some (.slice _)=>some (.len x)
     | _=>none
    | .max,args,_=>some (.mm true args)
    | .min,args,_=>some (.mm false args)
    | .append,[s,x],[t,t']=>match P.underlying t,P.underlying t' with
     | some (.slice e),some (.slice _)=>match P.info? e with
      | some i=>match i.zero with
       | some z=>match decide (t=t'),decide (z.cells.size=i.size),decide (0<i.size) with
        | true,true,true=>some (.app e i.size i.bytes z.cells.toList s x)
        | _,_,_=>none
       | none=>none
      | none=>none
     | _,_=>none
    | _,_,_=>none
 | _=>none
structure aD (L:Loc) (ρ:Env) (a:Act):Prop where
 eq:∀t,a.tmps.getD t undef=conc L (ρ t)
 own:∀t k off,ρ t=.own k off->∃g ty cs,L.get k=some (.box g ty cs)
 el:∀t ad j,ρ t=.el ad j->ad≠none
theorem aG {y:Operand}{x:X}(h:bO y=some x) {L:Loc}{ρ:Env}{a:Act}(he:aD L ρ a):a.eval y=val L ρ x:=by
 cases y<;>simp only[bO,xo,reduceCtorEq] at h<;>subst h
 ·exact he.eq _
 ·rfl
 ·rfl
theorem qb {y:Operand}{x:X}(h:bO y=some x) {L:Loc}{ρ:Env}{a:Act}(he:aD L ρ a) {k off:Nat}(e:ev ρ x=.own k off):∃g ty cs,L.get k=some (.box g ty cs):=by
 cases y<;>simp only[bO,xo,reduceCtorEq] at h<;>subst h
 ·exact he.own _ _ _ e
 ·cases e
 ·cases e
theorem qV {y:Operand}{x:X}(h:bO y=some x) {L:Loc}{ρ:Env}{a:Act}(he:aD L ρ a) {b:Option Addr}{j:Nat}(e:ev ρ x=.el b j):b≠none:=by
 cases y<;>simp only[bO,xo,reduceCtorEq] at h<;>subst h
 ·exact he.el _ _ _ e
 ·cases e
 ·cases e
theorem gI:∀{b:List Operand}{xs:List X},gG b=some xs->∀{L:Loc}{ρ:Env}{a:Act},aD L ρ a->b.map a.eval=bw L ρ xs:=by
 intro b
 induction b with
 | nil=>intro xs h L ρ a he;simp only[gG,xo] at h;subst h;rfl
 | cons y b c =>
  intro xs h L ρ a he;simp only[gG] at h;split at h
  ·rename_i x e h1 d;injection h with h
   subst h;simp only[aaX,bw,aG h1 he,c d he]
  ·cases h
def bG (F:aA) (L:Loc) (w:World) (a:Act) (K:dG) (a':Act) (w':World):Prop :=
 ∃F' L' ρ',St F' L' w'/\aD L' ρ' a'/\a'.tmps.size=a.tmps.size/\a'.defers=a.defers/\Step F L w F' L' w'/\K F' L' ρ'
theorem JH (a:Act) (d:Option Nat) (v:Value) (b:∀k,d=some k->k<a.tmps.size) (t:Nat) :
  (a.put d v).tmps.getD t undef=match d with | some k=>if t=k then v else a.tmps.getD t undef | none=>a.tmps.getD t undef:=by
 cases d with
 | none=>rfl
 | some k =>
  have:=b k rfl;simp only[Act.put,aa6,Array.getElem?_setIfInBounds]
  by_cases h:t=k
  ·subst h;simp[this]
  ·rw[fo (by omega),fo h]
theorem put_eq (d:Option Nat) (x:SV) (ρ:Env) (t:Nat):put d x ρ t=match d with | some k=>if t=k then x else ρ t | none=>ρ t:=by
 cases d with
 | none=>rfl
 | some k =>
  simp only[put];cases h:Nat.beq t k with
  | true=>have:=aaQ h;simp[this]
  | false=>have:=gF h;simp[this]
theorem aD.put {L L':Loc}{ρ:Env}{a:Act}(he:aD L ρ a) {d:Option Nat}{v:Value}{x:SV}(p:∀k,d=some k->k<a.tmps.size)
  (r:conc L' x=v) (q:∀k off,x=.own k off->∃g ty cs,L'.get k=some (.box g ty cs)) (n:∀f j,x=.el f j->f≠none)
  (m:∀k g ty cs,L.get k=some (.box g ty cs)->∃cs',L'.get k=some (.box g ty cs')):aD L' (put d x ρ) (a.put d v):=by
 have h:∀t,a.tmps.getD t undef=conc L' (ρ t):=by
  intro t;rw[he.eq t];cases e:ρ t with
  | v x=>rfl
  | el a j=>rfl
  | own k off =>
   obtain⟨g,ty,cs,l⟩:=he.own t k off e;obtain⟨cs',c⟩:=m k g ty cs l;simp only[conc,l,c]
 refine⟨fun t=>?_,fun t k off e=>?_,fun t f j e=>?_⟩
 ·rw[JH a d v p,put_eq];cases d with
  | none=>exact h t
  | some k =>
   simp only[];split
   ·exact r.symm
   ·exact h t
 ·rw[put_eq] at e;have b:∀k off,ρ t=.own k off->∃g ty cs,L'.get k=some (.box g ty cs):=by
   intro k off e;obtain⟨g,ty,cs,l⟩:=he.own t k off e;obtain⟨cs',c⟩:=m k g ty cs l;exact⟨g,ty,cs',c⟩
  cases d with
  | none=>exact b k off e
  | some s =>
   simp only[] at e;split at e
   ·exact q k off e
   ·exact b k off e
 ·rw[put_eq] at e;cases d with
  | none=>exact he.el t f j e
  | some s =>
   simp only[] at e;split at e
   ·exact n f j e
   ·exact he.el t f j e
theorem jK (a:Act) (d:Option Nat) (v:Value):(a.put d v).tmps.size=a.tmps.size:=by cases d<;>simp[Act.put]
theorem gJ (a:Act) (d:Option Nat) (v:Value):(a.put d v).defers=a.defers:=by cases d<;>rfl
section
variable {P:Program}{F:aA}{L:Loc}{ρ:Env}{a:Act}{w:World}{K:dG}{o:Oper}{Q:Exit->Act->World->Prop}
theorem bY (d:St F L w) (he:aD L ρ a) (c:∀k,o.dst=some k->k<a.tmps.size) {v:Value}{x:SV}
  (l:(execOp a.eval o).run P w=.ok (.value v) w) (n:conc L x=v) (m:∀k off,x=.own k off->∃g ty cs,L.get k=some (.box g ty cs)) (h:∀b j,x=.el b j->b≠none)
  (f:K F L (put o.dst x ρ)):o.wp P a w (bG F L w a K) Q:=by
 unfold Oper.wp;rw[l];exact⟨F,L,_,d,he.put c n m h (fun k g ty cs e=>⟨cs,e⟩),jK _ _ _,gJ _ _ _,Step.refl _ _ _,f⟩
theorem jM (he:aD L ρ a) (e:∀k,o.dst=some k->k<a.tmps.size) {v:Value}{x:SV}{w':World}{F':aA}{L':Loc}
  (p:(execOp a.eval o).run P w=.ok (.value v) w') (f:St F' L' w') (b:Step F L w F' L' w') (n:conc L' x=v) (m:∀k off,x=.own k off->∃g ty cs,L'.get k=some (.box g ty cs)) (d:∀c j,x=.el c j->c≠none)
  (l:∀k g ty cs,L.get k=some (.box g ty cs)->∃cs',L'.get k=some (.box g ty cs')) (h:K F' L' (put o.dst x ρ)):o.wp P a w (bG F L w a K) Q:=by
 unfold Oper.wp;rw[p];exact⟨F',L',_,f,he.put e n m d l,jK _ _ _,gJ _ _ _,b,h⟩
theorem Di (he:aD L ρ a) (c:∀k,o.dst=some k->k<a.tmps.size) {w':World}{F':aA}{L':Loc}
  (j:(execOp a.eval o).run P w=.ok .skip w') (d:St F' L' w') (b:Step F L w F' L' w')
  (h:∀k g ty cs,L.get k=some (.box g ty cs)->∃cs',L'.get k=some (.box g ty cs')) (f:K F' L' (put o.dst (.v undef) ρ)):o.wp P a w (bG F L w a K) Q:=by
 unfold Oper.wp;rw[j];exact⟨F',L',_,d,he.put c rfl (fun _ _ e=>by cases e) (fun _ _ e=>by cases e) h,jK _ _ _,gJ _ _ _,b,f⟩
end
section
variable {P:Program}{F:aA}{L:Loc}{ρ:Env}{a:Act}{w:World}{K:dG}{o:Oper}{Q:Exit->Act->World->Prop}
theorem cC {v:Value}{L:Loc}:∀k off,SV.v v=.own k off->∃g ty cs,L.get k=some (.box g ty cs):=fun _ _ e=>by cases e
theorem eV {v:Value}:∀b j,SV.v v=.el b j->b≠none:=fun _ _ e=>by cases e
theorem tC (L:Loc):∀k g ty cs,L.get k=some (.box g ty cs)->∃cs',L.get k=some (.box g ty cs'):=fun k g ty cs e=>⟨cs,e⟩
theorem cP {x:X}{v:Value}{L:Loc}{ρ:Env}(h:ev ρ x=.v v):val L ρ x=v:=by simp only[val,h,conc]
theorem JI {y:Operand}{x:X}(f:St F L w) (he:aD L ρ a) (d:∀k,o.dst=some k->k<a.tmps.size)
  (b:o.op=.move y\/o.op=.assign y) (c:bO y=some x) (h:evalOp P (.mov x) o.dst F L ρ K):o.wp P a w (bG F L w a K) Q:=by
 refine bY f he d (v:=a.eval y) (x:=ev ρ x) ?_ (aG c he).symm (fun k off e=>qb c he e) (fun l j e=>qV c he e) h;rcases b with b | b<;>simp only[execOp,b]<;>rfl
theorem MZ {c y z:Operand}{s d f:X}(p:St F L w) (he:aD L ρ a) (n:∀k,o.dst=some k->k<a.tmps.size)
  (r:o.op=.pick c y z) (u:bO c=some s) (m:bO y=some d) (l:bO z=some f) (b:evalOp P (.pick s d f) o.dst F L ρ K):o.wp P a w (bG F L w a K) Q:=by
 have q:=aG u he;simp only[evalOp,aL] at b;split at b
 ·rename_i h;refine bY p he n (v:=a.eval y) (x:=ev ρ d) ?_ (aG m he).symm (fun k off e=>qb m he e) (fun t j e=>qV m he e) b;simp only[execOp,r,q,val,h,conc];simp[asBool]
 ·rename_i h;refine bY p he n (v:=a.eval z) (x:=ev ρ f) ?_ (aG l he).symm (fun k off e=>qb l he e) (fun t j e=>qV l he e) b;simp only[execOp,r,q,val,h,conc];simp[asBool]
 ·exact b.elim
theorem iA (w:World) (o:Obj):(w.alloc o).heap[w.heap.size]?=some o:=heap_alloc_new w o
theorem tD {F:aA}{L:Loc}{w:World}(c:St F L w):F w.heap.size=none/\¬L.owns w.heap.size:=by
 refine⟨?_,fun h=>?_⟩
 ·cases h:F w.heap.size with
  | none=>rfl
  | some _=>have:=c.aax (b:=w.heap.size) (by rw[h];simp);omega
 ·have:=c.aaA h;omega
theorem St.alloc (c:St F L w) (o:Obj):St F L (w.alloc o):=c.keep fun b hb=>Below.heap_alloc w o b hb
theorem lY (m:St F L w) {k:Nat}(n:L.get k=none) {ob:Obj}{e:Own}(hb:e.blk=some w.heap.size) (l:e.ok (w.alloc ob)) :
  St F (L.set k e) (w.alloc ob)/\Step F L w F (L.set k e) (w.alloc ob) /\
   (∀j g ty xs,L.get j=some (.box g ty xs)->∃cs',(L.set k e).get j=some (.box g ty cs')):=by
 obtain⟨h1,q⟩:=tD m;refine⟨(m.alloc _).put n l fun g c=>?_,?_,fun j g ty xs d=>?_⟩
 ·rw[hb] at c;injection c with c;subst c;exact⟨h1,q⟩
 ·refine Step.mk' (aA.le_refl F) (World.grownBy_alloc w _ none) (fun b hb=>.inl hb) fun b p=>?_;rcases Loc.aan p with h | h
  ·rw[hb] at h;injection h with h;exact .inr (by omega)
  ·exact .inl h
 ·rw[Loc.aac];split
  ·rename_i f;subst f;rw[n] at d;cases d
  ·exact⟨xs,d⟩
theorem kx (c:St F L w) {k:Nat}(d:L.get k=none) {cs:Array Value}{t:TypeId}{e:Own}(hb:e.blk=some w.heap.size) (b:e.ok (w.alloc (.cells cs t))) :
  St F (L.set k e) (w.alloc (.cells cs t))/\Step F L w F (L.set k e) (w.alloc (.cells cs t)) /\
   (∀j g ty xs,L.get j=some (.box g ty xs)->∃cs',(L.set k e).get j=some (.box g ty cs')):=lY c d hb b
theorem Rt {y:Operand}{x:X}{t:TypeId}(l:St F L w) (he:aD L ρ a) (h:∀k,o.dst=some k->k<a.tmps.size)
  (n:o.op=.box t y) (p:bO y=some x) (d:t≠0) (c:evalOp P (.box t x) o.dst F L ρ K):o.wp P a w (bG F L w a K) Q:=by
 simp only[evalOp,aL] at c;split at c
 case h_2=>exact c.elim
 rename_i _ k f;split at c
 case h_2=>exact c.elim
 rename_i _ m;have c:=c w.heap.size;have b:(Value.cells (a.eval y)).toList=aO (val L ρ x):=by
  rw[aG p he];cases val L ρ x<;>rfl
 obtain⟨h1,q,j⟩:=kx l m (cs:=(a.eval y).cells) (t:=t) (e:=.box w.heap.size t (aO (val L ρ x))) rfl
  (by show _=_;rw[iA,jy d,<-b])
 refine jM he h (v:=.pointer (some ⟨w.heap.size,0,none⟩)) (x:=.own k 0) ?_ h1 q ?_ ?_ (fun _ _ e=>by cases e) j c
 ·simp[execOp,n,Instr.box,newVar,newRow]
 ·simp only[conc,Loc.aac,abj]
 ·rintro r off e;injection e with e1 e2
  subst e1;exact⟨_,_,_,by rw[Loc.aac,eu rfl]⟩
theorem JJ {t:TypeId}{i:TypeInfo}{zs:List Value}(m:St F L w) (he:aD L ρ a) (j:∀k,o.dst=some k->k<a.tmps.size)
  (p:o.op=.alloc t) (hi:P.info? t=some i) (c:Tg i=some zs) (f:t≠0) (b:evalOp P (.alloc t zs) o.dst F L ρ K):o.wp P a w (bG F L w a K) Q:=by
 simp only[evalOp,aL] at b;split at b
 case h_2=>exact b.elim
 rename_i _ k h;split at b
 case h_2=>exact b.elim
 rename_i _ n;have b:=b w.heap.size;unfold Tg at c;split at c
 case h_2=>cases c
 rename_i z d;injection c with c
 obtain⟨h1,q,l⟩:=kx m n (cs:=z.cells) (t:=t) (e:=.box w.heap.size t zs) rfl
  (by show _=_;rw[iA,jy f,<-c])
 refine jM he j (v:=.pointer (some ⟨w.heap.size,0,none⟩)) (x:=.own k 0) ?_ h1 q ?_ ?_ (fun _ _ e=>by cases e) l b
 ·simp[execOp,p,Instr.alloc,zeroValue,typeInfo,hi,d,newVar,newRow]
 ·simp only[conc,Loc.aac,abj]
 ·rintro r off e;injection e with e1 e2
  subst e1;exact⟨_,_,_,by rw[Loc.aac,eu rfl]⟩
theorem wN {t:TypeId}{l:List Value}{n:Nat}(h:jt t l n=true):t≠0:=by
 rintro rfl;simp[jt] at h
theorem BU {t:TypeId}{l:List Value}{n:Nat}(h:jt t l n=true):ig l n=true:=by
 unfold jt at h;split at h
 ·cases h
 ·exact h
theorem oJ {t:TypeId}{l:List Value}{n:Nat}(h:t≠0) (b:ig l n=true):jt t l n=true:=by
 unfold jt;split
 ·rename_i e;exact fL (aaQ e) h
 ·exact b
theorem jN:∀{l:List Value}{n:Nat},ig l n=true->l.length=n
 | [],0,_=>rfl
 | _::l,n+1,h=>by simp only[ig] at h;simp[jN h]
 | [],_+1,h=>by simp[ig] at h
 | _::_,0,h=>by simp[ig] at h
theorem oK {cs b:List Value}{off:Nat}(h:off+b.length<=cs.length) (n:Nat) :
  (bU cs off b)[n]?=if n<off then cs[n]? else if n<off+b.length then b[n-off]? else cs[n]?:=by
 unfold bU;have c:(cs.take off).length=off:=by simp;omega
 by_cases h1:n<off
 ·rw[eu h1,abK,abF (by omega),List.getElem?_take_of_lt h1]
 ·rw[fo h1]
  by_cases d:n<off+b.length
  ·rw[eu d,abK,abG (by omega),abF (by omega),c]
  ·rw[fo d,abK,abG (by omega),abG (by omega),c,abx];congr 1;omega
theorem Na (b:List Value):∀(off j:Nat) (cells:Array Value),off+j+b.length<=cells.size ->
  ((b.zipIdx j).foldl (fun cs (c,j)=>cs.setIfInBounds (off+j) c) cells).toList=bU cells.toList (off+j) b:=by
 induction b with
 | nil=>intro off j cells h;simp[bU]
 | cons v b e =>
  intro off j cells h;simp only[List.zipIdx_cons,List.foldl_cons,aa5] at h ⊢;have:=e off (j+1) (cells.setIfInBounds (off+j) v) (by simp;omega);rw[this];apply abP;intro n;rw[oK (by simp;omega),oK (by simp;omega)];simp only[Array.toList_setIfInBounds,aa5]
  by_cases f:n=off+j
  ·subst f;rw[eu (by omega),fo (by omega),eu (by omega),abS (by simp;omega)];simp
  ·by_cases h1:n<off+j
   ·rw[eu (by omega),eu h1,abN (by omega)]
   ·by_cases d:n<off+(j+1)+b.length
    ·rw[fo (by omega),eu d,fo h1,eu (by omega),show n-(off+j)=(n-(off+(j+1)))+1 by omega,abe]
    ·rw[fo (by omega),fo d,fo h1,fo (by omega),abN (by omega)]
theorem Dj (b:Array Value) (off:Nat) (cells:Array Value) (h:off+b.size<=cells.size) :
  (b.zipIdx.foldl (fun cs (x:Value×Nat)=>cs.setIfInBounds (off+x.2) x.1) cells).toList=bU cells.toList off b.toList:=by
 have:=Na b.toList off 0 cells (by simpa using h);rw[Nat.add_zero] at this;rw[<-this];congr 1;rw[<-Array.foldl_toList,Array.toList_zipIdx]
theorem kK (cs:List Value) (off:Nat) (b:List Value) (h:off+b.length<=cs.length):(bU cs off b).length=cs.length:=by
 simp[bU];omega
theorem nJ (v:Value):aO v=v.cells.toList:=by cases v<;>rfl
theorem E4 (sz n:Nat):∀(c:List Value) (k:Nat) (cells:Array Value),cells.size=n*sz->k+c.length=n->(∀v∈c,v.cells.size=sz) ->
  ∃out,Instr.fill (fun i=>some (i*sz,sz)) cells ((List.range' k c.length).zip c)=some out /\
   out.toList=cells.toList.take (k*sz)++(c.map (fun v=>v.cells.toList)).flatten:=by
 intro c
 induction c with
 | nil =>
  intro k cells h1 e f;refine⟨cells,by simp[Instr.fill],?_⟩;simp at e ⊢;subst e;rw[abA (by simp;omega)]
 | cons v c r =>
  intro k cells h1 e f;have h:=f v (by simp);have p:k*sz+sz<=n*sz:=by
   rw[<-Nat.succ_mul];exact Nat.mul_le_mul_right _ (by simp at e;omega)
  simp only[aa5,List.range'_succ,List.zip_cons_cons,Instr.fill];rw[fo (by simp[h];omega)];have b:=Dj v.cells (k*sz) cells (by omega);have d:(v.cells.zipIdx.foldl (fun cs (x:Value×Nat)=>cs.setIfInBounds (k*sz+x.2) x.1) cells).size=n*sz:=by
   rw[<-Array.length_toList,b,kK _ _ _ (by simp;omega)];simpa using h1
  obtain⟨out,m,j⟩:=r (k+1) _ d (by simp at e;omega) (fun u l=>f u (by simp[l]));refine⟨out,m,?_⟩;rw[j,b];simp only[bU,aaX,List.flatten_cons,<-abK];congr 1;rw[Nat.succ_mul];have q:v.cells.toList.length=sz:=by simpa using h
  apply abP;intro i
  by_cases s:i<k*sz
  ·rw[List.getElem?_take_of_lt (by omega),abK,abF (by simp;omega),abF (by simp;omega)]
  ·by_cases t:i<k*sz+sz
   ·rw[List.getElem?_take_of_lt (by omega),abK,abG (by simp;omega),abF (by simp;omega),abG (by simp;omega)]
   ·rw[abl (by simp;omega),abl (by simp;omega)]
end
section
variable {P:Program}{F:aA}{L:Loc}{ρ:Env}{a:Act}{w:World}{K:dG}{o:Oper}{Q:Exit->Act->World->Prop}
theorem xA (L:Loc) (ρ:Env):∀xs:List X,cellsOf L ρ xs=((bw L ρ xs).map fun v=>v.cells.toList).flatten
 | []=>rfl
 | x::xs=>by simp only[cellsOf,bw,aaX,List.flatten_cons,xA L ρ xs,nJ]
theorem Aq {L:Loc}{ρ:Env}{sz:Nat}:∀{xs:List X},ga L ρ sz xs=true->∀v∈bw L ρ xs,v.cells.size=sz
 | [],_,v,b=>by cases b
 | x::xs,h,v,b=>by
  simp only[ga] at h;split at h
  ·rename_i h1;simp only[bw,aaT] at b;rcases b with rfl | b
   ·have:=jN h1;rw[nJ] at this;simpa using this
   ·exact Aq h v b
  ·cases h
theorem lD (L:Loc) (ρ:Env):∀xs:List X,(bw L ρ xs).length=xs.length
 | []=>rfl
 | _::xs=>by simp[bw,lD L ρ xs]
theorem qd {L:Loc}{ρ:Env}{sz:Nat}:∀{xs:List X},ga L ρ sz xs=true->(cellsOf L ρ xs).length=xs.length*sz
 | [],_=>by simp[cellsOf]
 | x::xs,h=>by
  simp only[ga] at h;split at h
  ·rename_i h1;have:=jN h1;simp only[cellsOf,abI,this,qd h,aa5,Nat.succ_mul];omega
  ·cases h
theorem E5 {ps:List (Nat×Operand)}{f:Operand->Value}{n:Nat}(h:ps.map (·.1)=List.range n) :
  ps.map (fun p=>(p.1,f p.2))=(List.range' 0 ps.length).zip ((ps.map (·.2)).map f):=by
 have b:ps.length=n:=by have:=vv List.length h;simpa using this
 rw[b,<-List.range_eq_range',<-h]
 clear h b
 induction ps with
 | nil=>rfl
 | cons p ps c=>simp[c]
theorem qe {t e n:Nat}{ps:Array (Nat×Operand)}{i:TypeInfo}{z:Value}{xs:List X}(u:P.underlying t=some (.slice e)) (hi:P.info? e=some i) (s:i.zero=some z)
  (hx:gG (ps.toList.map (·.2))=some xs) (r:ps.toList.map (·.1)=List.range n) (hb:n*i.size<=2 ^ 24) (y:ga L ρ i.size xs=true) (he:aD L ρ a) :
  (Instr.buildSlice t n (ps.map fun(j,x)=>(j,a.eval x))).run P w=.ok (.slice (some ⟨w.heap.size,0,none⟩) n n) (w.alloc (.cells (cellsOf L ρ xs).toArray e))/\xs.length=n:=by
 have k:=gI hx he;have d:xs.length=n:=by
  have h1:=vv List.length k;have q:=vv List.length r;simp only[vz,lD,List.length_range] at h1 q;omega
 have p:ps.toList.length=n:=by have:=vv List.length r;simpa using this
 have b:(ps.map fun(x:Nat×Operand)=>(x.1,a.eval x.2)).toList=(List.range' 0 (bw L ρ xs).length).zip (bw L ρ xs):=by
  rw[Array.toList_map,E5 r,k,lD,d,p]
 have h:=fun(cells:Array Value) (v:cells.size=n*i.size)=>E4 i.size n (bw L ρ xs) 0 cells v (by rw[lD];omega) (Aq y);refine⟨?_,d⟩;have l:∀zero:Array Value,((Array.range (n*i.size)).map (zero[· % zero.size]!)).size=n*i.size:=fun _=>by simp
 obtain⟨out,h1,q⟩:=h ((Array.range (n*i.size)).map ((if n*i.size=0 then #[] else z.cells)[· % (if n*i.size=0 then #[] else z.cells).size]!)) (l _);have c:out=(cellsOf L ρ xs).toArray:=by
  apply Array.ext';rw[q,xA];simp
 have m:¬(n*i.size>2 ^ 24):=by omega
 unfold Instr.buildSlice;simp only[Sem.run_bind,run_underlying u,Result.andThen_ok,sizeOf,typeInfo,hi,run_program,Sem.run_pure,fo m,zeroValue,s]
 by_cases h0:n*i.size=0
 ·simp only[h0,abj] at h1 ⊢
  try simp only[Sem.run_pure,Result.andThen_ok]
  rw[b];have f:=h1;simp only[f,c,newRow,Sem.run_bind,run_newObj,Result.andThen_ok,Sem.run_pure];rfl
 ·simp only[h0,abQ] at h1 ⊢;simp only[Sem.run_bind,hi,s,run_program,Sem.run_pure,Result.andThen_ok];rw[b];have f:=h1;simp only[f,c,newRow,Sem.run_bind,run_newObj,Result.andThen_ok,Sem.run_pure];rfl
theorem Nb {t:TypeId}{y:Operand}{x:X}(j:St F L w) (he:aD L ρ a) (n:∀k,o.dst=some k->k<a.tmps.size)
  (p:o.op=.box t y) (q:bO y=some x) (m:evalOp P (.boxF t x) o.dst F L ρ K):o.wp P a w (bG F L w a K) Q:=by
 simp only[evalOp] at m;have c:(a.eval y).cells=(aO (val L ρ x)).toArray:=by
  apply Array.ext';rw[aG q he];cases val L ρ x<;>rfl
 have d:=iA w (.cells (aO (val L ρ x)).toArray t);obtain⟨hf,f⟩:=tD j;have l:=(j.alloc (.cells (aO (val L ρ x)).toArray t)).freeze d f;have e:=aA.aav (j.alloc (.cells (aO (val L ρ x)).toArray t)) d;refine jM he n (v:=.pointer (some ⟨w.heap.size,0,none⟩)) (x:=.v (.pointer (some ⟨w.heap.size,0,none⟩))) ?_ l (Step.mk' e (World.grownBy_alloc w _ none) ?_ fun b h=>.inl h) rfl cC eV (tC L) (m w.heap.size _ e (by simp))
 ·simp[execOp,p,Instr.box,newVar,newRow,c]
 ·intro b hb
  by_cases h:b=w.heap.size
  ·exact .inr (.inr (by omega))
  ·simp only[fo h] at hb;exact .inl hb
theorem Ru {t e n:Nat}{ps:Array (Nat×Operand)}{i:TypeInfo}{z:Value}{xs:List X}(m:St F L w) (he:aD L ρ a) (r:∀k,o.dst=some k->k<a.tmps.size)
  (u:o.op=.buildSlice t n ps) (s:P.underlying t=some (.slice e)) (hi:P.info? e=some i) (y:i.zero=some z)
  (hx:gG (ps.toList.map (·.2))=some xs) (hr:ps.toList.map (·.1)=List.range n) (hb:n*i.size<=2 ^ 24) (j:evalOp P (.mkF e n i.size xs) o.dst F L ρ K):o.wp P a w (bG F L w a K) Q:=by
 simp only[evalOp,aL] at j;split at j
 case h_2=>exact j.elim
 rename_i hp;obtain⟨d,q⟩:=qe (w:=w) s hi y hx hr hb hp he;have c:=iA w (.cells (cellsOf L ρ xs).toArray e);obtain⟨hf,l⟩:=tD m;have p:=(m.alloc (.cells (cellsOf L ρ xs).toArray e)).freeze c l;have f:=aA.aav (m.alloc (.cells (cellsOf L ρ xs).toArray e)) c;refine jM he r (v:=.slice (some ⟨w.heap.size,0,none⟩) n n) (x:=.v (.slice (some ⟨w.heap.size,0,none⟩) n n)) ?_ p (Step.mk' f (World.grownBy_alloc w _ none) ?_ fun b h=>.inl h) rfl cC eV (tC L) (j w.heap.size _ f (by simp))
 ·simp only[execOp,u,Sem.run_bind,d,Result.andThen_ok,Sem.run_pure]
 ·intro b hb
  by_cases h:b=w.heap.size
  ·exact .inr (.inr (by omega))
  ·simp only[fo h] at hb;exact .inl hb
theorem lF (w:World) (cs:List Value) (e:TypeId) (n sz:Nat) (c:n<=maxLen) (b:cs.length=n*sz) :
  (w.alloc (.cells cs.toArray e)).ownsRow 0 e sz (.slice (some ⟨w.heap.size,0,none⟩) n n) n cs :=
 ⟨b,.inr ⟨w.heap.size,n,cs.toArray,rfl,aa8 _,iA w _,aa0 _,c,by simpa using b,by simp[<-b]⟩⟩
theorem Rv {t e n:Nat}{ps:Array (Nat×Operand)}{i:TypeInfo}{z:Value}{xs:List X}(p:St F L w) (he:aD L ρ a) (l:∀k,o.dst=some k->k<a.tmps.size)
  (s:o.op=.buildSlice t n ps) (r:P.underlying t=some (.slice e)) (hi:P.info? e=some i) (u:i.zero=some z)
  (y:gG (ps.toList.map (·.2))=some xs) (hr:ps.toList.map (·.1)=List.range n) (hb:n*i.size<=2 ^ 24) (hn:n<=2 ^ 24) (b:evalOp P (.mkR e n i.size xs) o.dst F L ρ K):o.wp P a w (bG F L w a K) Q:=by
 simp only[evalOp,aL] at b;split at b
 case h_2=>exact b.elim
 rename_i _ _ k j h;split at b
 case h_2=>exact b.elim
 rename_i _ q;obtain⟨c,d⟩:=qe (w:=w) r hi u y hr hb j he;have f:=lF w (cellsOf L ρ xs) e n i.size (by simp only[maxLen];omega) (by rw[qd j,d]);obtain⟨h1,h2,m⟩:=kx p q (cs:=(cellsOf L ρ xs).toArray) (t:=e) (e:=.row (.slice (some ⟨w.heap.size,0,none⟩) n n) e i.size n (cellsOf L ρ xs)) rfl f;refine jM he l (v:=.slice (some ⟨w.heap.size,0,none⟩) n n) (x:=.v (.slice (some ⟨w.heap.size,0,none⟩) n n)) ?_ h1 h2 rfl cC eV m (b w.heap.size);simp only[execOp,s,Sem.run_bind,c,Result.andThen_ok,Sem.run_pure]
def placeOf (P:Program) (f:Field):Nat×Nat:=(f.offset,P.cellsOf f.type)
def xB (f:Field):Sem (Nat×Nat):=do pure (f.offset,<-sizeOf f.type)
theorem zS {u:Array Field}:∀{ps:List (Nat×Operand)}{l:List (Nat×Nat×X)},nI P u ps=some l->∀{cells:Array Value}{cs:List Value}(m:Array (Nat×Nat)),aD L ρ a ->
  (∀(j:Nat) (f:Field) (i:TypeInfo),u[j]?=some f->P.info? f.type=some i->m[j]?=some (f.offset,i.size)) ->
  built L ρ cells.toList l=some cs->(∀off n x,(off,n,x)∈l->off+n<=cells.size) ->
  ∃out,Instr.fill (m[·]?) cells (ps.map fun p=>(p.1,a.eval p.2))=some out/\out.toList=cs:=by
 intro ps
 induction ps with
 | nil =>
  intro l h cells cs m he k hb e;simp only[nI,xo] at h;subst h;simp only[built,xo] at hb;exact⟨cells,rfl,hb⟩
 | cons p ps ih =>
  intro l h cells cs m he k hb e;obtain⟨j,y⟩:=p;simp only[nI] at h;split at h
  case h_2=>cases h
  rename_i f x l' hf z s;split at h
  case h_2=>cases h
  rename_i i hi;injection h with h
  subst h;simp only[built] at hb;split at hb
  case h_2=>cases hb
  rename_i b;have b:=jN b;have r:=e f.offset i.size x (by simp);have q:=aG z he;simp only[aaX,Instr.fill,k j f i hf hi];have t:(a.eval y).cells.size=i.size:=by rw[q];rw[nJ] at b;simpa using b
  rw[fo (by simp[t];omega)];have c:=Dj (a.eval y).cells f.offset cells (by omega);have d:(a.eval y).cells.toList=aO (val L ρ x):=by rw[q,nJ]
  rw[d] at c;refine ih s m he k (cs:=cs) ?_ ?_
  ·rw[c];exact hb
  ·intro off n v hm;rw[<-Array.length_toList,c,kK _ _ _ (by rw[b];simpa using r)];simpa using e off n v (by simp[hm])
theorem wq (P:Program) (w:World):∀(b:List Field),(∀f:Field,f∈b->(P.info? f.type).isSome=true) ->
  (b.mapM xB).run P w=.ok (b.map (placeOf P)) w:=by
 intro b
 induction b with
 | nil=>intro _;simp
 | cons f b d =>
  intro h;have h1:=h f (by simp);obtain⟨i,hi⟩:=Option.isSome_iff_exists.1 h1;simp only[List.mapM_cons,xB,Sem.run_bind,sizeOf,typeInfo,run_program,Result.andThen_ok,hi,Sem.run_pure];rw[d (fun g c=>h g (by simp[c]))];simp[placeOf,Program.cellsOf,hi]
theorem JK {t:Nat}{ps:Array (Nat×Operand)}{b:Array Field}{i:TypeInfo}{zs:List Value}{l:List (Nat×Nat×X)}(hs:St F L w) (he:aD L ρ a) (hd:∀k,o.dst=some k->k<a.tmps.size)
  (ho:o.op=.build t ps) (ht:P.underlying t=some (.struct b)) (hi:P.info? t=some i) (c:Tg i=some zs) (hl:nI P b ps.toList=some l) (d:∀f:Field,f∈b.toList->(P.info? f.type).isSome=true)
  (q:∀off n x,(off,n,x)∈l->off+n<=zs.length) (m:evalOp P (.build zs l) o.dst F L ρ K):o.wp P a w (bG F L w a K) Q:=by
 simp only[evalOp,aL] at m;split at m
 case h_2=>exact m.elim
 rename_i cs y;unfold Tg at c;split at c
 case h_2=>cases c
 rename_i z r;injection c with c
 have s:∀(j:Nat) (f:Field) (i:TypeInfo),b[j]?=some f->P.info? f.type=some i->(b.map (placeOf P))[j]?=some (f.offset,i.size):=by
  intro j f i h1 u;simp[h1,placeOf,Program.cellsOf,u]
 obtain⟨out,h1,u⟩:=zS (a:=a) (cells:=z.cells) (cs:=cs) hl _ he s (by rw[c];exact y) (by intro off n x hm;have:=q off n x hm;rw[<-c] at this;simpa using this);have e:out=cs.toArray:=by apply Array.ext';simpa using u
 have h:(b.mapM xB).run P w=.ok (b.map (placeOf P)) w:=by
  rw[Array.mapM_eq_mapM_toList,Sem.run_map,wq P w _ d];simp only[Result.andThen_ok];congr 1;exact Array.ext' (by simp)
 refine bY hs he hd (v:=.agg cs.toArray) (x:=.v (.agg cs.toArray)) ?_ rfl cC eV m;simp only[execOp,ho,Instr.build,Sem.run_bind,zeroValue,typeInfo,run_program,Result.andThen_ok,hi,Sem.run_pure,r,run_underlying ht];rw[show(b.mapM fun(f:Field)=>(do pure (f.offset,<-sizeOf f.type):Sem (Nat×Nat))).run P w=.ok (b.map (placeOf P)) w from h];simp only[Result.andThen_ok];rw[show(ps.map fun(x:Nat×Operand)=>(x.1,a.eval x.2)).toList=ps.toList.map (fun p=>(p.1,a.eval p.2)) by simp,h1,e];simp
theorem Ar {t:Nat}{d:TypeDesc}(b:P.underlying t=some d):(isAgg t).run P w=.ok (eW d) w:=by
 unfold isAgg;simp only[Sem.run_bind,run_underlying b,Result.andThen_ok];cases d<;>rfl
theorem oL {t:Nat}{d:TypeDesc}{i:TypeInfo}(k:P.underlying t=some d) (hi:P.info? t=some i) {c:Addr}{cs:List Value}{n:Nat}
  (h:∀j v,cs[j]?=some v->w.cell? (c.add j)=some v) (b:cs.length=n) (e:n=match eW d with | true=>i.size | false=>1) :
  (Instr.loadAt t (.pointer (some c))).run P w=.ok (iy (eW d) cs) w:=by
 simp only[Instr.loadAt,Instr.sureAddr,Sem.run_bind,Sem.run_pure,Result.andThen_ok,loadVar,Ar k];cases f:eW d with
 | true =>
  simp only[f] at e;simp only[abj,Sem.run_bind,sizeOf,typeInfo,run_program,Result.andThen_ok,hi,Sem.run_pure];rw[<-e,<-b,run_loadCells_list w c cs h];rfl
 | false =>
  simp only[f] at e;subst e
  match cs,b with
  | [v],_ =>
   have:=h 0 v (by simp);rw[show c.add 0=c by simp[Addr.add]] at this;simp[run_load,this,iy]
theorem qf {g:Nat}{t:TypeId}{cs:List Value}(b:t≠0) (h:Own.ok w (.box g t cs)) (n:Nat):w.cell? ⟨g,n,none⟩=cs[n]?:=by
 simp only[Own.ok,jy b] at h;simp[World.cell?,h]
theorem Nc {t:Nat}{y:Operand}{x:X}{d:TypeDesc}{i:TypeInfo}{n:Nat}(hs:St F L w) (he:aD L ρ a) (hd:∀k,o.dst=some k->k<a.tmps.size)
  (ho:o.op=.load t y) (ht:P.underlying t=some d) (hi:P.info? t=some i) (hx:bO y=some x) (hn:n=match eW d with | true=>i.size | false=>1)
  (q:evalOp P (.load (eW d) n x) o.dst F L ρ K):o.wp P a w (bG F L w a K) Q:=by
 have ec:=aG hx he;have r:∀(l:Option Addr) (j:Nat),l≠none->(ku F L l j n fun cs=>K F L (put o.dst (.v (iy (eW d) cs)) ρ))->a.eval y=conc L (.el l j)->o.wp P a w (bG F L w a K) Q:=by
  rintro l j av ⟨cs,s,hc,q⟩ hy;cases l with
  | none=>exact fL rfl av
  | some l =>
   have f:∀i v,cs[i]?=some v->w.cell? ((l.add j).add i)=some v:=by
    rcases hc with hc | ⟨k,v,t',sz,m,xs,ay,c,hk,z,e2,hc⟩ | aw | ⟨k,g,t',bs,o',hk,ae,z,hc⟩
    ·obtain⟨ay,e,am,aE⟩:=hc.cell hs;injection e with e
     subst e;intro i v hv;obtain⟨b,o',sp⟩:=l;simp only at am;subst am;rw[dm,dm,Nat.add_assoc,<-dm];exact aE i v hv
    ·injection z with z
     subst z;have aa:=hs.own k _ hk;simp only[Own.ok] at aa;subst e2;intro i u hu;have hb:=hc i u hu;have h0:=World.ownsRow.cells aa (g:=l.block) rfl (j+i) u hb;rcases aa.2 with⟨e,_⟩ | ⟨g,cap,bl,e,_⟩
     ·cases e
     ·injection e with z e2 e3
      injection z with z
      subst z;rw[dm,dm];rw[dm] at h0;simpa[Nat.add_assoc] using h0
    ·intro i v hv;rw[aw] at s;have:cs=[]:=abu s;subst this;simp at hv
    ·injection z with z
     subst z;intro i u hu;rw[dm,dm,qf ae (hs.own k _ hk)];exact hc i u hu
   refine bY hs he hd (v:=iy (eW d) cs) (x:=.v (iy (eW d) cs)) ?_ rfl cC eV q;simp only[execOp,ho,hy,conc,Sem.run_bind,oL ht hi f s hn,Result.andThen_ok,Sem.run_pure]
 simp only[evalOp,aL] at q;split at q
 ·rename_i k off p;split at q
  case h_2=>exact q.elim
  rename_i g ty cs hk;split at q
  case h_2=>exact q.elim
  rename_i hl;have ae:=wN hl;have hl:=jN (BU hl);have an:=hs.own k _ hk;have f:∀j v,((cs.drop off).take n)[j]?=some v->w.cell? ((⟨g,off,none⟩:Addr).add j)=some v:=by
   intro j v hv;rw[dm,qf ae an];have hj:j<n:=by
    have:=aaR.1 hv;obtain⟨h,_⟩:=this;omega
   rw[List.getElem?_take_of_lt hj,abx] at hv;exact hv
  refine bY hs he hd (v:=iy (eW d) ((cs.drop off).take n)) (x:=.v (iy (eW d) ((cs.drop off).take n))) ?_ rfl cC eV q;have hy:a.eval y=.pointer (some ⟨g,off,none⟩):=by rw[ec];simp only[val,p,conc,hk]
  simp only[execOp,ho,hy,Sem.run_bind,oL ht hi f hl hn,Result.andThen_ok,Sem.run_pure]
 ·rename_i l j p;exact r l j (qV hx he p) q (by rw[ec];simp only[val,p])
 ·rename_i l p;refine r (some l) 0 (by simp) q ?_;rw[ec];simp only[val,p,conc];simp[Addr.add]
 ·exact q.elim
end
section
variable {P:Program}{F:aA}{L:Loc}{ρ:Env}{a:Act}{w:World}{K:dG}{o:Oper}{Q:Exit->Act->World->Prop}
theorem Au {k b:IntKind}(h:pY k b=true):k=b:=by cases k<;>cases b<;>first | rfl | cases h
theorem si {op:BinOp}{t:TypeId}{x y:Operand}{u v:Value}(h:∀c,u≠.agg c) (b:u≠.nilIface):(eqGuard op t x y u v).run P w=.ok () w:=by
 have key:(eqGuard op t x y u v).run P w=.ok () w\/True:=.inr trivial;unfold eqGuard;cases op<;>simp only[Bool.not_true,abZ,abj,aa2,abQ]<;>first
  | rfl
  | (cases u<;>first | rfl | exact fL rfl (h _) | exact fL rfl b)
theorem toList_data (s:ByteArray):s.toList=s.data.toList:=ByteArray.toList_eq s
theorem wO (x y:List UInt8):(x == y)=decide (x=y):=by rw[Bool.eq_iff_iff];simp
theorem Rw {t t':TypeId}{op:BinOp}{y z:Operand}{p z':X}(hs:St F L w) (he:aD L ρ a) (hd:∀k,o.dst=some k->k<a.tmps.size)
  (ho:o.op=.binOp op t y z t') (hy:bO y=some p) (hz:bO z=some z') (d:evalOp P (.bin op p z') o.dst F L ρ K):o.wp P a w (bG F L w a K) Q:=by
 have ey:=aG hy he;have ez:=aG hz he;have fin:∀v,(binOp op t (val L ρ p) (val L ρ z')).run P w=.ok v w->(∀c,val L ρ p≠.agg c)->val L ρ p≠.nilIface->K F L (put o.dst (.v v) ρ)->o.wp P a w (bG F L w a K) Q:=by
  intro v hr h1 h2 d;refine bY hs he hd (v:=v) (x:=.v v) ?_ rfl cC eV d;simp only[execOp,ho,ey,ez,Sem.run_bind,si h1 h2,Result.andThen_ok,hr,Sem.run_pure]
 simp only[evalOp,aL] at d;split at d
 ·rename_i k n k' m h j;have b:=cP (L:=L) h;have e:=cP (L:=L) j;split at d
  ·rename_i q;have l:op=.shl\/op=.shr:=by cases op<;>simp_all [JE]
   have h1:(binOp op t (.int k n) (.int k' m)).run P w=(Op.shift op k n k' m).run P w:=by rcases l with rfl | rfl<;>rfl
   rcases l with rfl | rfl
   ·obtain⟨hm,⟨d⟩⟩:=d;refine fin _ ?_ (by rw[b];simp) (by rw[b];simp) d;rw[b,e,h1];simp[Op.shift,show¬m<0 by omega]
   ·obtain⟨hm,d⟩:=d;refine fin _ ?_ (by rw[b];simp) (by rw[b];simp) d;rw[b,e,h1];simp[Op.shift,show¬m<0 by omega]
  ·rename_i q;split at d
   case h_2=>exact d.elim
   rename_i r;have r:=Au r;subst r;cases op<;>simp only[binI] at d<;>first | (cases q;done) | skip
   ·obtain⟨d⟩:=d;exact fin _ (by rw[b,e];simp[binOp,Op.intArith]) (by rw[b];simp) (by rw[b];simp) d
   ·obtain⟨d⟩:=d;exact fin _ (by rw[b,e];simp[binOp,Op.intArith]) (by rw[b];simp) (by rw[b];simp) d
   ·obtain⟨d⟩:=d;exact fin _ (by rw[b,e];simp[binOp,Op.intArith]) (by rw[b];simp) (by rw[b];simp) d
   ·obtain⟨f,⟨d⟩⟩:=d;exact fin _ (by rw[b,e];simp[binOp,Op.intDiv,f]) (by rw[b];simp) (by rw[b];simp) d
   ·obtain⟨f,d⟩:=d;exact fin _ (by rw[b,e];simp[binOp,Op.intDiv,f]) (by rw[b];simp) (by rw[b];simp) d
   ·exact fin _ (by rw[b,e];simp[binOp,Op.intBits]) (by rw[b];simp) (by rw[b];simp) d
   ·exact fin _ (by rw[b,e];simp[binOp,Op.intBits]) (by rw[b];simp) (by rw[b];simp) d
   ·exact fin _ (by rw[b,e];simp[binOp,Op.intBits]) (by rw[b];simp) (by rw[b];simp) d
   ·exact fin _ (by rw[b,e];simp[binOp,Op.intBits]) (by rw[b];simp) (by rw[b];simp) d
   ·exact fin _ (by rw[b,e];simp[binOp,Op.intCmp];rfl) (by rw[b];simp) (by rw[b];simp) d
   ·exact fin _ (by rw[b,e];simp[binOp,Op.intCmp,bne];rfl) (by rw[b];simp) (by rw[b];simp) d
   ·exact fin _ (by rw[b,e];simp[binOp,Op.intCmp]) (by rw[b];simp) (by rw[b];simp) d
   ·exact fin _ (by rw[b,e];simp[binOp,Op.intCmp]) (by rw[b];simp) (by rw[b];simp) d
   ·exact fin _ (by rw[b,e];simp[binOp,Op.intCmp]) (by rw[b];simp) (by rw[b];simp) d
   ·exact fin _ (by rw[b,e];simp[binOp,Op.intCmp]) (by rw[b];simp) (by rw[b];simp) d
 ·rename_i s u h j;have b:=cP (L:=L) h;have e:=cP (L:=L) j;cases op<;>simp only[binS] at d<;>first | exact d.elim | skip
  ·obtain⟨am,d⟩:=d;refine fin _ ?_ (by rw[b];simp) (by rw[b];simp) d;rw[b,e];have:¬(((s.size+u.size:Nat):Int)>IntKind.i64.max):=by omega
   simp only[binOp,Op.stringOp,fo this];rfl
  ·exact fin _ (by rw[b,e];simp only[binOp,Op.stringOp,toList_data,wO];rfl) (by rw[b];simp) (by rw[b];simp) d
  ·exact fin _ (by rw[b,e];simp only[binOp,Op.stringOp,toList_data,wO];rfl) (by rw[b];simp) (by rw[b];simp) d
  ·exact fin _ (by rw[b,e];simp only[binOp,Op.stringOp,toList_data,wO];rfl) (by rw[b];simp) (by rw[b];simp) d
  ·exact fin _ (by rw[b,e];simp only[binOp,Op.stringOp,toList_data,wO];rfl) (by rw[b];simp) (by rw[b];simp) d
 ·exact d.elim
theorem JL {t t':TypeId}{neg:Bool}{y z:Operand}{m p:X}(hs:St F L w) (he:aD L ρ a) (u:∀k,o.dst=some k->k<a.tmps.size)
  (l:o.op=.binOp (if neg then .neq else .eql) t y z t') (j:P.underlying t=some .bool) (hy:bO y=some m) (hz:bO z=some p) (d:evalOp P (.eqB neg m p) o.dst F L ρ K):o.wp P a w (bG F L w a K) Q:=by
 have n:=aG hy he;have r:=aG hz he;simp only[evalOp,aL] at d;split at d
 case h_2=>exact d.elim
 rename_i b c e f;have q:=cP (L:=L) e;have h:=cP (L:=L) f;refine bY hs he u (v:=.bool (tq neg (decide (b=c)))) (x:=.v (.bool (tq neg (decide (b=c))))) ?_ rfl cC eV d;have s:∀op:BinOp,(eqGuard op t y z (.bool b) (.bool c)).run P w=.ok () w:=fun op=>si (by simp) (by simp);have hb:(b == c)=decide (b=c):=by cases b<;>cases c<;>rfl
 cases neg
 ·simp only[execOp,l,n,r,q,h,Sem.run_bind,s,Result.andThen_ok];have:=run_eql_bool (P:=P) w t b c j;rw[hb] at this;simp[this,tq]
 ·simp only[execOp,l,n,r,q,h,Sem.run_bind,s,Result.andThen_ok];have:=run_neq_bool (P:=P) w t b c j;rw[hb] at this;simp[this,tq]
theorem Rx {t e:TypeId}(h:P.underlying t=some (.slice e)) (p:Option Addr) (n c b f:Nat):(Op.equal t (.slice p n c) (.slice none b f)).run P w=.ok p.isNone w:=by
 have key:∀d:Nat,(Op.equalIn (d+1) t (.slice p n c) (.slice none b f)).run P w=.ok p.isNone w:=fun d=>by
  cases p<;>simp[Op.equalIn,run_underlying h]
 exact key 9999
theorem JM {t t':TypeId}{neg:Bool}{y z:Operand}{j p:X}(hs:St F L w) (he:aD L ρ a) (hd:∀k,o.dst=some k->k<a.tmps.size)
  (h:o.op=.binOp (if neg then .neq else .eql) t y z t') (hy:bO y=some j) (hz:bO z=some p)
  (u v:Value) (b:Bool) (e:val L ρ j=u) (q:val L ρ p=v) (h1:∀c,u≠.agg c) (h2:u≠.nilIface) (f:∀k n,u≠.int k n) (d:∀s,u≠.string s) (h5:∀k n,u≠.float k n) (h6:∀k n m,u≠.complex k n m)
  (hr:(Op.equal t u v).run P w=.ok b w) (hK:K F L (put o.dst (.v (.bool (tq neg b))) ρ)):o.wp P a w (bG F L w a K) Q:=by
 have l:=aG hy he;have r:=aG hz he;refine bY hs he hd (v:=.bool (tq neg b)) (x:=.v (.bool (tq neg b))) ?_ rfl cC eV hK;have hg:∀op:BinOp,(eqGuard op t y z u v).run P w=.ok () w:=fun op=>si h1 h2;cases neg
 ·simp only[execOp,h,l,r,e,q,Sem.run_bind,hg,Result.andThen_ok];have:binOp .eql t u v=(do pure (.bool (<-Op.equal t u v)):Sem Value):=by
   cases u<;>first | rfl | exact fL rfl (f _ _) | exact fL rfl (d _) | exact fL rfl (h5 _ _) | exact fL rfl (h6 _ _ _)
  simp[this,hr,tq]
 ·simp only[execOp,h,l,r,e,q,Sem.run_bind,hg,Result.andThen_ok];have:binOp .neq t u v=(do pure (.bool (!(<-Op.equal t u v))):Sem Value):=by
   cases u<;>first | rfl | exact fL rfl (f _ _) | exact fL rfl (d _) | exact fL rfl (h5 _ _) | exact fL rfl (h6 _ _ _)
  simp[this,hr,tq]
theorem JN {t q e:TypeId}{neg:Bool}{y z:Operand}{h j:X}(m:St F L w) (he:aD L ρ a) (l:∀k,o.dst=some k->k<a.tmps.size)
  (s:o.op=.binOp (if neg then .neq else .eql) t y z q) (r:P.underlying t=some (.slice e)) (x:bO y=some h) (v:bO z=some j) (b:evalOp P (.eqS neg h j) o.dst F L ρ K):o.wp P a w (bG F L w a K) Q:=by
 simp only[evalOp,aL] at b;split at b
 ·rename_i p n c u c' d f;exact JM m he l s x v (.slice p n c) (.slice none u c') p.isNone (cP d) (cP f) (by simp) (by simp) (by simp) (by simp) (by simp) (by simp) (Rx r _ _ _ _ _) b
 ·exact b.elim
theorem H6 {z:Operand}{b:X}(h:bO z=some b) (k:xw b=true):z=.const .nilIface:=by
 unfold xw at k;split at k
 ·cases z with
  | const v=>simp only[bO,xo,X.c.injEq] at h;rw[h]
  | tmp n=>cases h
  | func f=>cases h
  | global g=>cases h
 ·cases k
theorem E6 {t:TypeId}{b:Array (String×TypeId)}(h:P.underlying t=some (.interface b)):(Op.equal t .nilIface .nilIface).run P w=.ok true w:=by
 have key:∀d:Nat,(Op.equalIn (d+1) t .nilIface .nilIface).run P w=.ok true w:=fun d=>by
  simp[Op.equalIn,run_underlying h]
 exact key 9999
theorem Ry {t ty:TypeId}{b:Array (String×TypeId)}{u:Value}(h:P.underlying t=some (.interface b)):(Op.equal t (.iface ty u) .nilIface).run P w=.ok false w:=by
 have key:∀d:Nat,(Op.equalIn (d+1) t (.iface ty u) .nilIface).run P w=.ok false w:=fun d=>by
  simp[Op.equalIn,run_underlying h]
 exact key 9999
theorem JO {t t':TypeId}{ms:Array (String×TypeId)}{neg:Bool}{y z:Operand}{h j:X}(n:St F L w) (he:aD L ρ a) (m:∀k,o.dst=some k->k<a.tmps.size)
  (f:o.op=.binOp (if neg then .neq else .eql) t y z t') (p:P.underlying t=some (.interface ms)) (hy:bO y=some h) (d:bO z=some j) (hn:xw j=true) (c:evalOp P (.eqN neg h) o.dst F L ρ K):o.wp P a w (bG F L w a K) Q:=by
 have q:=aG hy he;obtain rfl:=H6 d hn;simp only[evalOp,aL] at c;split at c
 ·rename_i b;have l:val L ρ h=.nilIface:=cP b;refine bY n he m (v:=.bool (tq neg true)) (x:=.v (.bool (tq neg true))) ?_ rfl cC eV c;have s:∀op:BinOp,(eqGuard op t y (.const .nilIface) .nilIface .nilIface).run P w=.ok () w:=fun op=>by
   cases op<;>simp[eqGuard]
  have r:a.eval (.const .nilIface)=.nilIface:=rfl;have hr:=E6 (P:=P) (w:=w) p;cases neg
  ·simp only[execOp,f,q,r,l,Sem.run_bind,s,Result.andThen_ok];have:binOp .eql t .nilIface .nilIface=(do pure (.bool (<-Op.equal t .nilIface .nilIface)):Sem Value):=rfl;simp[this,hr,tq]
  ·simp only[execOp,f,q,r,l,Sem.run_bind,s,Result.andThen_ok];have:binOp .neq t .nilIface .nilIface=(do pure (.bool (!(<-Op.equal t .nilIface .nilIface))):Sem Value):=rfl;simp[this,hr,tq]
 ·rename_i ty u b;have e:val L ρ j=.nilIface:=by
   simp only[bO,xo] at d;rw[<-d];rfl
  exact JM n he m f hy d (.iface ty u) .nilIface false (cP b) e (by simp) (by simp) (by simp) (by simp) (by simp) (by simp) (Ry p) c
 ·exact c.elim
theorem Dk {l c:List Value}{b r:Bool}(h:je [] l c b=some r):l=[]/\c=[]/\r=b:=by
 cases l with
 | cons v l=>simp[je] at h
 | nil =>
  cases c with
  | cons v l=>simp[je] at h
  | nil=>simp only[je,xo] at h;exact⟨rfl,rfl,h.symm⟩
theorem Av {ks:List Bool}{l c:List Value}{d r:Bool}(h:je (true::ks) l c d=some r):∃k a f b e,l=.int k a::f/\c=.int k b::e/\je ks f e (d&&decide (a=b))=some r:=by
 cases l with
 | nil=>simp[je] at h
 | cons v l =>
  cases c with
  | nil=>cases v<;>simp[je] at h
  | cons m c =>
   cases v<;>cases m<;>try (simp[je] at h;done)
   rename_i k a n b;simp only[je] at h;split at h
   ·rename_i j;have:=Au j;subst this;exact⟨k,a,l,b,c,rfl,rfl,h⟩
   ·cases h
theorem xC {ks:List Bool}{l c:List Value}{d r:Bool}(h:je (false::ks) l c d=some r):∃a f b e,l=.bool a::f/\c=.bool b::e/\je ks f e (d&&decide (a=b))=some r:=by
 cases l with
 | nil=>simp[je] at h
 | cons v l =>
  cases c with
  | nil=>cases v<;>simp[je] at h
  | cons j c =>
   cases v<;>cases j<;>try (simp[je] at h;done)
   rename_i a b;simp only[je] at h;exact⟨a,l,b,c,rfl,rfl,h⟩
theorem Dl (k:IntKind):pY k k=true:=by cases k<;>rfl
theorem JP:∀{ks:List Bool}{l f:List Value}{d r:Bool},je ks l f d=some r->∃e,(∀c,je ks l f c=some (c&&e))/\r=(d&&e):=by
 intro ks
 induction ks with
 | nil =>
  intro l f d r h;obtain⟨rfl,rfl,rfl⟩:=Dk h;exact⟨true,fun c=>by simp[je],by simp⟩
 | cons k ks n =>
  intro l f d r h;cases k with
  | true =>
   obtain⟨k,a,q,b,p,rfl,rfl,j⟩:=Av h;obtain⟨e,h1,m⟩:=n j;exact⟨decide (a=b)&&e,fun c=>by simp only[je,Dl,h1,Bool.and_assoc],by rw[m,Bool.and_assoc]⟩
  | false =>
   obtain⟨a,q,b,p,rfl,rfl,j⟩:=xC h;obtain⟨e,h1,m⟩:=n j;exact⟨decide (a=b)&&e,fun c=>by simp only[je,h1,Bool.and_assoc],by rw[m,Bool.and_assoc]⟩
theorem xD {t:TypeId}{d:TypeDesc}(c:P.underlying t=some d) (b:eW d=false) {cs:Array Value}{off:Nat}{v:Value}(h:cs[off]?=some v):(part t cs off).run P w=.ok v w:=by
 simp only[part,Sem.run_bind,Ar c,Result.andThen_ok,b,aa2,abQ,h,Sem.run_pure]
theorem tE {d:Nat}{xs ys:Array Value}:∀{fs:List Field}{k:Nat}{ks:List Bool}{b:Bool},oI P fs k=some ks->je ks (xs.toList.drop k) (ys.toList.drop k) true=some b->(Op.eqFields (d+1) xs ys fs).run P w=.ok b w
 | [],k,ks,b,h,he=>by
  simp only[oI,xo] at h;subst h;obtain⟨_,_,rfl⟩:=Dk he;simp[Op.eqFields]
 | f::fs,k,ks,b,h,he=>by
  have hcons:∀{zs:Array Value}{v:Value}{l:List Value},zs.toList.drop k=v::l->zs[k]?=some v/\zs.toList.drop (k+1)=l:=by
   intro zs v l e;refine⟨?_,?_⟩
   ·have:=vv (fun q=>q[0]?) e;simp only[abx,Nat.add_zero,aa3] at this;simpa using this
   ·rw[<-List.drop_drop,e];rfl
  have fin:∀{u v:Value}{l l':List Value}{ks':List Bool}{r:Bool}{dd:TypeDesc},P.underlying f.type=some dd->eW dd=false->f.offset=k->f.name≠"_"->xs.toList.drop k=u::l->ys.toList.drop k=v::l'->(Op.equalIn (d+1) f.type u v).run P w=.ok r w ->
    oI P fs (k+1)=some ks'->je ks' l l' r=some b->(Op.eqFields (d+1) xs ys (f::fs)).run P w=.ok b w:=by
   intro u v l l' ks' r dd hu hag ho hnm e1 e2 heq hfl hev;obtain⟨a1,a2⟩:=hcons e1;obtain⟨b1,b2⟩:=hcons e2;simp only[Op.eqFields];rw[eu hnm];simp only[Sem.run_bind,ho,xD hu hag a1,xD hu hag b1,Result.andThen_ok,heq];obtain⟨r0,q1,q2⟩:=JP hev;cases r with
   | false =>
    simp only[aaV] at q2;subst q2;simp
   | true =>
    simp only[aaS] at q2;subst q2;simp only[Bool.not_true,aa2,abQ];exact tE hfl (by rw[a2,b2];simpa using q1 true)
  simp only[oI] at h;split at h
  ·rename_i ki hoff hnm hu;split at h
   case h_2=>cases h
   rename_i ks' hks;injection h with h
   subst h;have hoff:=aaQ hoff;have hnm:=abM hnm;obtain⟨k1,x,l1,y,l2,e1,e2,he⟩:=Av he;exact fin hu rfl hoff hnm e1 e2 (run_equalIn_int w d f.type k1 _ x y hu) hks (by rw[show(x == y)=decide (x=y) from rfl];simpa using he)
  ·rename_i hoff hnm hu;split at h
   case h_2=>cases h
   rename_i ks' hks;injection h with h
   subst h;have hoff:=aaQ hoff;have hnm:=abM hnm;obtain⟨x,l1,y,l2,e1,e2,he⟩:=xC he;have hb:(x == y)=decide (x=y):=by cases x<;>cases y<;>rfl
   exact fin hu rfl hoff hnm e1 e2 (run_equalIn_bool' w d f.type x y hu) hks (by rw[hb];simpa using he)
  ·cases h
theorem JQ {t t':TypeId}{l:Array Field}{neg:Bool}{ks:List Bool}{y z:Operand}{q s:X}(hs:St F L w) (he:aD L ρ a) (hd:∀k,o.dst=some k->k<a.tmps.size)
  (p:o.op=.binOp (if neg then .neq else .eql) t y z t') (n:P.underlying t=some (.struct l)) (hk:oI P l.toList 0=some ks) (hp:P.stoodInHeld t=false) (hg:P.eqGuardType P.depth t=false) (hy:bO y=some q) (hz:bO z=some s)
  (c:evalOp P (.eqA neg ks q s) o.dst F L ρ K):o.wp P a w (bG F L w a K) Q:=by
 have r:=aG hy he;have ez:=aG hz he;simp only[evalOp,aL] at c;split at c
 case h_2=>exact c.elim
 rename_i cs ds h j;split at c
 case h_2=>exact c.elim
 rename_i b hb;have u:=cP (L:=L) h;have m:=cP (L:=L) j;have e:P.fieldsOf t=l:=by simp only[Program.fieldsOf,n]
 have f:(Op.equalIn 10000 t (.agg cs) (.agg ds)).run P w=.ok b w:=by
  rw[show(10000:Nat)=9999+1 from rfl,run_equalIn_agg w 9999 t cs ds (by rw[e];exact n) hp,e];exact tE (d:=9998) hk (by simpa using hb)
 refine bY hs he hd (v:=.bool (tq neg b)) (x:=.v (.bool (tq neg b))) ?_ rfl cC eV c;cases neg
 ·simp only[execOp,p,r,ez,u,m,Sem.run_bind,run_eqGuard_agg w _ t y z cs ds hg,Result.andThen_ok];simp[run_eql_struct,f,tq]
 ·simp only[execOp,p,r,ez,u,m,Sem.run_bind,run_eqGuard_agg w _ t y z cs ds hg,Result.andThen_ok];simp[run_neq_struct,f,tq]
end
section
variable {P:Program}{F:aA}{L:Loc}{ρ:Env}{a:Act}{w:World}{K:dG}{o:Oper}{Q:Exit->Act->World->Prop}
theorem Tt {t:TypeId}{op:UnOp}{y:Operand}{l:X}(h:St F L w) (he:aD L ρ a) (f:∀k,o.dst=some k->k<a.tmps.size)
  (j:o.op=.unOp op t y) (m:bO y=some l) (d:evalOp P (.un op l) o.dst F L ρ K):o.wp P a w (bG F L w a K) Q:=by
 have e:=aG m he;simp only[evalOp,aL] at d;split at d
 ·rename_i b c;refine bY h he f (v:=.bool (!b)) (x:=.v (.bool (!b))) ?_ rfl cC eV d;simp[execOp,j,e,cP c,Op.unary]
 ·rename_i k n c;obtain⟨d⟩:=d;refine bY h he f (v:=.int k (k.wrap (0-n))) (x:=.v (.int k (k.wrap (0-n)))) ?_ rfl cC eV d;simp[execOp,j,e,cP c,Op.unary,Op.intArith]
 ·rename_i k n c;refine bY h he f ?_ rfl cC eV d;simp[execOp,j,e,cP c,Op.unary,Op.intBits];rfl
 ·exact d.elim
theorem Nd {s t:TypeId}{k k0:IntKind}{y:Operand}{d:X}(j:St F L w) (he:aD L ρ a) (f:∀k,o.dst=some k->k<a.tmps.size)
  (m:o.op=.convert s t y) (h1:P.underlying s=some (.int k0)) (l:P.underlying t=some (.int k)) (h:bO y=some d) (b:evalOp P (.conv k d) o.dst F L ρ K):o.wp P a w (bG F L w a K) Q:=by
 have e:=aG h he;simp only[evalOp,aL] at b;split at b
 ·rename_i k1 n c;obtain⟨b⟩:=b;refine bY j he f (v:=.int k (k.wrap n)) (x:=.v (.int k (k.wrap n))) ?_ rfl cC eV b;simp[execOp,m,e,cP c,convert,run_underlying h1,run_underlying l,Conv.intToInt]
 ·exact b.elim
theorem Nf {f:FuncId}{d e:Array Operand}{b c:List X}(l:St F L w) (he:aD L ρ a) (j:∀k,o.dst=some k->k<a.tmps.size)
  (q:o.op=.makeFunc (.func f) d e) (h1:gG d.toList=some b) (n:gG e.toList=some c) (m:evalOp P (.mkfn f b c) o.dst F L ρ K):o.wp P a w (bG F L w a K) Q:=by
 have p:d.map a.eval=(bw L ρ b).toArray:=by apply Array.ext';simpa using gI h1 he
 have h:e.map a.eval=(bw L ρ c).toArray:=by apply Array.ext';simpa using gI n he
 refine bY l he j ?_ rfl cC eV m;simp[execOp,q,Instr.makeFunc,p,h];rfl
theorem Ng {i:Nat}{y:Operand}{d:X}(l:St F L w) (he:aD L ρ a) (f:∀k,o.dst=some k->k<a.tmps.size)
  (m:o.op=.extract y i) (h:bO y=some d) (b:evalOp P (.extr d i) o.dst F L ρ K):o.wp P a w (bG F L w a K) Q:=by
 have e:=aG h he;simp only[evalOp,aL] at b;split at b
 case h_2=>exact b.elim
 rename_i j c;split at b
 case h_2=>exact b.elim
 rename_i v n;refine bY l he f (v:=v) (x:=.v v) ?_ rfl cC eV b;have:j[i]?=some v:=by simpa using n
 simp[execOp,m,e,cP c,Instr.extract,this]
theorem H7 {t f:Nat}{y:Operand}{q:X}{fs:Array Field}{h:Field}{i:TypeInfo}(p:St F L w) (he:aD L ρ a) (n:∀k,o.dst=some k->k<a.tmps.size)
  (ho:o.op=.fieldAddr t y f) (ht:P.underlying t=some (.struct fs)) (hf:fs[f]?=some h) (hi:P.info? h.type=some i) (l:i.size≠0) (u:bO y=some q)
  (m:evalOp P (.fieldA h.offset q) o.dst F L ρ K):o.wp P a w (bG F L w a K) Q:=by
 have ey:=aG u he;have run:∀d:Addr,val L ρ q=.pointer (some d)->(execOp a.eval o).run P w=.ok (.value (.pointer (some (d.add h.offset)))) w:=by
  intro d hv;simp[execOp,ho,ey,hv,Instr.fieldAt,run_underlying ht,hf,Instr.sureAddr,fieldPlace,sizeOf,typeInfo,hi,l]
 simp only[evalOp,aL] at m;split at m
 ·rename_i k off c;obtain⟨g,ty,cs,s⟩:=qb u he c;refine bY p he n (v:=.pointer (some ⟨g,off+h.offset,none⟩)) (x:=.own k (off+h.offset)) ?_ (by simp only[conc,s]) (fun k' ab e=>by injection e with e1 z;subst e1;exact⟨g,ty,cs,s⟩) (fun _ _ e=>by cases e) m;rw[run ⟨g,off,none⟩ (by simp only[val,c,conc,s]),dm]
 ·rename_i d j c;have l:=qV u he c;cases d with
  | none=>exact fL rfl l
  | some d =>
   refine bY p he n (v:=.pointer (some (d.add (j+h.offset)))) (x:=.el (some d) (j+h.offset)) ?_ rfl (fun _ _ e=>by cases e) (fun r j' e=>by injection e with e1 z;subst e1;simp) m;rw[run (d.add j) (by simp only[val,c,conc])];congr 4;obtain⟨b,o',sp⟩:=d;unfold Addr.add
   by_cases h1:j=0<;>by_cases h2:h.offset=0<;>simp[h1,h2,Nat.add_assoc]
 ·rename_i d c;refine bY p he n (v:=.pointer (some (d.add h.offset))) (x:=.el (some d) h.offset) ?_ rfl (fun _ _ e=>by cases e) (fun r j' e=>by injection e with e1 z;subst e1;simp) m;rw[run d (cP c)]
 ·exact m.elim
theorem Nh {t e:TypeId}{y z:Operand}{m p:X}{i:TypeInfo}(r:St F L w) (he:aD L ρ a) (q:∀k,o.dst=some k->k<a.tmps.size)
  (u:o.op=.indexAddr t y z) (s:P.underlying t=some (.slice e)) (hi:P.info? e=some i) (hy:bO y=some m) (hz:bO z=some p)
  (b:evalOp P (.idxA i.size m p) o.dst F L ρ K):o.wp P a w (bG F L w a K) Q:=by
 have ey:=aG hy he;have ez:=aG hz he;simp only[evalOp,aL] at b;split at b
 case h_2=>exact b.elim
 rename_i d n c k j h l;obtain⟨f,h1,h2,b⟩:=b;cases d with
 | none=>exact fL rfl f
 | some d =>
  refine bY r he q (v:=.pointer (some (d.add (j.toNat*i.size)))) (x:=.el (some d) (j.toNat*i.size)) ?_ rfl (fun _ _ e=>by cases e) (fun aa j' e=>by injection e with e1 e2;subst e1;simp) b;simp[execOp,u,ey,ez,cP h,cP l,Instr.indexAt,asIntOf,run_underlying s,h1,h2,sizeOf,typeInfo,hi]
theorem Rz {t e:TypeId}{y:Operand}{h:X}{c:Call}(l:St F L w) (he:aD L ρ a) (j:∀k,o.dst=some k->k<a.tmps.size)
  (p:o.op=.call c) (r:c.callee=.builtin .len) (u:c.args=#[y]) (f:c.argTypes=#[t]) (m:P.underlying t=some (.slice e)) (s:bO y=some h)
  (b:evalOp P (.len h) o.dst F L ρ K):o.wp P a w (bG F L w a K) Q:=by
 have q:=aG s he;simp only[evalOp,aL] at b;split at b
 ·rename_i z n cp d;refine bY l he j (v:=.int .i64 n) (x:=.v (.int .i64 n)) ?_ rfl cC eV b;simp[execOp,p,resolve,r,u,f,invoke,builtin,Builtin.len_,q,cP d,run_underlying m,goInt]
 ·exact b.elim
theorem JR {L:Loc}{ρ:Env}:∀{xs:List X},bw L ρ xs=(xs.map (ev ρ)).map (conc L)
 | []=>rfl
 | _::xs=>by simp[bw,val,JR (xs:=xs)]
theorem RA (mx:Bool) (k:IntKind):∀(l:List SV) (a0 m:Int),Qv mx a0 l=some m ->
  ((l.map (conc L)).foldlM (if mx then Builtin.max2 else Builtin.min2) (.int k a0)).run P w=.ok (.int k m) w:=by
 intro l
 induction l with
 | nil=>intro a0 m h;simp only[Qv,xo] at h;subst h;rfl
 | cons x l d =>
  intro a0 m h;unfold Qv at h;split at h
  ·rename_i c;cases c
  ·rename_i e b f c;injection c with h1 h2
   subst h1 h2;have:=d _ _ h;cases mx
   ·simp only[aaX,List.foldlM_cons,conc,Sem.run_bind];simp only[aa2,abQ] at this ⊢;simp only[Builtin.min2,Sem.run_pure,Result.andThen_ok];exact this
   ·simp only[aaX,List.foldlM_cons,conc,Sem.run_bind];simp only[abj] at this ⊢;simp only[Builtin.max2,Sem.run_pure,Result.andThen_ok];exact this
  ·cases h
theorem Qx {mx:Bool}{c:Call}{xs:List X}(q:St F L w) (he:aD L ρ a) (j:∀k,o.dst=some k->k<a.tmps.size)
  (h:o.op=.call c) (f:c.callee=.builtin (if mx then .max else .min)) (r:gG c.args.toList=some xs)
  (d:evalOp P (.mm mx xs) o.dst F L ρ K):o.wp P a w (bG F L w a K) Q:=by
 have b:=gI r he;rw[JR] at b;simp only[evalOp,aL] at d;split at d
 case h_2=>exact d.elim
 rename_i k a0 l p;split at d
 case h_2=>exact d.elim
 rename_i m n;rw[p] at b;have e:=RA (P:=P) (L:=L) (w:=w) mx k l a0 m n;refine bY q he j (v:=.int k m) (x:=.v (.int k m)) ?_ rfl cC eV d;cases mx
 ·simp only[aa2,abQ] at f e;simp only[execOp,h,resolve,f,invoke,builtin,Builtin.min_,Sem.run_bind,Sem.run_pure,Result.andThen_ok,Array.toList_map,b,aaX,conc,e]
 ·simp only[abj] at f e;simp only[execOp,h,resolve,f,invoke,builtin,Builtin.max_,Sem.run_bind,Sem.run_pure,Result.andThen_ok,Array.toList_map,b,aaX,conc,e]
theorem Ni {t:TypeId}{d:TypeDesc}{y:Operand}{p:X}(h:St F L w) (he:aD L ρ a) (f:∀k,o.dst=some k->k<a.tmps.size)
  (n:o.op=.makeInterface t y) (l:P.underlying t=some d) (e:∀s,d≠.interface s) (r:bO y=some p) (c:evalOp P (.mkif t p) o.dst F L ρ K):o.wp P a w (bG F L w a K) Q:=by
 have q:=aG r he;simp only[evalOp,aL] at c;split at c
 ·rename_i v b;refine bY h he f (v:=.iface t v) (x:=.v (.iface t v)) ?_ rfl cC eV c;simp only[execOp,n,q,cP b,Instr.makeInterface];simp only[Sem.run_bind,Sem.run_map,run_underlying l,Result.andThen_ok];cases d<;>first | exact fL rfl (e _) | simp
 ·rename_i m j b;refine bY h he f (v:=.iface t (.pointer (some (m.add j)))) (x:=.v (.iface t (.pointer (some (m.add j))))) ?_ rfl cC eV c;simp only[execOp,n,q,val,b,conc,Instr.makeInterface];simp only[Sem.run_bind,Sem.run_map,run_underlying l,Result.andThen_ok];cases d<;>first | exact fL rfl (e _) | simp
 ·exact c.elim
theorem RB {t xt:TypeId}{d:TypeDesc}{i:TypeInfo}{z:Value}{y:Operand}{p:X}(j:St F L w) (he:aD L ρ a) (h:∀k,o.dst=some k->k<a.tmps.size)
  (m:o.op=.typeAssert y xt t true) (l:P.underlying t=some d) (f:∀ms,d≠.interface ms) (hi:P.info? t=some i) (q:i.zero=some z) (s:bO y=some p) (c:evalOp P (.tas t z p) o.dst F L ρ K):o.wp P a w (bG F L w a K) Q:=by
 have n:=aG s he;simp only[evalOp,aL] at c;split at c
 ·rename_i b;refine bY j he h (v:=.tuple #[z,.bool false]) (x:=.v (.tuple #[z,.bool false])) ?_ rfl cC eV c;simp only[execOp,m,n,cP b,Instr.typeAssert];simp only[Sem.run_bind,Sem.run_map,run_underlying l,Result.andThen_ok];cases d<;>first | exact fL rfl (f _) | simp[zeroValue,typeInfo,hi,q]
 ·rename_i r u b;split at c
  ·rename_i hb;have hb:=aaQ hb;refine bY j he h (v:=.tuple #[u,.bool true]) (x:=.v (.tuple #[u,.bool true])) ?_ rfl cC eV c;simp only[execOp,m,n,cP b,Instr.typeAssert];simp only[Sem.run_bind,Sem.run_map,run_underlying l,Result.andThen_ok];cases d<;>first | exact fL rfl (f _) | simp[hb]
  ·rename_i hb;have hb:r≠t:=fun e=>by rw[e,Nat.beq_refl] at hb;cases hb
   refine bY j he h (v:=.tuple #[z,.bool false]) (x:=.v (.tuple #[z,.bool false])) ?_ rfl cC eV c;simp only[execOp,m,n,cP b,Instr.typeAssert];simp only[Sem.run_bind,Sem.run_map,run_underlying l,Result.andThen_ok];cases d<;>first | exact fL rfl (f _) | simp[zeroValue,typeInfo,hi,q,hb]
 ·exact c.elim
theorem Gp:∀{l:List (TypeId×String)}{t:TypeId}{b:String},Tq l t b=true->(t,b)∈l
 | [],_,_,h=>by cases h
 | (t,b)::l,e,c,h=>by
  simp only[Tq] at h;split at h
  ·rename_i h1 d;rw[<-aaQ h1,<-abt d];exact List.mem_cons_self ..
  ·exact abg _ (Gp h)
theorem Aw {t:TypeId}{n:String}{f:FuncId}(h:tj P t n=some f):∃i m b d,P.info? t=some i/\i.methods.find? (·.name == n)=some m/\m.path.toList=[]/\m.func=some (f,b)/\P.underlying t=some d /\
  ((∃e,d=.pointer e/\b=true)\/((∀e,d≠.pointer e)/\b=false)):=by
 simp only[tj] at h;split at h
 case h_2=>cases h
 rename_i i hi;split at h
 case h_2=>cases h
 rename_i m k;split at h
 case h_2=>cases h
 rename_i f' b l hf;split at h
 ·rename_i e c;injection h with h;subst h
  exact⟨i,m,_,_,hi,k,l,hf,c,.inl ⟨_,rfl,rfl⟩⟩
 ·cases h
 ·rename_i d j c;injection h with h;subst h
  exact⟨i,m,_,_,hi,k,l,hf,c,.inr ⟨fun e he=>j e he,rfl⟩⟩
 ·cases h
theorem Ay (P:Program):∃n,P.types.size+Made.depth=n+1:=⟨P.types.size+99,by simp[Made.depth]⟩
theorem H8 {t:TypeId}{c:String}{f:FuncId}(h:tj P t c=some f) (v:Value) (w:World):(method (P.types.size+Made.depth) t v c).run P w=.ok (f,v) w:=by
 obtain⟨i,m,r,d,h1,l,k,j,p,b⟩:=Aw h;obtain⟨n,q⟩:=Ay P;rw[q];simp only[method,Sem.run_bind,typeInfo,run_program,Result.andThen_ok,h1,Sem.run_pure,l,k,follow,j,receiverAt,run_underlying p];rcases b with⟨e,rfl,rfl⟩ | ⟨b,rfl⟩
 ·simp only[Place.get,Sem.run_pure,Result.andThen_ok]
 ·cases d<;>first | exact fL rfl (b _) | simp only[Place.get,Sem.run_pure,Result.andThen_ok]
theorem H9 {t:TypeId}{c:String}{f:FuncId}(h:tj P t c=some f) (v:Value) (w:World):(nilAhead (P.types.size+Made.depth) t v c).run P w=.ok (some false) w:=by
 obtain⟨i,m,r,d,h1,l,k,j,p,b⟩:=Aw h;obtain⟨n,q⟩:=Ay P;rw[q];simp only[nilAhead,Sem.run_bind,typeInfo,run_program,Result.andThen_ok,h1,Sem.run_pure,l,k,followBlind,j];rcases b with⟨e,rfl,rfl⟩ | ⟨b,rfl⟩
 ·rfl
 ·simp only[Sem.run_bind,run_underlying p,Result.andThen_ok];cases d<;>first | exact fL rfl (b _) | rfl
theorem Nj {t:TypeId}{b:String}{d e:Array Operand}(j:St F L w) (he:aD L ρ a) (h:∀k,o.dst=some k->k<a.tmps.size)
  (p:o.op=.makeFunc (.methodOf t b) d e) (h1:d.toList=[]) (m:e.toList=[]) (l:evalOp P (.mov (.c (.func (.methodOf t b) #[] #[]))) o.dst F L ρ K):o.wp P a w (bG F L w a K) Q:=by
 have n:d=#[]:=by apply Array.ext';exact h1
 have f:e=#[]:=by apply Array.ext';exact m
 refine bY j he h (v:=.func (.methodOf t b) #[] #[]) (x:=.v (.func (.methodOf t b) #[] #[])) ?_ rfl cC eV l;simp[execOp,p,Instr.makeFunc,n,f]
theorem Dm {t:TypeId}{g k:Nat}{d:TypeDesc}{i:TypeInfo}(h:St F L w) (he:aD L ρ a) (m:∀k,o.dst=some k->k<a.tmps.size)
  (r:o.op=.load t (.global g)) (p:P.underlying t=some d) (hi:P.info? t=some i) (c:eW d=false) (y:wL g=some k) (e:evalOp P (.gload g) o.dst F L ρ K):o.wp P a w (bG F L w a K) Q:=by
 simp only[evalOp,aL] at e;obtain⟨v,ty,z,hF,e⟩:=e;have q:=h.frz _ _ hF;refine bY h he m (v:=v) (x:=.v v) ?_ rfl cC eV e;have s:a.eval (.global g)=.pointer (some ⟨g,0,none⟩):=rfl;have b:∀(j:Nat) (u:Value),[v][j]?=some u->w.cell? ((⟨g,0,none⟩:Addr).add j)=some u:=by
  intro j u f;cases j with
  | zero =>
   simp only[aa3,xo] at f;subst f;rw[dm];simp[World.cell?,q]
  | succ j=>simp at f
 have l:=oL p hi b (n:=1) rfl (by rw[c]);rw[c] at l;simp only[execOp,r,s,Sem.run_bind,l,Result.andThen_ok,Sem.run_pure,iy]
theorem JS {y:Operand}{y':X}(n:St F L w) (he:aD L ρ a) (m:∀k,o.dst=some k->k<a.tmps.size)
  (q:o.op=.nilCheck y) (hy:bO y=some y') (l:Qr P=true) (c:evalOp P (.nilck y') o.dst F L ρ K):o.wp P a w (bG F L w a K) Q:=by
 have r:=aG hy he;simp only[evalOp,aL] at c;split at c
 ·rename_i k off b;obtain⟨g,ty,cs,hg⟩:=qb hy he b;refine bY n he m (v:=.pointer (some ⟨g,off,none⟩)) (x:=.own k off) ?_ (by simp only[conc,hg]) (fun k' al e=>by injection e with e1 e2;subst e1;exact⟨g,ty,cs,hg⟩) (fun _ _ e=>by cases e) c;simp[execOp,q,r,val,b,conc,hg]
 ·rename_i d j b;obtain⟨z,c⟩:=c;cases d with
  | none=>exact fL rfl z
  | some d =>
   refine bY n he m (v:=.pointer (some (d.add j))) (x:=.el (some d) j) ?_ rfl (fun _ _ e=>by cases e) (fun an j' e=>by injection e with e1 e2;subst e1;simp) c;simp[execOp,q,r,val,b,conc]
 ·rename_i d b;refine bY n he m (v:=.pointer (some d)) (x:=.v (.pointer (some d))) ?_ rfl cC eV c;simp[execOp,q,r,cP b]
 ·rename_i f h p b;refine bY n he m (v:=.func (.func f) h p) (x:=.v (.func (.func f) h p)) ?_ rfl cC eV c;simp[execOp,q,r,cP b]
 ·rename_i nm h p b;split at c
  case h_2=>exact c.elim
  rename_i t u aa;obtain⟨hm,c⟩:=c;have h1:=aaY.1 l _ (Gp hm);obtain⟨f,hf⟩:=Option.isSome_iff_exists.1 h1;have s:h[0]?=some (.iface t u):=by rw[<-Array.getElem?_toList,aa];rfl
  refine bY n he m (v:=.func (.method nm) h p) (x:=.v (.func (.method nm) h p)) ?_ rfl cC eV c;have hn:=H9 (P:=P) hf u w;simp only[execOp,q,r,cP b,s,Sem.run_bind,run_program,Result.andThen_ok,Sem.run_pure,hn];rfl
 ·exact c.elim
theorem Dn:∀{l:List Value},j9 l=true->∀u∈l,u.oneCell'=true
 | [],_,u,b=>by cases b
 | v::l,h,u,b=>by
  simp only[j9] at h;split at h
  ·rename_i h1;rcases aaT.1 b with rfl | b
   ·exact h1
   ·exact Dn h u b
  ·cases h
theorem Dp {t:TypeId}{i:TypeInfo}(hi:P.info? t=some i) {g off:Nat}{v:Value}{b:Array Value}{ty:TypeId}(f:w.heap[g]?=some (.cells b ty (0,0)))
  (e:v.cells.size=i.size) (d:off+v.cells.size<=b.size) (h1:∀u∈v.cells.toList,u.oneCell'=true) :
  (Instr.storeAt t (.pointer (some ⟨g,off,none⟩)) v).run P w=.ok () (w.setRow g (bU b.toList off v.cells.toList).toArray):=by
 have c:=run_storeCells_at P g off ty v.cells.toList 0 b w f (by simpa using d) h1;simp only[Nat.add_zero] at c;simp only[Instr.storeAt,Instr.sureAddr,storeVar,Sem.run_bind,Sem.run_pure,Result.andThen_ok,sizeOf,typeInfo,run_program,hi];rw[fo (by omega)];rw[c];rfl
theorem tF (w:World) (g:Nat) (cs:Array Value):w.grownBy (w.setRow g cs) (some g) :=
 ⟨rfl,rfl,rfl,by simp[World.setRow],fun k _ b=>setRow_other w g k cs (fun e=>b (by rw[e]))⟩
theorem JT {t:TypeId}{y z:Operand}{y' z':X}{i:TypeInfo}(hs:St F L w) (he:aD L ρ a) (hd:∀k,o.dst=some k->k<a.tmps.size)
  (ho:o.op=.store t y z) (hi:P.info? t=some i) (bu:i.size≠0) (hy:bO y=some y') (hz:bO z=some z')
  (p:evalOp P (.store i.size y' z') o.dst F L ρ K):o.wp P a w (bG F L w a K) Q:=by
 have ey:=aG hy he;have ez:=aG hz he;have av:aO (val L ρ z')=(a.eval z).cells.toList:=by rw[ez,nJ]
 have turn:∀(k:Nat) (g:Nat) (oo o':Own) (f:Array Value) (ty:TypeId) (off:Nat),L.get k=some oo->oo.blk=some g->o'.blk=some g->w.heap[g]?=some (.cells f ty (0,0)) ->
   (a.eval z).cells.size=i.size->off+(a.eval z).cells.size<=f.size->(∀u∈(a.eval z).cells.toList,u.oneCell'=true)->a.eval y=.pointer (some ⟨g,off,none⟩) ->
   o'.ok (w.setRow g (bU f.toList off (a.eval z).cells.toList).toArray)->(∀g' ty' cs',oo=.box g' ty' cs'->∃ab,o'=.box g' ty' ab) ->
   K F (L.set k o') (put o.dst (.v undef) ρ)->o.wp P a w (bG F L w a K) Q:=by
  intro k g oo o' f ty off hk hb aE hg bc d h1 ar bm s p;have q:=tF w g (bU f.toList off (a.eval z).cells.toList).toArray;have bo:St F (L.set k o') (w.setRow g (bU f.toList off (a.eval z).cells.toList).toArray) :=
   hs.turn hk bm (fun b ao be=>q.block b ao (fun e=>be (by rw[hb,e]))) (fun g' bd=>.inl (by rw[hb];rw[aE] at bd;exact bd))
  refine Di he hd (w':=w.setRow g (bU f.toList off (a.eval z).cells.toList).toArray) ?_ bo ?_ ?_ p
  ·simp[execOp,ho,ar,Dp hi hg bc d h1]
  ·refine⟨aA.le_refl F,rfl,rfl,rfl,q.size,fun b ao hn=>q.block b ao (fun e=>hn ⟨k,oo,hk,by rw[hb,e]⟩),fun b h=>.inl h,fun b h=>?_⟩;rcases Loc.aan h with h | h
   ·rw[aE] at h;exact .inl ⟨k,oo,hk,by rw[hb];exact h⟩
   ·exact .inl h
  ·intro j g' ty' cs' e;rw[Loc.aac];split
   ·rename_i hj;subst hj;rw[hk] at e;injection e with e
    obtain⟨ab,h⟩:=s g' ty' cs' e;exact⟨ab,by rw[h]⟩
   ·exact⟨cs',e⟩
 have l:∀(ad:Option Addr) (j:Nat),ad≠none->a.eval y=conc L (.el ad j)->ig (aO (val L ρ z')) i.size=true->j9 (aO (val L ρ z'))=true ->
   (qU L ad j (aO (val L ρ z')) fun L'=>K F L' (put o.dst (.v undef) ρ))->o.wp P a w (bG F L w a K) Q:=by
  rintro ad j be ar hl h1 ⟨k,v,ty,sz,m,xs,ch,c,hk,rfl,rfl,d,ba,p⟩;have hl:=jN hl;rw[av] at hl ba d p;have am:(a.eval z).cells.size=i.size:=by simpa using hl
  have r:=hs.own k _ hk;simp only[Own.ok] at r;obtain⟨hx,r⟩:=r;rcases r with⟨e,_⟩ | ⟨g,cap,f,e,bt,hg,az,bl,ag,ac⟩
  ·cases e
  ·injection e with e1 e2 e3
   injection e1 with e1
   subst e1 e3;have ce:m*sz<=f.size:=by rw[ag];exact Nat.mul_le_mul_right _ az
   rw[<-ac] at d;have an:j+(a.eval z).cells.size<=m*sz:=by simp at d;omega
   refine turn k g _ (.row (.slice (some ⟨g,0,none⟩) m c) ty sz m (bU xs j (a.eval z).cells.toList)) f ty j hk rfl rfl hg am (by omega) ba (by rw[ar];simp only[conc];rw[dm];simp) ?_ (fun g' ty' cs' e=>by cases e) p;refine⟨?_,.inr ⟨g,c,_,rfl,bt,setRow_heap w g f _ ty _ hg,az,bl,?_,?_⟩⟩
   ·rw[kK _ _ _ (by rw[hx];simpa using an)];exact hx
   ·have:(bU f.toList j (a.eval z).cells.toList).length=f.size:=by rw[kK _ _ _ (by simp;omega)];simp
    simp[this,ag]
   ·rw[List.toList_toArray,<-ac];apply abP;intro n;have bp:j+(a.eval z).cells.toList.length<=f.toList.length:=by simp;omega
    rw[oK (by simp;omega)]
    by_cases hn:n<m*sz
    ·rw[List.getElem?_take_of_lt hn,oK bp,List.getElem?_take_of_lt hn]
    ·rw[abl (by simp;omega)];have h1:¬n<j:=by omega
     have h2:¬n<j+(a.eval z).cells.toList.length:=by simp;omega
     rw[fo h1,fo h2,abl (by simp;omega)]
 simp only[evalOp,aL] at p;split at p
 ·rename_i hl h1 x;rename_i k off;have hl:=jN hl;have h1:=Dn h1;rw[av] at hl h1;split at p
  case h_2=>exact p.elim
  rename_i g ty cs hk;split at p
  case h_2=>exact p.elim
  rename_i d;have bb:=wN d;have d:=jN (BU d);have s:w.heap[g]?=some (.cells cs.toArray ty (0,0)):=by rw[<-jy bb];exact hs.own k _ hk
  have bk:off+i.size<=cs.length:=by simp at d;omega
  rw[av] at p;have am:(a.eval z).cells.size=i.size:=by simpa using hl
  refine turn k g _ (.box g ty (bU cs off (a.eval z).cells.toList)) cs.toArray ty off hk rfl rfl s am (by simp;omega) h1 (by rw[ey];simp only[val,x,conc,hk]) ?_ (fun g' ty' cs' e=>by injection e with e1 e2 e3;subst e1 e2;exact⟨_,rfl⟩) p;show _=_;rw[jy bb];exact setRow_heap w g cs.toArray _ ty _ s
 ·rename_i hl h1 x;exact l _ _ (qV hy he x) (by rw[ey];simp only[val,x]) hl h1 p
 ·rename_i hl h1 x;rename_i ad;refine l (some ad) 0 (by simp) (by rw[ey];simp only[val,x,conc];simp[Addr.add]) hl h1 p
 ·exact p.elim
end
section
variable {P:Program}(w:World)
end
section
variable {P:Program}{F:aA}{L:Loc}{ρ:Env}{a:Act}{w:World}{K:dG}{o:Oper}{Q:Exit->Act->World->Prop}
theorem Az {b:Option Operand}{c:Option X}(h:tw b=some c) (he:aD L ρ a) {d i:Int}(hi:nG ρ d c=some i) :
  (b=none/\i=d)\/∃y k,b=some y/\a.eval y=.int k i:=by
 cases b with
 | none=>simp only[tw,xo] at h;subst h;simp only[nG,xo] at hi;exact .inl ⟨rfl,hi.symm⟩
 | some y =>
  simp only[tw] at h;split at h
  case h_2=>cases h
  rename_i x e;injection h with h
  subst h;simp only[nG] at hi;split at hi
  case h_2=>cases hi
  rename_i k j f;injection hi with hi
  subst hi;exact .inr ⟨y,k,rfl,by rw[aG e he,cP f]⟩
theorem jO {k:IntKind}{i:Int}{y:Nat}{code:BoundsCode}(h0:0<=i) (h1:i<=y):(Instr.sliceBound (.int k i) y code).run P w=.ok i.toNat w:=by
 simp[Instr.sliceBound,asIntOf,h0,h1]
theorem wu {b:Bool}{n c:Nat}{lo hi:Option Operand}{e d:Option X}{l h:Int}(p:tw lo=some e) (s:tw hi=some d) (he:aD L ρ a)
  (el:nG ρ 0 e=some l) (r:nG ρ n d=some h) (h1:0<=l) (t:l<=h) (f:h<=c) :
  (Instr.sliceBounds b n c (lo.map a.eval) (hi.map a.eval) none).run P w=.ok (l.toNat,h.toNat,c) w:=by
 unfold Instr.sliceBounds;rcases Az p he el with⟨rfl,rfl⟩ | ⟨y,k,rfl,j⟩<;>rcases Az s he r with⟨rfl,rfl⟩ | ⟨z,u,rfl,m⟩
 ·simp
 ·simp[m,jO (P:=P) (w:=w) (show 0<=h by omega) f]
 ·simp[j,jO (P:=P) (w:=w) h1 t]
 ·have q:l<=(h.toNat:Nat):=by omega
  simp[j,m,jO (P:=P) (w:=w) (show 0<=h by omega) f,jO (P:=P) (w:=w) h1 q]
theorem RD {t e:TypeId}{y:Operand}{lo up:Option Operand}{q:X}{j f:Option X}{i:TypeInfo}(z:St F L w) (he:aD L ρ a) (s:∀k,o.dst=some k->k<a.tmps.size)
  (ho:o.op=.slice t y lo up none) (ht:P.underlying t=some (.slice e)) (hi:P.info? e=some i) (hy:bO y=some q) (r:tw lo=some j) (hh:tw up=some f)
  (d:evalOp P (.slc i.size q j f) o.dst F L ρ K):o.wp P a w (bG F L w a K) Q:=by
 have ey:=aG hy he;simp only[evalOp,aL] at d;split at d
 case h_2=>exact d.elim
 rename_i p n c m;split at d
 case h_2=>exact d.elim
 rename_i l h el eh;obtain⟨h1,h2,u,d⟩:=d;refine bY z he s (v:=r9 p c l.toNat h.toNat i.size) (x:=.v (r9 p c l.toNat h.toNat i.size)) ?_ rfl cC eV d;have hb:=wu (P:=P) (w:=w) (b:=true) r hh he el eh h1 h2 u;simp[execOp,ho,ey,cP m,Instr.sliceAt,Instr.slice,run_underlying ht,hb,sizeOf,typeInfo,hi,r9]
theorem xE (z:Array Value) (n:Nat) (p:0<z.size):(madeCells z (n*z.size)).toList=(List.replicate n z.toList).flatten:=by
 induction n with
 | zero=>simp[madeCells]
 | succ n d =>
  rw[List.replicate_succ',List.flatten_append,<-d];apply abP;intro j;have e:(madeCells z (n*z.size)).toList.length=n*z.size:=by simp[madeCells]
  have b:∀m j,j<m->(madeCells z m).toList[j]?=some (z[j % z.size]!):=by
   intro m j k;simp[madeCells,k]
  have h:(n+1)*z.size=n*z.size+z.size:=Nat.succ_mul _ _
  by_cases h1:j<n*z.size
  ·rw[abF (by omega),b _ _ (by omega),b _ _ h1]
  ·rw[abG (by omega),e]
   by_cases f:j<(n+1)*z.size
   ·rw[b _ _ f];have c:j-n*z.size<z.size:=by omega
    have l:j % z.size=j-n*z.size:=by
     have:j=(j-n*z.size)+z.size*n:=by rw[Nat.mul_comm z.size n];omega
     rw[this,Nat.add_mul_mod_self_left,Nat.mod_eq_of_lt c,Nat.mul_comm z.size n];omega
    simp[c,l]
   ·rw[abl (by simp[madeCells];omega),abl (by simp;omega)]
theorem JU {t e:TypeId}{y z:Operand}{y' z':X}{i:TypeInfo}{b:Value}(hs:St F L w) (he:aD L ρ a) (hd:∀k,o.dst=some k->k<a.tmps.size)
  (ho:o.op=.makeSlice t y z) (ht:P.underlying t=some (.slice e)) (hi:P.info? e=some i) (ad:i.zero=some b) (p:b.cells.size=i.size) (ao:0<i.size) (hy:bO y=some y') (hz:bO z=some z')
  (c:evalOp P (.makeS e i.size i.bytes b.cells.toList y' z') o.dst F L ρ K):o.wp P a w (bG F L w a K) Q:=by
 have ey:=aG hy he;have ez:=aG hz he;simp only[evalOp,aL] at c;split at c
 case h_2=>exact c.elim
 rename_i k1 n k2 m k ab ac al;split at c
 case h_2=>exact c.elim
 rename_i _ hk;obtain⟨h0,s,hb,l,c⟩:=c;have c:=c w.heap.size;obtain⟨r,rfl⟩:=Int.eq_ofNat_of_zero_le h0;obtain⟨q,rfl⟩:=Int.eq_ofNat_of_zero_le (Int.le_trans h0 s);simp only[Int.toNat_natCast] at hb l c;have ag:r<=q:=by omega
 have j:(i.bytes:Int)*(q:Int)<=281474976710656:=by
  have h:((i.bytes*q:Nat):Int)<=281474976710656:=by rw[Nat.mul_comm];omega
  rwa [Int.natCast_mul] at h
 have aa:(q:Int)<=9223372036854775807:=by
  have h:=l;simp[maxLen] at h;omega
 have hr:=run_make (P:=P) w t e i b ht hi ad k1 k2 r q (by omega) s j aa;simp only[Int.toNat_natCast] at hr;have f:=xE b.cells q (by omega);rw[p] at f;have d:∀m:Nat,(List.replicate m b.cells.toList).flatten.length=m*i.size:=by
  intro m;simp[p]
 have ae:(List.replicate r b.cells.toList).flatten=(List.replicate q b.cells.toList).flatten.take (r*i.size):=by
  have e1:q=r+(q-r):=by omega
  conv=>rhs;rw[e1]
  rw[<-List.replicate_append_replicate,List.flatten_append,List.take_append_of_le_length (by rw[d];exact aa0 _),abA (by rw[d];exact aa0 _)]
 have u:(w.alloc (.cells (madeCells b.cells (q*i.size)) e)).ownsRow 0 e i.size (.slice (some ⟨w.heap.size,0,none⟩) r q) r (List.replicate r b.cells.toList).flatten:=by
  refine⟨d r,.inr ⟨w.heap.size,q,madeCells b.cells (q*i.size),rfl,aa8 _,iA w _,ag,l,size_madeCells _ _,?_⟩⟩;rw[ae,<-f]
 obtain⟨h1,h2,h3⟩:=kx hs hk (cs:=madeCells b.cells (q*i.size)) (t:=e) (e:=.row (.slice (some ⟨w.heap.size,0,none⟩) r q) e i.size r (List.replicate r b.cells.toList).flatten) rfl u;refine jM he hd (v:=.slice (some ⟨w.heap.size,0,none⟩) r q) (x:=.v (.slice (some ⟨w.heap.size,0,none⟩) r q)) ?_ h1 h2 rfl cC eV h3 c;simp only[execOp,ho,ey,ez,cP ab,cP ac,Sem.run_bind,hr,Result.andThen_ok,Sem.run_pure]
theorem JV (x:St F L w) {k:Nat}{e:TypeId}{sz n u:Nat}{s v:Value}{xs f:List Value}{w':World}
  (l:L.get k=some (.row s e sz n xs)\/(L.get k=none/\s=.slice none 0 0)) (p:w'.ownsRow 0 e sz v u f) (d:w.grownBy w' s.ownBlock)
  (r:v.ownBlock=s.ownBlock\/v.ownBlock=some w.heap.size) :
  St F (L.set k (.row v e sz u f)) w'/\Step F L w F (L.set k (.row v e sz u f)) w'/\(∀j g ty cs,L.get j=some (.box g ty cs)->∃cs',(L.set k (.row v e sz u f)).get j=some (.box g ty cs')):=by
 have m:∀j g ty cs,L.get j=some (.box g ty cs)->∃cs',(L.set k (.row v e sz u f)).get j=some (.box g ty cs'):=by
  intro j g ty cs ej;rw[Loc.aac];split
  ·rename_i hj;subst hj;rcases l with h | ⟨h,_⟩<;>rw[h] at ej<;>cases ej
  ·exact⟨cs,ej⟩
 rcases l with t | ⟨t,rfl⟩
 ·refine⟨x.turn t p (fun b hb z=>d.block b hb (fun e=>z (by simpa[Own.blk] using e.symm))) (fun g c=>?_),⟨aA.le_refl F,d.os,d.tape,d.output,d.size,fun b hb hn=>d.block b hb (fun e=>hn ⟨k,_,t,e.symm⟩),fun b h=>.inl h,fun b h=>?_⟩,m⟩
  ·rcases r with h | h
   ·exact .inl (by simp only[Own.blk] at c ⊢;rw[<-h];exact c)
   ·simp only[Own.blk] at c;rw[h] at c;injection c with c;exact .inr (by omega)
  ·rcases Loc.aan h with h | h
   ·simp only[Own.blk] at h;rcases r with q | q
    ·exact .inl ⟨k,_,t,by simp only[Own.blk];rw[<-q];exact h⟩
    ·rw[q] at h;injection h with h;exact .inr (by omega)
   ·exact .inl h
 ·have hv:∀g,v.ownBlock=some g->w.heap.size<=g:=by
   intro g h;rcases r with q | q
   ·rw[q] at h;cases h
   ·rw[q] at h;injection h with h;omega
  have y:St F L w':=x.keep fun b hb=>d.block b hb (by simp[Value.ownBlock]);refine⟨y.put t p fun g c=>⟨?_,fun ho=>?_⟩,⟨aA.le_refl F,d.os,d.tape,d.output,d.size,fun b hb hn=>d.block b hb (by simp[Value.ownBlock]),fun b h=>.inl h,fun b h=>?_⟩,m⟩
  ·cases hF:F g with
   | none=>rfl
   | some _=>have h1:=x.aax (b:=g) (by rw[hF];simp);have h2:=hv g c;omega
  ·have h1:=x.aaA ho;have h2:=hv g c;omega
  ·rcases Loc.aan h with h | h
   ·exact .inr (hv b h)
   ·exact .inl h
theorem Dq {e:TypeId}{sz n:Nat}{v:Value}{xs:List Value}(h:w.ownsRow 0 e sz v n xs):∃a c,v=.slice a n c/\(a=none->n=0):=by
 rcases h.2 with⟨rfl,rfl⟩ | ⟨g,cap,b,rfl,_⟩
 ·exact⟨none,0,rfl,fun _=>rfl⟩
 ·exact⟨_,cap,rfl,fun e=>(by cases e)⟩
theorem sj {t ty e:TypeId}{i:TypeInfo}(h:P.underlying t=some (.slice e)) (hi:P.info? e=some i) {s:Value}{n:Nat}{xs:List Value}(b:w.ownsRow 0 e i.size s n xs) (f:Option Addr) (c:Nat) :
  ∃w',(Builtin.append_ #[t,t] ty #[s,.slice f 0 c]).run P w=.ok s w'/\w'=w:=by
 refine⟨w,?_,rfl⟩;have hf:(Builtin.firstCells i.size 0 (.slice f 0 c)).run P w=.ok #[] w:=by
  cases f<;>simp[Builtin.firstCells,loadCells,loadCellsFrom]
 rcases b.2 with⟨rfl,rfl⟩ | ⟨g,cap,j,rfl,_,_,d,_⟩
 ·simp[Builtin.append_,run_underlying h,sizeOf,typeInfo,hi,Builtin.lenOf,hf]
 ·simp[Builtin.append_,run_underlying h,sizeOf,typeInfo,hi,Builtin.lenOf,hf,d,storeCells]
theorem RH {t e:TypeId}{y z:Operand}{y' z':X}{i:TypeInfo}{zv:Value}{c:Call}(hs:St F L w) (he:aD L ρ a) (hd:∀k,o.dst=some k->k<a.tmps.size)
  (ho:o.op=.call c) (hc:c.callee=.builtin .append) (ha:c.args=#[y,z]) (bv:c.argTypes=#[t,t]) (ht:P.underlying t=some (.slice e)) (hi:P.info? e=some i) (bl:i.zero=some zv) (cc:zv.cells.size=i.size) (ax:0<i.size)
  (hy:bO y=some y') (hz:bO z=some z') (hK:evalOp P (.app e i.size i.bytes zv.cells.toList y' z') o.dst F L ρ K):o.wp P a w (bG F L w a K) Q:=by
 have ey:=aG hy he;have ez:=aG hz he;simp only[evalOp,aL] at hK;split at hK
 case h_2=>exact hK.elim
 rename_i s x bk cb;obtain⟨kd,n,xs,m,f,bi,⟨ad,cx,rfl,ac,aE⟩,h1,bz,bm,hK⟩:=hK;have av:m≠0->∃d,ad=some d/\∀j u,f[j]?=some u->w.cell? (d.add j)=some u:=by
  intro hm;rcases aE with q | ⟨ar,_⟩ | ⟨k,v,ty,cY,m',ys,d,c',hk,rfl,rfl,q⟩
  ·obtain⟨d,r,bp,al⟩:=q.cell hs;refine⟨d,r,fun j u hu=>?_⟩;have:=al j u hu
   rwa [Nat.zero_add] at this
  ·exact fL ar hm
  ·refine⟨d,rfl,fun j u hu=>?_⟩;have hr:=hs.own k _ hk;simp only[Own.ok] at hr;have h0:=World.ownsRow.cells hr (g:=d.block) rfl j u (q j u hu);rcases hr.2 with⟨r,_⟩ | ⟨g,cap,aw,r,_⟩
   ·cases r
   ·injection r with e1 e2 e3
    injection e1 with e1
    subst e1;exact h0
 have bd:(L.get kd=some (.row s e i.size n xs)\/(L.get kd=none/\n=0/\xs=[]/\s=.slice none 0 0))\/(L.get kd=none/\∃ad,s=.slice (some ad) n n/\0<m/\xs.length=n*i.size/\(dL F (some ad) 0 xs\/(n=0/\xs=[]))):=by
  rcases bi with h | h | h
  ·exact .inl (.inl h)
  ·exact .inl (.inr h)
  ·exact .inr h
 rcases bd with az | ⟨bs,bo,rfl,ar,cy,cw⟩
 case inr =>
  obtain⟨d,rfl,p⟩:=av (by omega);have cn:∀j u,xs[j]?=some u->w.cell? (bo.add j)=some u:=by
   intro j u hu;rcases cw with q | ⟨_,rfl⟩
   ·obtain⟨ds,r,bp,al⟩:=q.cell hs;injection r with r
    subst r;have:=al j u hu
    rwa [Nat.zero_add] at this
   ·simp at hu
  obtain⟨v,w',hr,l,hg⟩:=run_append_arg_grows (P:=P) w t o.type e i zv i.size i.bytes ht hi bl rfl rfl cc ax bo n n xs cy cn d m cx f ac p (by omega) bz bm;have ab:w'.ownsRow 0 e i.size v (n+m) (xs++f):=by
   refine⟨l.1,?_⟩;rcases l.2 with h | ⟨g,cap,aw,e1,e2,e3⟩
   ·exact .inl h
   ·exact .inr ⟨g,cap,aw,e1,aa8 _,e3⟩
  have bj:v.ownBlock=none\/(∃g,v.ownBlock=some g/\w.heap.size<=g):=by
   rcases l.2 with⟨h,_⟩ | ⟨g,cap,aw,e1,e2,e3⟩
   ·rw[h];exact .inl rfl
   ·rw[e1];exact .inr ⟨g,rfl,e2⟩
  have hv:∀g,v.ownBlock=some g->w.heap.size<=g:=by
   intro g h;rcases bj with h' | ⟨g',h',h2⟩
   ·rw[h'] at h;cases h
   ·rw[h'] at h;injection h with h;omega
  have cM:St F L w':=hs.keep fun b hb=>hg.block b hb (by simp);have cp:St F (L.set kd (.row v e i.size (n+m) (xs++f))) w':=cM.put bs ab fun g ca=>⟨by
   cases hF:F g with
   | none=>rfl
   | some _=>have h1:=hs.aax (b:=g) (by rw[hF];simp);have h2:=hv g ca;omega,fun ho=>by have h1:=hs.aaA ho;have h2:=hv g ca;omega⟩
  have bc:Step F L w F (L.set kd (.row v e i.size (n+m) (xs++f))) w':=⟨aA.le_refl F,hg.os,hg.tape,hg.output,hg.size,fun b hb hn=>hg.block b hb (by simp),fun b h=>.inl h,fun b h=>by
   rcases Loc.aan h with h | h
   ·exact .inr (hv b h)
   ·exact .inl h⟩
  have cd:∀j g ty cs,L.get j=some (.box g ty cs)->∃cs',(L.set kd (.row v e i.size (n+m) (xs++f))).get j=some (.box g ty cs'):=by
   intro j g ty cs ej;rw[Loc.aac,fo (by rintro rfl;rw[bs] at ej;cases ej)];exact⟨cs,ej⟩
  refine jM he hd (v:=v) (x:=.v v) ?_ cp bc rfl cC eV cd (hK v (Dq ab));simp[execOp,ho,resolve,hc,ha,bv,invoke,builtin,ey,ez,cP bk,cP cb,hr]
 have ae:w.ownsRow 0 e i.size s n xs:=by
  rcases az with h | ⟨_,rfl,rfl,rfl⟩
  ·exact hs.own kd _ h
  ·exact World.ownsRow_nil w 0 e i.size
 have ba:L.get kd=some (.row s e i.size n xs)\/(L.get kd=none/\s=.slice none 0 0):=by
  rcases az with h | ⟨h,_,_,h'⟩
  ·exact .inl h
  ·exact .inr ⟨h,h'⟩
 have fin:∀(v:Value) (w':World),(Builtin.append_ #[t,t] o.type #[s,.slice ad m cx]).run P w=.ok v w'->w'.ownsRow 0 e i.size v (n+m) (xs++f)->w.grownBy w' s.ownBlock->(v.ownBlock=s.ownBlock\/v.ownBlock=some w.heap.size)->o.wp P a w (bG F L w a K) Q:=by
  intro v w' hr l hg bj;obtain⟨g1,g2,g3⟩:=JV hs ba l hg bj;refine jM he hd (v:=v) (x:=.v v) ?_ g1 g2 rfl cC eV g3 (hK v (Dq l));simp[execOp,ho,resolve,hc,ha,bv,invoke,builtin,ey,ez,cP bk,cP cb,hr]
 by_cases hm:m=0
 ·subst hm;have hn:f=[]:=abu (by simpa using ac);subst hn;obtain⟨w',hr,rfl⟩:=sj (P:=P) (ty:=o.type) ht hi ae ad cx;exact fin s w' hr (by simpa using ae) (World.grownBy.refl _ _) (.inl rfl)
 ·have p:∃d,ad=some d/\∀j u,f[j]?=some u->w.cell? (d.add j)=some u:=by
   rcases aE with q | ⟨ar,_⟩ | ⟨k,v,ty,cY,m',ys,d,c',hk,rfl,rfl,q⟩
   ·obtain⟨d,r,bp,al⟩:=q.cell hs;refine⟨d,r,fun j u hu=>?_⟩;have:=al j u hu
    rwa [Nat.zero_add] at this
   ·exact fL ar hm
   ·refine⟨d,rfl,fun j u hu=>?_⟩;have hr:=hs.own k _ hk;simp only[Own.ok] at hr;have h0:=World.ownsRow.cells hr (g:=d.block) rfl j u (q j u hu);rcases hr.2 with⟨r,_⟩ | ⟨g,cap,aw,r,_⟩
    ·cases r
    ·injection r with e1 e2 e3
     injection e1 with e1
     subst e1;exact h0
  obtain⟨d,rfl,p⟩:=p;obtain⟨v,w',hr,h2,h3,_,h5⟩:=run_append_own_at (P:=P) w 0 t o.type e i zv i.size i.bytes ht hi bl rfl rfl cc ax s n xs ae d m cx f ac p h1 bz bm (aa8 _);exact fin v w' hr h2 h3 h5
end
section
variable {P:Program}{F:aA}{L:Loc}{ρ:Env}{a:Act}{w:World}{K:dG}{o:Oper}{Q:Exit->Act->World->Prop}
theorem vN:∀(l:List Own) (k j:Nat),Loc.get (s9 k l) j=if k<=j then l[j-k]? else none
 | [],k,j=>by simp[s9,Loc.get]
 | o::l,k,j=>by
  simp only[s9,Loc.get];cases h:Nat.beq k j with
  | true=>have:=aaQ h;subst this;simp
  | false =>
   have b:=gF h;simp only[vN l (k+1) j]
   by_cases h1:k<=j
   ·rw[eu (by omega),eu h1,show j-k=(j-(k+1))+1 by omega,abe]
   ·rw[fo (by omega),fo h1]
theorem aH (l:List Own) (j:Nat):Loc.get (inp l) j=if 1000<=j then l[j-1000]? else none:=vN l 1000 j
theorem cE:∀{L:Loc}{ks:List Nat}{l:List Own},L.sub ks=some l->l.length=ks.length/\∀(i:Nat) (k:Nat),ks[i]?=some k->L.get k=l[i]?
 | L,[],l,h=>by simp only[Loc.sub,xo] at h;subst h;simp
 | L,k::ks,l,h=>by
  simp only[Loc.sub] at h;split at h
  case h_2=>cases h
  rename_i o f h1 d;injection h with h
  subst h;obtain⟨e,b⟩:=cE d;refine⟨by simp[e],fun i c hi=>?_⟩;cases i with
  | zero=>simp at hi;subst hi;simpa using h1
  | succ i=>simp at hi;simpa using b i c hi
theorem eX:∀(ks:List Nat) (L:Loc) (j:Nat),(L.aae ks).get j=if j∈ks then none else L.get j
 | [],L,j=>by simp[Loc.aae]
 | k::ks,L,j=>by
  simp only[Loc.aae,eX ks,Loc.aag,aaT]
  by_cases h1:j=k<;>by_cases b:j∈ks<;>simp[h1,b]
theorem cU:∀(ko:List Nat) (l:List Own) (L:Loc) (j:Nat),ko.Nodup->ko.length=l.length ->
  ((L.puts ko l).get j=L.get j/\j∉ko)\/∃i,ko[i]?=some j/\(L.puts ko l).get j=l[i]?/\i<l.length
 | [],l,L,j,_,h=>by
  refine .inl ⟨?_,by simp⟩;cases l<;>rfl
 | k::ko,[],L,j,_,h=>by simp at h
 | k::ko,o::l,L,j,d,h=>by
  simp only[aa5,Nat.add_right_cancel_iff] at h;rw[List.nodup_cons] at d;simp only[Loc.puts];rcases cU ko l (L.set k o) j d.2 h with⟨h1,b⟩ | ⟨i,h1,b,e⟩
  ·rw[Loc.aac] at h1
   by_cases c:j=k
   ·subst c;rw[eu rfl] at h1;exact .inr ⟨0,by simp,by simpa using h1,by simp⟩
   ·rw[fo c] at h1;exact .inl ⟨h1,by simp[c,b]⟩
  ·exact .inr ⟨i+1,by simpa using h1,by simpa using b,by simp;omega⟩
theorem AA {l:List Nat}(h:l.Nodup) {i j:Nat}{k:Nat}(hi:l[i]?=some k) (b:l[j]?=some k):i=j:=by
 induction l generalizing i j with
 | nil=>simp at hi
 | cons x l c =>
  rw[List.nodup_cons] at h;cases i with
  | zero =>
   cases j with
   | zero=>rfl
   | succ j =>
    simp at hi b;subst hi;exact fL (aaW b) h.1
  | succ i =>
   cases j with
   | zero =>
    simp at hi b;subst b;exact fL (aaW hi) h.1
   | succ j =>
    simp at hi b;rw[c h.2 hi b]
theorem St.handed (b:St F L w) {ks:List Nat}{l:List Own}(c:L.sub ks=some l) (hn:ks.Nodup):St F (inp l) w:=by
 obtain⟨hl,v⟩:=cE c;have key:∀j p,Loc.get (inp l) j=some p->∃k,1000<=j/\ks[j-1000]?=some k/\L.get k=some p:=by
  intro j p e;rw[aH] at e;split at e
  case isFalse=>cases e
  rename_i h1;have y:j-1000<l.length:=(aaR.1 e).1;have n:ks[j-1000]?=some (ks[j-1000]'(by omega)):=aaO (by omega);exact⟨_,h1,n,by rw[v _ _ n];exact e⟩
 refine⟨b.frz,fun j p e=>?_,fun j p g e hb=>?_,fun j u p q g e t hb m=>?_,b.glob⟩
 ·obtain⟨k,_,_,h⟩:=key j p e;exact b.own k p h
 ·obtain⟨k,_,_,h⟩:=key j p e;exact b.off k p g h hb
 ·obtain⟨k,h1,z,r⟩:=key j p e;obtain⟨x,s,d,f⟩:=key u q t;have:=b.sep k x p q g r f hb m;subst this;have:=AA hn z d;omega
theorem gh (x:St F L w) {ks ko:List Nat}{l lo:List Own}(ac:L.sub ks=some l) (hn:ks.Nodup) (v:ko.Nodup) (aw:∀k,k∈ko->k∈ks\/L.get k=none)
  {F':aA}{w':World}(r:St F' (inp lo) w') (m:Step F (inp l) w F' (inp lo) w') (ad:ko.length=lo.length) :
  St F' ((L.aae ks).puts ko lo) w'/\Step F L w F' ((L.aae ks).puts ko lo) w':=by
 obtain⟨hl,hg⟩:=cE ac;have n:∀b,(inp l).owns b->∃k o,k∈ks/\L.get k=some o/\o.blk=some b:=by
  rintro b ⟨j,p,e,hb⟩;rw[aH] at e;split at e
  case isFalse=>cases e
  have ay:j-1000<l.length:=(aaR.1 e).1;have hk:ks[j-1000]?=some (ks[j-1000]'(by omega)):=aaO (by omega);exact⟨_,p,aaW hk,by rw[hg _ _ hk];exact e,hb⟩
 have f:∀k p b,k∉ks->L.get k=some p->p.blk=some b->¬(inp l).owns b:=by
  intro k p b hk e hb ho;obtain⟨y,o,an,e',d⟩:=n b ho;exact hk (by rw[x.sep k y p o b e e' hb d];exact an)
 have get:∀k p,((L.aae ks).puts ko lo).get k=some p->(k∉ks/\k∉ko/\L.get k=some p)\/∃i,ko[i]?=some k/\Loc.get (inp lo) (1000+i)=some p:=by
  intro k p e;rcases cU ko lo (L.aae ks) k v ad with⟨h1,c⟩ | ⟨i,h1,c,u⟩
  ·rw[h1,eX] at e;split at e
   ·cases e
   ·rename_i u;exact .inl ⟨u,c,e⟩
  ·rw[c] at e;exact .inr ⟨i,h1,by rw[aH,eu (by omega),show 1000+i-1000=i by omega];exact e⟩
 refine⟨⟨r.frz,fun k p e=>?_,fun k p b e hb=>?_,fun k y p t b e e' hb d=>?_,r.glob⟩,⟨m.le,m.os,m.tape,m.output,m.size,fun b hb v=>?_,fun b hb=>?_,fun b hb=>?_⟩⟩
 ·rcases get k p e with⟨h1,_,c⟩ | ⟨i,_,c⟩
  ·exact Own.aau (x.own k p c) fun g aa=>m.same g (Own.aaq (x.own k p c) aa) (f k p g h1 c aa)
  ·exact r.own _ p c
 ·rcases get k p e with⟨h1,_,c⟩ | ⟨i,_,c⟩
  ·cases hF:F' b with
   | none=>rfl
   | some _ =>
    rcases m.frz b (by rw[hF];simp) with u | u | u
    ·exact fL (x.off k p b c hb) u
    ·exact fL u (f k p b h1 c hb)
    ·have:=Own.aaq (x.own k p c) hb;omega
  ·exact r.off _ p b c hb
 ·have q:∀k p i t,k∉ks->L.get k=some p->Loc.get (inp lo) (1000+i)=some t->p.blk=some b->t.blk=some b->False:=by
   intro k p i t h1 c u h4 h5;rcases m.own b ⟨_,t,u,h5⟩ with h6 | h6
   ·exact f k p b h1 c h4 h6
   ·have:=Own.aaq (x.own k p c) h4;omega
  rcases get k p e with⟨h1,_,c⟩ | ⟨i,hi,c⟩<;>rcases get y t e' with⟨am,_,s⟩ | ⟨i',z,s⟩
  ·exact x.sep k y p t b c s hb d
  ·exact(q k p i' t h1 c s hb d).elim
  ·exact(q y t i p am s c d hb).elim
  ·have:=r.sep _ _ p t b c s hb d;have:i=i':=by omega
   subst this;rw[hi] at z;injection z
 ·refine m.same b hb fun ho=>?_;obtain⟨k,o,_,e,d⟩:=n b ho;exact v ⟨k,o,e,d⟩
 ·rcases m.frz b hb with h | h | h
  ·exact .inl h
  ·obtain⟨k,o,_,e,d⟩:=n b h;exact .inr (.inl ⟨k,o,e,d⟩)
  ·exact .inr (.inr h)
 ·obtain⟨k,p,e,d⟩:=hb;rcases get k p e with⟨h1,_,c⟩ | ⟨i,_,c⟩
  ·exact .inl ⟨k,p,c,d⟩
  ·rcases m.own b ⟨_,p,c,d⟩ with h | h
   ·obtain⟨y,o,_,e',ab⟩:=n b h;exact .inl ⟨y,o,e',ab⟩
   ·exact .inr h
theorem wP {f:Nat}{args:List Value}(hs:St F L w) (he:aD L ρ a) (hd:∀k,o.dst=some k->k<a.tmps.size)
  (hrun:(∃fn,P.funcs[f]?=some fn/\fn.body.isSome=true/\(fn.name == "runtime.NumGoroutine")=false)->(execOp a.eval o).run P w=.ok (.enter f args.toArray) w)
  (hK:dY P f args F L fun F' L' v=>K F' L' (put o.dst (.v v) ρ)):o.wp P a w (bG F L w a K) Q:=by
 obtain⟨ks,ko,l,R,hsub,hn,hno,hko,hc,hK⟩:=hK;unfold Oper.wp;rw[hrun hc.ent];rw[Oper.upon_enter];refine(hc.run w (hs.handed hsub hn)).mono ?_;rintro e w' ⟨v,F',lo,rfl,hs',hst,hR⟩;obtain⟨hlen,hbox,hK⟩:=hK v F' lo hst.le hR;obtain⟨h1,h2⟩:=gh hs hsub hn hno hko hs' hst hlen;refine⟨F',_,_,h1,he.put hd (x:=.v v) rfl cC eV ?_,jK _ _ _,gJ _ _ _,h2,hK⟩;intro k g ty cs e
 by_cases hk:k∈ks
 ·exact hbox k g ty cs hk e
 ·rcases cU ko lo (L.aae ks) k hno hlen with⟨h1,h2⟩ | ⟨i,h1,h2,h3⟩
  ·rw[h1,eX,fo hk];exact⟨cs,e⟩
  ·rcases hko k (aaW h1) with h | h
   ·exact fL h hk
   ·rw[h] at e;cases e
theorem iO {f:Nat}{args:Array Value}(h:∃fn,P.funcs[f]?=some fn/\fn.body.isSome=true/\(fn.name == "runtime.NumGoroutine")=false):(callFunc f args).run P w=.ok (.enter f args) w:=by
 obtain⟨fn,h1,h2,h3⟩:=h;have h4:fn.body≠none:=by intro hb;rw[hb] at h2;cases h2
 have h5:fn.name≠"runtime.NumGoroutine":=by simpa using h3
 simp[callFunc,h1,h4,h5]
theorem Nk {f:Nat}{args:List X}{c:Call}(j:St F L w) (he:aD L ρ a) (h:∀k,o.dst=some k->k<a.tmps.size)
  (p:o.op=.call c) (n:c.callee=.value (.func f)) (m:gG c.args.toList=some args) (l:evalOp P (.call f args) o.dst F L ρ K):o.wp P a w (bG F L w a K) Q:=by
 refine wP j he h (fun d=>?_) l;have e:=gI m he;have b:c.args.map a.eval=(bw L ρ args).toArray:=by apply Array.ext';simpa using e
 simp[execOp,p,resolve,n,Deferred.ofValue,Act.eval,invoke,b,iO d]
theorem lZ {t:TypeId}{nm:String}{u:Value}{f:Nat}{args:Array Value}(hf:tj P t nm=some f) (h:∃fn,P.funcs[f]?=some fn/\fn.body.isSome=true/\(fn.name == "runtime.NumGoroutine")=false) :
  (callMethod (.iface t u) nm args).run P w=.ok (.enter f (#[u]++args)) w:=by
 have:=H8 (P:=P) hf u w;simp only[callMethod,Sem.run_bind,run_program,Result.andThen_ok,this];exact iO h
theorem JW {V:SV}{v:Value}{args:List Value}{f:Nat}{fi ca:List Value}(hf:rZ P V=some (f,fi,ca)) (hv:∀x,V=.v x->v=x) (h:∃fn,P.funcs[f]?=some fn/\fn.body.isSome=true/\(fn.name == "runtime.NumGoroutine")=false) :
  (do let d <-Deferred.ofValue v args.toArray;invoke d.target d.args:Sem Next).run P w=.ok (.enter f (fi++args++ca).toArray) w:=by
 unfold rZ at hf;split at hf
 ·rename_i f' fi' ca';injection hf with hf
  injection hf with e1 e2
  injection e2 with e2 e3
  subst e1 e2 e3;rw[hv _ rfl];have hall:fi'++(args.toArray++ca')=(fi'.toList++args++ca'.toList).toArray:=by apply Array.ext';simp
  simp[Deferred.ofValue,invoke];rw[iO h];simp
 ·rename_i nm fi' ca';split at hf
  case h_2=>cases hf
  rename_i t u hfi;split at hf
  case h_2=>cases hf
  rename_i f' hm;injection hf with hf
  injection hf with e1 e2
  injection e2 with e2 e3
  subst e1 e2 e3;have hfi':fi'=#[.iface t u]:=by apply Array.ext';exact hfi
  rw[hv _ rfl,hfi'];have hx:(#[Value.iface t u]++args.toArray).extract 1 (#[Value.iface t u]++args.toArray).size=args.toArray:=by apply Array.ext';simp
  have h0:(#[Value.iface t u]++args.toArray)[0]?=some (.iface t u):=by simp
  have:=lZ (w:=w) (u:=u) (args:=args.toArray) hm h;simp only[Deferred.ofValue,Sem.run_bind,Sem.run_pure,Result.andThen_ok,invoke,h0,hx,this];simp
 ·cases hf
theorem JX {y:Operand}{r:X}{args:List X}{c:Call}(hs:St F L w) (he:aD L ρ a) (hd:∀k,o.dst=some k->k<a.tmps.size)
  (ho:o.op=.call c) (hc:c.callee=.value y) (hy:bO y=some r) (ha:gG c.args.toList=some args) (m:evalOp P (.callV r args) o.dst F L ρ K):o.wp P a w (bG F L w a K) Q:=by
 have ey:=aG hy he;have z:=gI ha he;have j:c.args.map a.eval=(bw L ρ args).toArray:=by apply Array.ext';simpa using z
 have l:∀x,ev ρ r=.v x->a.eval y=x:=fun x e=>by rw[ey,cP e]
 simp only[evalOp] at m;split at m
 ·rename_i f fi ca hf;refine wP hs he hd (fun d=>?_) m;have:=JW (w:=w) (args:=bw L ρ args) hf l d;simp only[execOp,ho,resolve,hc,j];exact this
 ·split at m
  case h_2=>exact m.elim
  rename_i f p hf;unfold Ao at hf;split at hf
  case h_2=>cases hf
  rename_i t nm ca t' u h q b;split at hf
  case h_2=>cases hf
  rename_i ms hu;split at hf
  case h_2=>cases hf
  rename_i f' hm;injection hf with hf
  injection hf with e1 e2
  subst e1 e2;refine wP hs he hd (fun d=>?_) m;have h0:(#[]++(bw L ρ args).toArray)[0]?=some (.iface t' u):=by rw[b];simp
  have hx:(#[]++(bw L ρ args).toArray).extract 1 (#[]++(bw L ρ args).toArray).size=h.toArray:=by rw[b];apply Array.ext';simp
  have:=lZ (w:=w) (u:=u) (args:=h.toArray) hm d;simp only[execOp,ho,resolve,hc,j,l _ q,Deferred.ofValue,Sem.run_bind,Sem.run_pure,Result.andThen_ok,invoke];have n:((⟨[]⟩:Array Value)++(bw L ρ args).toArray)[0]?=some (.iface t' u):=h0;simp only[n,Sem.run_bind,run_underlying hu,Result.andThen_ok];have s:((⟨[]⟩:Array Value)++(bw L ρ args).toArray).extract 1 ((⟨[]⟩:Array Value)++(bw L ρ args).toArray).size=h.toArray:=hx;simp only[s,this];simp
theorem RI {n:Nat}{y:String}{args:List X}{c:Call}(hs:St F L w) (he:aD L ρ a) (z:∀k,o.dst=some k->k<a.tmps.size)
  (ho:o.op=.call c) (hc:c.callee=.invoke (.tmp n) y) (ha:gG c.args.toList=some args) (h:evalOp P (.callV (.mt y n) args) o.dst F L ρ K):o.wp P a w (bG F L w a K) Q:=by
 have s:=gI ha he;have d:c.args.map a.eval=(bw L ρ args).toArray:=by apply Array.ext';simpa using s
 simp only[evalOp,ev] at h;split at h
 ·rename_i f fi ca hf;refine wP hs he z (fun e=>?_) h;cases l:ρ n with
  | own k off=>rw[l] at hf;cases hf
  | el b j=>rw[l] at hf;cases hf
  | v x =>
   rw[l] at hf;have hx:a.eval (.tmp n)=x:=by
    have:=he.eq n;rw[l] at this;exact this
   simp only[Tp,rZ] at hf;split at hf
   case h_2=>cases hf
   rename_i t u r;split at hf
   case h_2=>cases hf
   rename_i f' hm;injection hf with hf
   injection hf with e1 e2
   injection e2 with e2 e3
   subst e1 e2 e3;have p:x=.iface t u:=by simpa using r
   subst p;have m:(#[Value.iface t u]++(bw L ρ args).toArray).extract 1 (#[Value.iface t u]++(bw L ρ args).toArray).size=(bw L ρ args).toArray:=by apply Array.ext';simp
   have h0:(#[Value.iface t u]++(bw L ρ args).toArray)[0]?=some (.iface t u):=by simp
   have:=lZ (w:=w) (u:=u) (args:=(bw L ρ args).toArray) hm e;simp only[execOp,ho,resolve,hc,d,hx,Sem.run_bind,Sem.run_pure,Result.andThen_ok,invoke,h0,m,this];simp
 ·split at h
  case h_2=>exact h.elim
  rename_i f q hf;exfalso
  revert hf
  cases ρ n<;>simp[Tp,Ao,undef]
end
open Go.ChangeMaps (setBlock)
theorem AB {cs:List Value}(h:lC cs=true):iw cs=.map (bg cs 0).toArray cs.length:=by
 unfold iw;split
 ·simp[lC] at h
 ·rfl
theorem l9:∀(v:Value) (i:Nat),(f9 v i).born=i:=by
 intro v i;unfold f9;split<;>rfl
theorem qg:∀{cs:List Value}{i j:Nat},(bg cs i)[j]?=(cs[j]?).map fun v=>f9 v (i+j)
 | [],_,_=>by simp[bg]
 | c::cs,i,0=>by simp[bg]
 | c::cs,i,j+1=>by
  simp only[bg,abe,qg (cs:=cs)];rw[show i+1+j=i+(j+1) by omega]
def kindOf:Bool->TypeDesc
 | false=>.int .i64
 | true=>.string
theorem Gq (s t:ByteArray):(s == t)=decide (s.data.toList=t.data.toList):=by
 have:(s == t)=(s.data == t.data):=rfl;rw[this,Bool.eq_iff_iff];simp[Array.toList_inj]
theorem xG {str:Bool}{a b:Value}{r:Bool}(h:fj str a b=some r):Instr.sameNow (kindOf str) a b=some r:=by
 unfold fj at h;split at h
 ·injection h with h;subst h;simp[kindOf,Instr.sameNow,beq_dec']
 ·injection h with h
  subst h;rename_i s t;simp only[kindOf,Instr.sameNow,Gq]
 ·cases h
where beq_dec':∀{a b:Int},(a == b)=decide (a=b):=by intro a b;rw[Bool.eq_iff_iff];simp
theorem Nl {str:Bool}{a b:Value}(h:fj str a b=some true):a=b:=by
 unfold fj at h;split at h
 ·simp only[xo,aaZ] at h;rw[h]
 ·simp only[xo,aaZ] at h;rename_i s t;cases s;cases t;simp only[Value.string.injEq,ByteArray.mk.injEq];exact Array.ext' h
 ·cases h
theorem Nm {str:Bool}{a b:Value}{r:Bool}(h:fj str a b=some r):∀n,Instr.sameBits n a a=true:=by
 intro n;unfold fj at h;split at h
 ·cases n<;>simp[Instr.sameBits]
 ·cases n<;>simp[Instr.sameBits,Gq]
 ·cases h
theorem nK {str:Bool}{key:Value}:∀{cs:List Value}{i:Nat}{o:Option (Nat×Value)},lW str key cs i=some o->Instr.findNow (kindOf str) key (bg cs i) i=some o
 | [],i,o,h=>by simp only[lW] at h;simpa[bg,Instr.findNow] using h
 | c::cs,i,o,h=>by
  unfold lW at h;split at h
  ·rename_i b;cases b
  ·rename_i k v l j b;injection b with e1 e2
   subst e1 e2;simp only[bg,f9,Instr.findNow];split at h
   ·rename_i d;rw[xG d];exact h
   ·rename_i d;rw[xG d];exact nK h
   ·cases h
  ·cases h
theorem AE {str:Bool}{key val:Value}(f:fj str key key=some true):∀{cs cs':List Value}{i:Nat},xq str key val cs=some cs' ->
  (∃j v,lW str key cs i=some (some (i+j,v))/\j<cs.length/\((bg cs i)[j]?.map (·.key))=some key/\bg cs' i=(bg cs i).modify j (fun e=>{e with key:=key,val:=val})/\cs'.length=cs.length) \/
  (lW str key cs i=some none/\cs'=cs++[.agg #[key,val]])
 | [],cs',i,h=>by
  simp only[xq,xo] at h;subst h;exact .inr ⟨rfl,rfl⟩
 | c::cs,cs',i,h=>by
  unfold xq at h;split at h
  ·rename_i b;cases b
  ·rename_i k v l b;injection b with e1 e2
   subst e1 e2;split at h
   ·rename_i d;injection h with h
    subst h;refine .inl ⟨0,v,by simp only[lW,d,Nat.add_zero],by simp,?_,?_,rfl⟩
    ·simp[bg,f9,(Nl d).symm]
    ·simp[bg,f9]
   ·rename_i d;split at h
    case h_2=>cases h
    rename_i s n;injection h with h
    subst h;rcases AE f (i:=i+1) n with⟨j,u,h1,m,q,p,r⟩ | ⟨h1,m⟩
    ·refine .inl ⟨j+1,u,?_,by simp;omega,by simpa[bg] using q,by simp[bg,p],by simp[r]⟩;simp only[lW,d];rw[h1,show i+1+j=i+(j+1) by omega]
    ·refine .inr ⟨?_,by rw[m];rfl⟩;simp only[lW,d];exact h1
   ·cases h
  ·cases h
theorem E7 {str:Bool}{key val:Value}{cs cs':List Value}(h:xq str key val cs=some cs'):lC cs'=true:=by
 unfold xq at h;split at h
 ·injection h with h;subst h;rfl
 ·split at h
  ·injection h with h;subst h;rfl
  ·split at h
   ·injection h with h;subst h;rfl
   ·cases h
  ·cases h
 ·cases h
section
variable {P:Program}{F:aA}{L:Loc}{ρ:Env}{a:Act}{w:World}{K:dG}{o:Oper}{Q:Exit->Act->World->Prop}
theorem xH (c:St F L w) {k g:Nat}{cs:List Value}(d:L.get k=some (.box g 0 cs)) (b:lC cs=true):w.heap[g]?=some (.map (bg cs 0).toArray cs.length):=by
 have h:=c.own k _ d;simp only[Own.ok,nj] at h;rw[AB b] at h;exact h
theorem Nn {str:Bool}{key:TypeId}{kv:Value}(b:P.underlying key=some (kindOf str)) (c:fj str kv kv=some true) (e:Bool):(Instr.checkKey e 10000 key kv).run P w=.ok () w:=by
 rw[show(10000:Nat)=9999+1 from rfl,Instr.checkKey];simp only[Sem.run_bind,run_underlying b,Result.andThen_ok];cases str<;>simp[kindOf,Sem.run_pure]
theorem E8 {str:Bool}{key:TypeId}{kv:Value}(b:P.underlying key=some (kindOf str)) (e:Bool):(Instr.checkKey e 10000 key kv).run P w=.ok () w:=by
 rw[show(10000:Nat)=9999+1 from rfl,Instr.checkKey];simp only[Sem.run_bind,run_underlying b,Result.andThen_ok];cases str<;>simp[kindOf,Sem.run_pure]
theorem tG {str:Bool}{key:TypeId}{kv:Value}{es:List MapEntry}{o:Option (Nat×Value)}(b:P.underlying key=some (kindOf str)) (h:Instr.findNow (kindOf str) kv es 0=some o):(Instr.findKey key kv es).run P w=.ok o w:=by
 simp only[Instr.findKey,Sem.run_bind,run_underlying b,Result.andThen_ok,h,Sem.run_pure]
theorem JY {t:TypeId}(h:St F L w) (he:aD L ρ a) (d:∀k,o.dst=some k->k<a.tmps.size) (m:o.op=.makeMap t none)
  (b:evalOp P .mkmap o.dst F L ρ K):o.wp P a w (bG F L w a K) Q:=by
 simp only[evalOp] at b;split at b
 case h_2=>exact b.elim
 rename_i _ k c;split at b
 case h_2=>exact b.elim
 rename_i _ j;have b:=b w.heap.size;obtain⟨h1,l,f⟩:=lY h j (ob:=.map #[] 0) (e:=.box w.heap.size 0 []) rfl (by show _=_;rw[iA];rfl);refine jM he d (v:=.map (some w.heap.size)) (x:=.v (.map (some w.heap.size))) ?_ h1 l rfl cC eV f b;simp[execOp,m,run_makeMap]
theorem Dr {str ok:Bool}{t key e:TypeId}{y z:Operand}{u n:X}{j:TypeInfo}{zv:Value}(l:St F L w) (he:aD L ρ a) (q:∀k,o.dst=some k->k<a.tmps.size)
  (s:o.op=.lookup t y z ok) (r:P.underlying t=some (.map key e)) (b:P.underlying key=some (kindOf str)) (hi:P.info? e=some j) (hz:j.zero=some zv) (hy:bO y=some u) (m:bO z=some n)
  (c:evalOp P (.mlook str ok zv u n) o.dst F L ρ K):o.wp P a w (bG F L w a K) Q:=by
 have x:=aG hy he;have ez:=aG m he;simp only[evalOp,aL] at c;split at c
 case h_2=>exact c.elim
 rename_i g hm;obtain⟨k,cs,hk,h,c⟩:=c;have hg:=xH l hk h;have d:(getObj g).run P w=.ok (.map (bg cs 0).toArray cs.length) w:=by simp[getObj,Sem.run,hg]
 have f:=E8 (w:=w) (kv:=val L ρ n) b (bg cs 0).toArray.isEmpty;rcases c.out with⟨i,v,h1,p⟩ | ⟨h1,p⟩
 ·have hf:=tG (P:=P) (w:=w) b (nK h1);refine bY l he q ?_ rfl cC eV p;simp only[execOp,s,x,ez,cP hm,Instr.lookup,Sem.run_bind,run_underlying r,Result.andThen_ok,d,Sem.run_pure,f,hf];cases ok<;>simp[Sem.run_pure,conc]
 ·have hf:=tG (P:=P) (w:=w) b (nK h1);refine bY l he q ?_ rfl cC eV p;simp only[execOp,s,x,ez,cP hm,Instr.lookup,Sem.run_bind,run_underlying r,Result.andThen_ok,d,Sem.run_pure,f,hf];cases ok<;>simp[Sem.run_pure,zeroValue,typeInfo,run_program,hi,hz,conc]
theorem Gr (r:St F L w) {k g:Nat}{cs cs':List Value}(d:L.get k=some (.box g 0 cs)):St F (L.set k (.box g 0 cs')) (setBlock w g (iw cs'))/\Step F L w F (L.set k (.box g 0 cs')) (setBlock w g (iw cs')) /\
  (∀j f ty xs,L.get j=some (.box f ty xs)->∃q,(L.set k (.box g 0 cs')).get j=some (.box f ty q)):=by
 have p:g<w.heap.size:=Own.aaq (r.own k _ d) rfl;have c:∀b,b≠g->(setBlock w g (iw cs')).heap[b]?=w.heap[b]?:=fun b hb=>by
  show(w.heap.setIfInBounds g (iw cs'))[b]?=_;rw[Array.getElem?_setIfInBounds,fo (fun e=>hb e.symm)]
 have n:w.heap.size<=(setBlock w g (iw cs')).heap.size:=by show _<=(w.heap.setIfInBounds g (iw cs')).size;simp
 refine⟨r.turn d ?_ (fun b hb m=>c b fun e=>m (by rw[e];rfl)) (fun f l=>.inl l),⟨aA.le_refl F,rfl,rfl,rfl,n,fun b hb t=>c b fun e=>t ⟨k,_,d,by rw[e];rfl⟩,fun b h=>.inl h,fun b h=>?_⟩,fun j f ty xs e=>?_⟩
 ·show(w.heap.setIfInBounds g (iw cs'))[g]?=_;rw[Array.getElem?_setIfInBounds,eu rfl,eu p];rfl
 ·rcases Loc.aan h with h | h
  ·exact .inl ⟨k,_,d,h⟩
  ·exact .inl h
 ·rw[Loc.aac];split
  ·rename_i s;subst s;rw[d] at e;injection e with e
   injection e with e1 e2 e3
   subst e1 e2;exact⟨_,rfl⟩
  ·exact⟨xs,e⟩
theorem zU {str:Bool}{t key e:TypeId}{g:Nat}{kv p:Value}{cs cs':List Value}(q:P.underlying t=some (.map key e)) (d:P.underlying key=some (kindOf str))
  (r:w.heap[g]?=some (.map (bg cs 0).toArray cs.length)) (b:fj str kv kv=some true) (h:xq str kv p cs=some cs') :
  (Instr.mapUpdate t (.map (some g)) kv p).run P w=.ok () (setBlock w g (iw cs')):=by
 have k:(getObj g).run P w=.ok (.map (bg cs 0).toArray cs.length) w:=by simp[getObj,Sem.run,r]
 have f:∀o',(setObj g o').run P w=.ok () (setBlock w g o'):=fun o'=>by simp[setObj,Sem.run,r,setBlock]
 have m:=Nn (P:=P) (w:=w) (str:=str) (kv:=kv) d b false;rw[AB (E7 h)];rcases AE b (i:=0) h with⟨j,v,h1,s,x,u,z⟩ | ⟨h1,s⟩
 ·have hf:=tG (P:=P) (w:=w) d (nK h1);have n:(((bg cs 0).toArray[0+j]?).map (·.key)).getD kv=kv:=by
   rw[Nat.zero_add];simp only[List.getElem?_toArray];rw[x];rfl
  simp only[Instr.mapUpdate,Sem.run_bind,run_underlying q,Result.andThen_ok,k,m,hf,n,Instr.keyThatStays,Nm b,abj,Sem.run_pure,f];rw[u,z,Nat.zero_add];congr 3;apply Array.ext';simp
 ·have hf:=tG (P:=P) (w:=w) d (nK h1);simp only[Instr.mapUpdate,Sem.run_bind,run_underlying q,Result.andThen_ok,k,m,hf,f];subst s;congr 3
  ·apply Array.ext';have:∀(l:List Value) (i:Nat),bg (l++[.agg #[kv,p]]) i=bg l i++[{key:=kv,val:=p,born:=i+l.length}]:=by
    intro l
    induction l with
    | nil=>intro i;simp[bg,f9]
    | cons c l y=>intro i;simp only[aa1,bg,y,aa5];rw[show i+1+l.length=i+(l.length+1) by omega]
   simp[this]
  ·simp
theorem wQ {str:Bool}{t key e:TypeId}{y z u:Operand}{n p q:X}(m:St F L w) (he:aD L ρ a) (v:∀k,o.dst=some k->k<a.tmps.size)
  (d:o.op=.mapUpdate t y z u\/o.op=.insert t y z u) (ht:P.underlying t=some (.map key e)) (j:P.underlying key=some (kindOf str)) (hy:bO y=some n) (hz:bO z=some p) (r:bO u=some q)
  (b:evalOp P (.mupd str n p q) o.dst F L ρ K):o.wp P a w (bG F L w a K) Q:=by
 have ey:=aG hy he;have ez:=aG hz he;have s:=aG r he;simp only[evalOp] at b;split at b
 case h_2=>exact b.elim
 rename_i g hm;obtain⟨k,cs,l,f,b⟩:=b;obtain⟨h,cs',c,b⟩:=b;have hg:=xH m l f;obtain⟨h1,h2,x⟩:=Gr m l (cs':=cs');refine Di he v (w':=setBlock w g (iw cs')) ?_ h1 h2 x b;have hr:=zU (w:=w) ht j hg h c;rcases d with d | d<;>simp[execOp,d,ey,ez,s,cP hm,hr]
theorem Ia {t key e:TypeId}{y:Operand}{l:X}(j:St F L w) (he:aD L ρ a) (m:∀k,o.dst=some k->k<a.tmps.size)
  (r:o.op=.range t y) (q:P.underlying t=some (.map key e)) (z:bO y=some l) (b:evalOp P (.mrange l) o.dst F L ρ K):o.wp P a w (bG F L w a K) Q:=by
 have s:=aG z he;simp only[evalOp] at b;split at b
 case h_2=>exact b.elim
 rename_i _ g k hm h;split at b
 case h_2=>exact b.elim
 rename_i _ p;obtain⟨km,cs,f,c,b⟩:=b;have u:=xH j f c;have d:(getObj g).run P w=.ok (.map (bg cs 0).toArray cs.length) w:=by simp[getObj,Sem.run,u]
 have b:=b w.heap.size;obtain⟨h1,h2,n⟩:=lY j p (ob:=.mapIter (some g) cs.length #[] cs.length) (e:=.box w.heap.size 0 [.tuple #[.map (some g),.int .i64 cs.length]]) rfl (by show _=_;rw[iA];simp[nj,iw]);refine jM he m (v:=.pointer (some ⟨w.heap.size,0,none⟩)) (x:=.own k 0) ?_ h1 h2 ?_ ?_ (fun _ _ e=>by cases e) n b
 ·simp[execOp,r,Instr.range,s,cP hm,run_underlying q,d]
 ·simp only[conc,Loc.aac,abj]
 ·rintro k' off e;injection e with e1 e2
  subst e1;exact⟨_,_,_,by rw[Loc.aac,eu rfl]⟩
theorem JZ {y:Operand}{y':X}(u:St F L w) (he:aD L ρ a) (hd:∀k,o.dst=some k->k<a.tmps.size)
  (ho:o.op=.next y false) (hy:bO y=some y') (r:evalOp P (.mnext y') o.dst F L ρ K):o.wp P a w (bG F L w a K) Q:=by
 have ey:=aG hy he;simp only[evalOp] at r;split at r
 case h_2=>exact r.elim
 rename_i k hm;split at r
 case h_2=>exact r.elim
 rename_i gi g n b hk;obtain⟨km,cs,aw,al,ab,q,ac⟩:=r.out;have hg:=xH u aw al;have ag:w.heap[gi]?=some (.mapIter (some g) n (b.map iW).toArray n):=by
  have h:=u.own k _ hk;simp only[Own.ok,nj,iw] at h;exact h
 have t:a.eval y=.pointer (some ⟨gi,0,none⟩):=by rw[ey];simp only[val,hm,conc,hk]
 have s:∀x∈(bg cs 0).toArray.toList,x.born<n:=by
  intro x hx;simp only[List.toList_toArray] at hx;obtain⟨j,c⟩:=abf.1 hx;rw[qg] at c;cases l:cs[j]? with
  | none=>rw[l] at c;cases c
  | some v =>
   rw[l] at c;simp only[abo,xo] at c;rw[<-c,l9];have:=(aaR.1 l).1;omega
 rcases run_next_at (P:=P) w o.type gi g n n (b.map iW).toArray (bg cs 0).toArray cs.length ag hg s (aa0 _) with⟨h0,f⟩ | ⟨e,m,w1,aa,f⟩
 ·refine bY u he hd (v:=.tuple #[.bool false]) (x:=.v (.tuple #[.bool false])) ?_ rfl cC eV (ac fun j c=>?_)
  ·simp only[execOp,ho,t,Sem.run_bind,f,Result.andThen_ok,Sem.run_pure]
  ·have l:∃v,cs[j]?=some v:=⟨cs[j]'(by omega),aaO (by omega)⟩;obtain⟨v,l⟩:=l;have am:(bg cs 0)[j]?=some (f9 v (0+j)):=by rw[qg,l];rfl
   have p:f9 v (0+j)∈bg cs 0:=aaW am;apply Classical.byContradiction;intro d;have h1:f9 v (0+j)∈(leftOf (bg cs 0).toArray (b.map iW).toArray).toList:=by
    unfold leftOf;simp only[Array.toList_filter,List.mem_filter,p,true_and];rw[l9];simpa using d
   have h2:(leftOf (bg cs 0).toArray (b.map iW).toArray)=#[]:=Array.eq_empty_of_size_eq_zero h0;rw[h2] at h1;cases h1
 ·unfold leftOf at m;simp only[Array.toList_filter,List.mem_filter] at m;obtain⟨p,d⟩:=m;obtain⟨j,c⟩:=abf.1 p;rw[qg] at c;cases l:cs[j]? with
  | none=>rw[l] at c;cases c
  | some v =>
   rw[l] at c;simp only[abo,xo,Nat.zero_add] at c;subst c;rw[l9] at f d;have ao:j∉b.map iW:=by simpa using d
   have ae:=q j v l ao;have ax:St F L w1:=by rcases aa with rfl | rfl;exact u;exact u.drew
   obtain⟨h1,h2,h3⟩:=Gr ax hk (cs':=.tuple #[.map (some g),.int .i64 n]::(b++[.int .i64 j]));have av:Step F L w F L w1:=by
    rcases aa with rfl | rfl
    ·exact Step.refl _ _ _
    ·exact⟨aA.le_refl F,rfl,rfl,rfl,aa0 _,fun _ _ _=>rfl,fun _ h=>.inl h,fun _ h=>.inl h⟩
   have z:iw (.tuple #[.map (some g),.int .i64 n]::(b++[.int .i64 j]))=.mapIter (some g) n ((b.map iW).toArray.push j) cs.length:=by
    simp[iw,iW,ab]
   rw[z] at h1 h2;refine jM he hd (v:=.tuple #[.bool true,(f9 v j).key,(f9 v j).val]) (x:=.v (.tuple #[.bool true,(f9 v j).key,(f9 v j).val])) ?_ h1 (av.trans h2) rfl cC eV h3 ae;simp only[execOp,ho,t,Sem.run_bind,f,Result.andThen_ok,Sem.run_pure]
theorem Ib {y:Operand}{y':X}(hs:St F L w) (he:aD L ρ a) (hd:∀k,o.dst=some k->k<a.tmps.size)
  (ho:o.op=.entry y) (hy:bO y=some y') (p:evalOp P (.mentry y') o.dst F L ρ K):o.wp P a w (bG F L w a K) Q:=by
 have ey:=aG hy he;simp only[evalOp] at p;split at p
 case h_2=>exact p.elim
 rename_i k hm;split at p
 case h_2=>exact p.elim
 rename_i gi g n d hk;obtain⟨km,cs,j,e,al,aa,z,b,hj,ag⟩:=p.out;have hg:=xH hs al aa;have r:w.heap[gi]?=some (.mapIter (some g) n (d.map iW).toArray n):=by
  have h:=hs.own k _ hk;simp only[Own.ok,nj,iw] at h;exact h
 have ab:a.eval y=.pointer (some ⟨gi,0,none⟩):=by rw[ey];simp only[val,hm,conc,hk]
 have m:∃l,d=l++[.int .i64 (.ofNat j)]:=by
  have s:d≠[]:=by rintro rfl;simp at b
  refine⟨d.dropLast,?_⟩;rw[List.getLast?_eq_some_getLast s] at b;injection b with b
  rw[<-b];exact(List.dropLast_concat_getLast s).symm
 obtain⟨l,rfl⟩:=m;have t:(bg cs 0)[j]?=some (f9 e j):=by rw[qg,hj];simp
 have f:(f9 e j).born=j:=l9 e j;have ad:((bg cs 0).toArray.toList.map (·.born)).Nodup:=by
  have:∀(cs:List Value) (i:Nat),(bg cs i).map (·.born)=List.range' i cs.length:=by
   intro cs
   induction cs with
   | nil=>intro i;rfl
   | cons c cs ih=>intro i;simp[bg,l9,ih,List.range'_succ]
  simp only[List.toList_toArray,this];exact List.nodup_range' ..
 have u:((l++[Value.int .i64 (.ofNat j)]).map iW).toArray=(l.map iW).toArray.push (f9 e j).born:=by
  rw[f];simp[iW]
 rw[u,<-z] at r;have q:=run_entry_at (P:=P) w gi g cs.length (l.map iW).toArray (bg cs 0).toArray cs.length (f9 e j) r hg (by simpa using aaW t) ad;refine bY hs he hd (v:=.tuple #[(f9 e j).key,(f9 e j).val]) (x:=.v (.tuple #[(f9 e j).key,(f9 e j).val])) ?_ rfl cC eV ag;simp only[execOp,ho,ab,Sem.run_bind,q,Result.andThen_ok,Sem.run_pure]
end
section
variable {P:Program}{F:aA}{L:Loc}{ρ:Env}{a:Act}{w:World}{K:dG}{o:Oper}{Q:Exit->Act->World->Prop}
theorem E9 {zs:List Value}{l:List (Nat×Nat×X)}(h:(l.all fun p=>Nat.ble (p.1+p.2.1) zs.length)=true):∀off n x,(off,n,x)∈l->off+n<=zs.length:=by
 intro off n x b;have:=aaY.1 h _ b;exact aa9 this
set_option maxHeartbeats 1000000 in
theorem fD {own:Bool}{s:dX}(hs:St F L w) (he:aD L ρ a) (hd:∀k,o.dst=some k->k<a.tmps.size) (j:iz P own o.op=some s)
  (m:evalOp P s o.dst F L ρ K):o.wp P a w (bG F L w a K) Q:=by
 cases p:o.op<;>rw[p] at j<;>simp only[iz] at j<;>try (cases j;done)
 case move y =>
  split at j
  case h_2=>cases j
  rename_i x hx;injection j with j;subst j
  exact JI hs he hd (.inl p) hx m
 case assign y =>
  split at j
  case h_2=>cases j
  rename_i x hx;injection j with j;subst j
  exact JI hs he hd (.inr p) hx m
 case pick c y z =>
  split at j
  case h_2=>cases j
  rename_i h1 l h3;injection j with j;subst j
  exact MZ hs he hd p h1 l h3 m
 case box t y =>
  split at j
  case h_2=>cases j
  rename_i h1 ag;have ag:=abM ag;injection j with j
  cases own
  ·subst j;exact Rt hs he hd p h1 ag m
  ·subst j;exact Nb hs he hd p h1 m
 case alloc t =>
  split at j
  case h_2=>cases j
  rename_i h1 ag;have ag:=abM ag;split at j
  case h_2=>cases j
  rename_i l;injection j with j;subst j
  exact JJ hs he hd p h1 l ag m
 case buildSlice t n ps =>
  split at j
  case h_2=>cases j
  rename_i h1 l;split at j
  case h_2=>cases j
  rename_i h3;split at j
  case h_2=>cases j
  rename_i q h5 h6;have q:=abt q;have h5:=abt h5;injection j with j
  cases own
  ·subst j;exact Ru hs he hd p h1 h3 h6 l q h5.1 m
  ·subst j;exact Rv hs he hd p h1 h3 h6 l q h5.1 h5.2 m
 case build t ps =>
  split at j
  case h_2=>cases j
  rename_i h1 l;split at j
  case h_2=>cases j
  rename_i h3 q;split at j
  case h_2=>cases j
  rename_i h5 h6;injection j with j;subst j
  exact JK hs he hd p h1 l h3 q (fun f hf=>aaY.1 h5 f hf) (E9 h6) m
 case load t y =>
  split at j
  ·rename_i d i x h1 l h3;injection j with j
   refine Nc (d:=d) (i:=i) (n:=match eW d with | true=>i.size | false=>1) hs he hd p h1 l h3 rfl ?_;cases az:eW d<;>simp only[az] at j ⊢<;>subst j<;>exact m
  ·rename_i h1 l h3;cases y with
   | global g =>
    simp only[Ap] at j;split at j
    ·rename_i q;injection j with j;subst j
     exact Dm hs he hd p h1 l rfl q m
    ·cases j
   | tmp n=>cases j
   | const v=>cases j
   | func f=>cases j
  ·rename_i h1 l h3;split at j
   case h_2=>injection j with j;subst j;exact False.elim m
   rename_i q;injection j with j;subst j
   cases y with
   | global g =>
    simp only[Ap] at q;split at q
    ·rename_i h5;injection q with q;subst q
     exact Dm hs he hd p h1 l rfl h5 m
    ·cases q
   | tmp n=>cases q
   | const v=>cases q
   | func f=>cases q
  ·injection j with j;subst j
   exact False.elim m
  ·cases j
 case lookup t y z ok =>
  split at j
  ·cases j
  ·split at j
   case h_2=>cases j
   rename_i h1 l h3;split at j
   case h_3=>cases j
   ·rename_i q h5;split at j
    case h_2=>cases j
    rename_i h6;injection j with j;subst j
    exact Dr (str:=false) hs he hd p h1 q h5 h6 l h3 m
   ·rename_i q h5;split at j
    case h_2=>cases j
    rename_i h6;injection j with j;subst j
    exact Dr (str:=true) hs he hd p h1 q h5 h6 l h3 m
 case makeMap t r =>
  cases r with
  | none =>
   simp only[iz,xo] at j;subst j;exact JY hs he hd p m
  | some r=>simp only[iz] at j;cases j
 case mapUpdate t y z u =>
  split at j
  case h_2=>cases j
  rename_i h1 l h3 q;split at j
  case h_3=>cases j
  ·rename_i h5;injection j with j;subst j
   exact wQ (str:=false) hs he hd (.inl p) h1 h5 l h3 q m
  ·rename_i h5;injection j with j;subst j
   exact wQ (str:=true) hs he hd (.inl p) h1 h5 l h3 q m
 case insert t y z u =>
  split at j
  case h_2=>cases j
  rename_i h1 l h3 q;split at j
  case h_3=>cases j
  ·rename_i h5;injection j with j;subst j
   exact wQ (str:=false) hs he hd (.inr p) h1 h5 l h3 q m
  ·rename_i h5;injection j with j;subst j
   exact wQ (str:=true) hs he hd (.inr p) h1 h5 l h3 q m
 case range t y =>
  split at j
  case h_2=>cases j
  rename_i h1 l;injection j with j;subst j
  exact Ia hs he hd p h1 l m
 case entry y =>
  split at j
  case h_2=>cases j
  rename_i h1;injection j with j;subst j
  exact Ib hs he hd p h1 m
 case next y b =>
  cases b with
  | true=>simp only[iz] at j;cases j
  | false =>
   simp only[iz] at j;split at j
   case h_2=>cases j
   rename_i h1;injection j with j;subst j
   exact JZ hs he hd p h1 m
 case store t y z =>
  split at j
  case h_2=>cases j
  rename_i h1 l h3;split at j
  case h_1=>cases j
  rename_i q;have q:=abM q;injection j with j;subst j
  exact JT hs he hd p h1 q l h3 m
 case makeInterface t y =>
  split at j
  ·cases j
  ·rename_i d x h1 l h3;injection j with j;subst j
   exact Ni hs he hd p l h1 h3 m
  ·cases j
 case typeAssert y xt t ok =>
  cases ok with
  | false=>cases j
  | true =>
   simp only[] at j;split at j
   ·cases j
   ·rename_i d i x q h1 l h3;split at j
    case h_2=>cases j
    rename_i h5;injection j with j;subst j
    exact RB hs he hd p h1 q l h5 h3 m
   ·cases j
 case panic y =>
  split at j
  case h_2=>cases j
  injection j with j;subst j
  exact m.elim
 case nilCheck y =>
  split at j
  case h_2=>cases j
  rename_i h1 l;injection j with j;subst j
  exact JS hs he hd p h1 l m
 case binOp op t y z t' =>
  split at j
  case h_2=>cases j
  rename_i d x1 x2 h1 l h3;split at j<;>first
   | (cases j;done)
   | (injection j with j;subst j;first
     | exact JL (neg:=false) hs he hd p h1 l h3 m
     | exact JL (neg:=true) hs he hd p h1 l h3 m
     | exact JN (neg:=false) hs he hd p h1 l h3 m
     | exact JN (neg:=true) hs he hd p h1 l h3 m
     | exact Rw hs he hd p l h3 m)
   | (split at j
      case h_2=>cases j
      rename_i k1 k2 k3;injection j with j;subst j
      first
       | exact JQ (neg:=false) hs he hd p h1 k1 k2 k3 l h3 m
       | exact JQ (neg:=true) hs he hd p h1 k1 k2 k3 l h3 m)
   | (split at j
      case h_2=>cases j
      rename_i k1;injection j with j;subst j
      first
       | exact JO (neg:=false) hs he hd p h1 l h3 k1 m
       | exact JO (neg:=true) hs he hd p h1 l h3 k1 m)
 case unOp op t y =>
  split at j
  case h_2=>cases j
  rename_i h1;injection j with j;subst j
  exact Tt hs he hd p h1 m
 case convert s t y =>
  split at j
  case h_2=>cases j
  rename_i h1 l h3;injection j with j;subst j
  exact Nd hs he hd p h1 l h3 m
 case makeFunc fn fi ca =>
  cases fn<;>simp only[] at j<;>try (cases j;done)
  ·split at j
   case h_2=>cases j
   rename_i h1 l;injection j with j;subst j
   exact Nf hs he hd p h1 l m
  ·split at j
   case h_2=>cases j
   rename_i h1 l;injection j with j;subst j
   exact Nj hs he hd p h1 l m
 case makeSlice t y z =>
  split at j
  case h_2=>cases j
  rename_i h1 l h3;split at j
  case h_2=>cases j
  rename_i q;split at j
  case h_2=>cases j
  rename_i h5;split at j
  case h_2=>cases j
  rename_i h6 h7;injection j with j;subst j
  exact JU hs he hd p h1 q h5 (abt h6) (abt h7) l h3 m
 case slice t y lo up mx =>
  cases mx<;>simp only[] at j<;>try (cases j;done)
  split at j
  case h_2=>cases j
  ·rename_i h1 l h3 q;split at j
   case h_2=>cases j
   rename_i h5;injection j with j;subst j
   exact RD hs he hd p h1 h5 l h3 q m
 case fieldAddr t y f =>
  split at j
  case h_2=>cases j
  rename_i h1 l;split at j
  case h_2=>cases j
  rename_i h3;split at j
  case h_2=>cases j
  rename_i q;split at j
  case h_1=>cases j
  rename_i h5;injection j with j;subst j
  exact H7 hs he hd p h1 h3 q (abM h5) l m
 case indexAddr t y z =>
  split at j
  case h_2=>cases j
  rename_i h1 l h3;split at j
  case h_2=>cases j
  rename_i q;injection j with j;subst j
  exact Nh hs he hd p h1 q l h3 m
 case extract y i =>
  split at j
  case h_2=>cases j
  rename_i h1;injection j with j;subst j
  exact Ng hs he hd p h1 m
 case call c =>
  split at j
  case h_1=>cases j
  rename_i args ae;split at j
  ·rename_i f hc;split at j
   case h_2=>cases j
   split at j
   case h_2=>cases j
   injection j with j;subst j
   exact Nk hs he hd p hc ae m
  ·rename_i y hc;split at j
   case h_2=>cases j
   rename_i h1;injection j with j;subst j
   exact JX hs he hd p hc h1 ae m
  ·rename_i n nm hc;injection j with j;subst j
   exact RI hs he hd p hc ae m
  ·cases j
  ·rename_i b hc;have one:∀{x:X},args=[x]->∃y,c.args=#[y]/\bO y=some x:=by
    intro x e;subst e
    match an:c.args.toList,ae with
    | [],h=>simp[gG] at h
    | [y],h =>
     refine⟨y,by apply Array.ext';simpa using an,?_⟩;simp only[gG] at h;split at h
     case h_2=>cases h
     rename_i h1 l;injection h with h
     injection h with h _
     rw[h1,h]
    | y::z::r,h =>
     simp only[gG] at h;split at h
     case h_2=>cases h
     rename_i h1 l;injection h with h
     injection h with _ h
     subst h;split at l
     ·injection l with l;cases l
     ·cases l
   have two:∀{x x':X},args=[x,x']->∃y y',c.args=#[y,y']/\bO y=some x/\bO y'=some x':=by
    intro x x' e;subst e
    match an:c.args.toList,ae with
    | [],h=>simp[gG] at h
    | [y],h =>
     simp only[gG] at h;split at h
     case h_2=>cases h
     rename_i h1 l;injection l with l
     injection h with h
     injection h with _ h
     rw[h] at l;cases l
    | [y,y'],h =>
     refine⟨y,y',by apply Array.ext';simpa using an,?_⟩;simp only[gG] at h;split at h
     case h_2=>cases h
     rename_i h1 l;injection h with h
     injection h with h h'
     split at l
     case h_2=>cases l
     rename_i h3 q;injection l with l
     rw[<-l] at h';injection h' with h' _
     exact⟨by rw[h1,h],by rw[h3,h']⟩
    | y::z::u::r,h =>
     simp only[gG] at h;split at h
     case h_2=>cases h
     rename_i h1 l;injection h with h
     injection h with _ h
     subst h;split at l
     case h_2=>cases l
     rename_i h3 q;injection l with l
     injection l with _ l
     subst l;split at q
     ·injection q with q;cases q
     ·cases q
   have aE:∀{t:TypeId},c.argTypes.toList=[t]->c.argTypes=#[t]:=fun e=>by apply Array.ext';simpa using e
   have bd:∀{t t':TypeId},c.argTypes.toList=[t,t']->c.argTypes=#[t,t']:=fun e=>by apply Array.ext';simpa using e
   split at j
   ·rename_i x t ao;obtain⟨y,ha,hy⟩:=one rfl;split at j
    ·rename_i h1;injection j with j;subst j
     exact Rz hs he hd p hc ha (aE ao) h1 hy m
    ·cases j
   ·injection j with j;subst j
    exact Qx (mx:=true) hs he hd p hc ae m
   ·injection j with j;subst j
    exact Qx (mx:=false) hs he hd p hc ae m
   ·rename_i x x' t t' ao;obtain⟨y,y',ha,hy,ax⟩:=two rfl;split at j
    ·rename_i h1 l;split at j
     case h_2=>cases j
     rename_i h3;split at j
     case h_2=>cases j
     rename_i q;split at j
     case h_2=>cases j
     rename_i h5 h6 h7;have h5:=abt h5;subst h5;injection j with j;subst j
     exact RH hs he hd p hc ha (bd ao) h1 h3 q (abt h6) (abt h7) hy ax m
    ·cases j
   ·cases j
end
structure cW where
 n:Nat
 own:List Nat:=[]
 frz:List (Nat×Nat×List Nat):=[]
 ord:List (Nat×List Nat×List (List Nat)):=[]
 co:List Nat:=[]
 pan:List (Nat×Nat):=[]
 bx:List Nat:=[]
 fl:List Nat:=[]
 px:List Nat:=[]
 bk:List (Nat×Nat):=[]
def vO:List (Nat×Nat)->Nat->Nat->Bool
 | [],_,_=>false
 | (r,i)::l,b,c=>match Nat.beq r b&&Nat.beq i c with | true=>true | false=>vO l b c
def nu (b:Bool) (d:Option Nat) (s:dX) (g:Option (Nat×Bool)):ak:=match b with | true=>.pc d s g | false=>.op d s g
def cW.owned (A:cW):Option Nat->Bool
 | some d=>fC A.own d
 | none=>false
def cW.isO (A:cW):Option Nat->Bool
 | some d=>fC A.co d
 | none=>fC A.co 999999
def cW.isX (A:cW):Option Nat->Bool
 | some d=>fC A.px d
 | none=>fC A.px 999999
def J0:List (Nat×Nat×List Nat)->Nat->Nat->List Nat
 | [],_,_=>[]
 | (r,i,ks)::l,b,c=>match Nat.beq r b&&Nat.beq i c with | true=>ks | false=>J0 l b c
def J1:List (Nat×List Nat×List (List Nat))->Nat->Option (List Nat×List (List Nat))
 | [],_=>none
 | (r,is)::l,b=>match Nat.beq r b with | true=>some is | false=>J1 l b
def Dt (l:List (Nat×List Nat×List (List Nat))) (r:Nat):List Nat:=match J1 l r with | some (is,_)=>is | none=>[]
def iB (c:Array Oper):Option (Nat×Bool)->Option (Option (Nat×Bool))
 | none=>some none
 | some (j,b)=>match(c[j]?).bind (·.dst) with
  | some d=>some (some (d,b))
  | none=>none
def Qy (n:Nat):Option Nat->Bool
 | none=>true
 | some d=>Nat.blt d n
def qh (P:Program) (A:cW) (r:Nat) (b:Array Oper):List Nat->Option (List ak)
 | []=>some []
 | i::is=>match b[i]? with
  | none=>none
  | some o=>match iB b o.guard,iz P (A.owned o.dst) o.op,Qy A.n o.dst,qh P A r b is with
   | some g,some s,true,some c=>some ((J0 A.frz r i).map .frz++nu (vO A.pan r i) o.dst s g::c)
   | _,_,_,_=>none
section
variable {P:Program}{F:aA}{L:Loc}{ρ:Env}{a:Act}{w:World}{K:dG}{Q:Exit->Act->World->Prop}
def eJ (n:Nat) (F:aA) (L:Loc) (w:World) (a:Act) (asg:List Nat) (K:dG) (a':Act) (w':World):Prop :=
 ∃F' L' ρ',St F' L' w'/\aD L' ρ' a'/\a'.tmps.size=n/\a'.defers=a.defers/\Step F L w F' L' w'/\(∀j,j∉asg->a'.tmps.getD j undef=a.tmps.getD j undef)/\K F' L' ρ'
theorem qW {k:Nat}{KK:aA->Loc->Prop}(hs:St F L w) (he:aD L ρ a) (h:Qw F L k KK):∃F' L',St F' L' w/\aD L' ρ a/\Step F L w F' L' w/\KK F' L':=by
 obtain⟨v,t,sz,n,xs,hk,hK⟩:=h;have d:=hs.own k _ hk;simp only[Own.ok] at d;have s:=hs.part (Loc.aaz L k);have q:aD (L.del k) ρ a:=by
  have hb:∀j g ty cs,L.get j=some (.box g ty cs)->(L.del k).get j=some (.box g ty cs):=by
   intro j g ty cs e;rw[Loc.aag];split
   ·rename_i hj;subst hj;rw[hk] at e;cases e
   ·exact e
  refine⟨fun j=>?_,fun j r off e=>?_,he.el⟩
  ·rw[he.eq j];cases e:ρ j with
   | v x=>rfl
   | el x y=>rfl
   | own r off =>
    obtain⟨g,ty,cs,c⟩:=he.own j r off e;simp only[conc,c,hb r g ty cs c]
  ·obtain⟨g,ty,cs,c⟩:=he.own j r off e;exact⟨g,ty,cs,hb r g ty cs c⟩
 have ad:∀g,v.ownBlock=some g->¬(L.del k).owns g:=by
  rintro g c ⟨j,p,e,hb⟩;rw[Loc.aag] at e;split at e
  ·cases e
  ·rename_i hj;exact hj (hs.sep j k p _ g e hk hb c)
 obtain⟨hx,l⟩:=d;rcases l with⟨rfl,rfl⟩ | ⟨g,cap,ag,rfl,ao,c,ae,an,ar,f⟩
 ·refine⟨F,L.del k,s,q,⟨aA.le_refl F,rfl,rfl,rfl,aa0 _,fun _ _ _=>rfl,fun b h=>.inl h,fun b h=>.inl (Loc.aaw h)⟩,hK F (aA.le_refl F) (.inl ⟨rfl,rfl,abu (by simpa using hx)⟩)⟩
 ·have o:=aA.aav hs c;refine⟨_,L.del k,s.freeze c (ad g rfl),q,⟨o,rfl,rfl,rfl,aa0 _,fun _ _ _=>rfl,fun b h=>?_,fun b h=>.inl (Loc.aaw h)⟩,hK _ o (.inr ⟨⟨g,0,none⟩,cap,rfl,⟨_,ag,t,(0,0),rfl,eu rfl,rfl,fun i u z=>?_⟩,ae⟩)⟩
  ·by_cases m:b=g
   ·subst m;exact .inr (.inl ⟨k,_,hk,rfl⟩)
   ·simp only[fo m] at h;exact .inl h
  ·rw[<-f,abD] at z;split at z
   ·simpa using z
   ·cases z
theorem sn {k g:Nat}{t:TypeId}{cs:List Value}(m:St F L w) (he:aD L ρ a) (n:L.get k=some (.box g t cs)) :
  ∃F',F.le F'/\F' g=some (nj t cs)/\St F' (L.del k) w/\aD (L.del k) (xu k g ρ) a/\Step F L w F' (L.del k) w:=by
 have s:=m.own k _ n;simp only[Own.ok] at s;have z:=m.part (Loc.aaz L k);have f:=aA.aav m s;have o:¬(L.del k).owns g:=by
  rintro⟨j,p,e,hb⟩;rw[Loc.aag] at e;split at e
  ·cases e
  ·rename_i hj;exact hj (m.sep j k p _ g e n hb rfl)
 refine⟨_,f,eu rfl,z.freeze s o,⟨fun j=>?_,fun j u off e=>?_,fun j ad i e=>?_⟩,⟨f,rfl,rfl,rfl,aa0 _,fun _ _ _=>rfl,fun b h=>?_,fun b h=>.inl (Loc.aaw h)⟩⟩
 ·rw[he.eq j];simp only[xu];cases e:ρ j with
  | v x=>rfl
  | el x y=>rfl
  | own u off =>
   simp only[];cases hb:Nat.beq u k with
   | true =>
    have:=aaQ hb;subst this;simp only[conc,n]
   | false =>
    have c:u≠k:=fun e=>by rw[e] at hb;simp at hb
    simp only[conc];rw[Loc.aag,fo c]
 ·simp only[xu] at e;split at e
  ·rename_i r l q;cases hb:Nat.beq r k with
   | true=>rw[hb] at e;cases e
   | false =>
    rw[hb] at e;injection e with e3 e4
    subst e3;have c:r≠k:=fun e=>by rw[e] at hb;simp at hb
    rw[Loc.aag,fo c];exact he.own j r l q
  ·cases e
  ·cases e
 ·simp only[xu] at e;split at e
  ·split at e<;>cases e
  ·cases e
  ·rename_i a2 i2 q;injection e with h1 h2
   subst h1;exact he.el j _ _ q
 ·by_cases d:b=g
  ·subst d;exact .inr (.inl ⟨k,_,n,rfl⟩)
  ·simp only[fo d] at h;exact .inl h
theorem qX {s:Nat}{b:Bool}(h:a.tmps.getD s undef=.bool b):a.tmps[s]?=some (.bool b):=by
 rw[aa6] at h;cases e:a.tmps[s]? with
 | none=>rw[e] at h;simp[undef] at h
 | some v=>rw[e] at h;simp at h;rw[h]
theorem kR {ρ:Env}{s:Nat}{v:Value}(h:ρ s=.v v):put (some s) (.v v) ρ=ρ:=by
 funext t
 rw[put_eq];simp only[];split
 ·rename_i h1;subst h1;exact h.symm
 ·rfl
def dstsOf (b:Array Oper):List Nat->List Nat
 | []=>[]
 | i::is=>match(b[i]?).bind (·.dst) with | some d=>d::dstsOf b is | none=>dstsOf b is
theorem kz {d:Option Nat}{v:Value}{j:Nat}(h:d≠some j):(a.put d v).tmps.getD j undef=a.tmps.getD j undef:=by
 cases d with
 | none=>rfl
 | some k =>
  simp only[Act.put,aa6,Array.getElem?_setIfInBounds];rw[fo (by intro e;exact h (by rw[e]))]
theorem qi {o:Oper}{asg:List Nat}{KK:Act->World->Prop}(b:o.wp P a w KK Q) :
  o.wp P a w (fun a' w'=>KK a' w'/\∀j,o.dst≠some j->a'.tmps.getD j undef=a.tmps.getD j undef) Q:=by
 unfold Oper.wp at b ⊢;generalize(execOp a.eval o).run P w=r at b ⊢;cases r with
 | ok d w' =>
  cases d<;>simp only[Oper.upon] at b ⊢<;>first
   | exact⟨b,fun j h=>kz h⟩
   | exact Calls.mono b (fun e c he=>by cases e<;>first | exact⟨he,fun j h=>kz h⟩ | exact he)
   | exact Rows.mono b (fun v c he=>⟨he,fun j h=>kz h⟩)
 | halt x w'=>cases x<;>simp only[Oper.upon] at b ⊢<;>exact b
theorem uR {c:Code}(I:Nat->Act->World->Prop) (v:∃n,I n a w)
  (p:∀n a w,I n a w->c.wp P (Exit.then (fun a' w'=>∃m,m<n/\I m a' w') Q) a w):(Code.loop c).wp P Q a w:=by
 intro b k cs;have key:∀n a w,I n a w->∃e a' w',Q e a' w'/\Arrives P (lone (b.at a (.code c::.inLoop c::k)) cs w) b k cs e a' w':=by
  intro n
  induction n using Nat.strongRecOn with
  | _ n ih =>
   intro a w y;obtain⟨e,f,h,o,d⟩:=p n a w y b (.inLoop c::k) cs;cases e with
   | normal =>
    obtain⟨m,z,r⟩:=o;obtain⟨s,u,t,q,j⟩:=ih m z f h r;exact⟨s,u,t,q,.of_steps (Steps.trans d (.one step_inLoop)) j⟩
   | exit id=>exact⟨_,f,h,o,.pass (x:=.inLoop c) rfl (fun _ _=>.inl (by simp)) d⟩
   | goto l=>exact⟨_,f,h,o,.pass (x:=.inLoop c) rfl (fun _ _=>.inl (by simp)) d⟩
   | ret=>exact⟨_,f,h,o,.pass (x:=.inLoop c) rfl (fun _ _=>.inl (by simp)) d⟩
   | panic ch=>exact⟨_,f,h,o,.pass (x:=.inLoop c) rfl (fun _ _=>.inl (by simp)) d⟩
   | outgrown=>exact⟨_,f,h,o,.pass (x:=.inLoop c) rfl (fun _ _=>.inl (by simp)) d⟩
 obtain⟨n,y⟩:=v;obtain⟨e,a',w',o,d⟩:=key n a w y;exact⟨e,a',w',o,.of_steps (.one step_loop) d⟩
theorem qY:∀{L L':Loc},L.keeps L'->∀{k g t cs},L.get k=some (.box g t cs)->∃cs',L'.get k=some (.box g t cs')
 | [],L',_,k,g,t,cs,e=>by cases e
 | (j,.box c d cs')::l,L',h,k,g,t,cs,e=>by
  simp only[Loc.keeps] at h;simp only[Loc.get] at e;split at e
  ·rename_i b;have:=aaQ b;subst this;injection e with e
   injection e with e1 e2 e3
   subst e1 e2;exact h.1
  ·exact qY h.2 e
 | (j,.row ..)::l,L',h,k,g,t,cs,e=>by
  simp only[Loc.keeps] at h;simp only[Loc.get] at e;split at e
  ·cases e
  ·exact qY h e
theorem lU {L:Loc}:∀{L':Loc},L.gives L'->∀{k o},L'.get k=some o->L.get k=some o\/(L.get k=none/\∃t sz,o=.row (.slice none 0 0) t sz 0 [])
 | [],_,k,o,e=>by cases e
 | (j,p)::l,h,k,o,e=>by
  simp only[Loc.gives] at h;simp only[Loc.get] at e;split at e
  ·rename_i b;have:=aaQ b;subst this;injection e with e
   subst e;exact h.1
  ·exact lU h.2 e
theorem St.gives {L':Loc}(b:St F L w) (h:L.gives L'):St F L' w:=by
 refine⟨b.frz,fun k o e=>?_,fun k o g e hb=>?_,fun k j o o' g e f hb c=>?_,b.glob⟩
 ·rcases lU h e with h1 | ⟨_,t,sz,rfl⟩
  ·exact b.own k o h1
  ·exact World.ownsRow_nil w 0 t sz
 ·rcases lU h e with h1 | ⟨_,t,sz,rfl⟩
  ·exact b.off k o g h1 hb
  ·cases hb
 ·rcases lU h e with h1 | ⟨_,t,sz,rfl⟩<;>rcases lU h f with d | ⟨_,m,l,rfl⟩
  ·exact b.sep k j o o' g h1 d hb c
  ·cases c
  ·cases hb
  ·cases hb
theorem su {L':Loc}(h:L.gives L'):Step F L w F L' w :=
 ⟨aA.le_refl F,rfl,rfl,rfl,aa0 _,fun _ _ _=>rfl,fun b h=>.inl h,fun b ⟨k,o,e,hb⟩=>by
  rcases lU h e with h1 | ⟨_,t,sz,rfl⟩
  ·exact .inl ⟨k,o,h1,hb⟩
  ·cases hb⟩
theorem cQ:∀{l:List Nat}{k:Nat},fC l k=true↔k∈l
 | [],k=>by simp[fC]
 | j::l,k=>by
  simp only[fC];split
  ·rename_i h;have:=aaQ h;subst this;simp
  ·rename_i h;have:=gF h;rw[cQ];simp only[aaT];constructor
   ·exact .inr
   ·rintro(h | h)
    ·exact fL h.symm this
    ·exact h
theorem oM:∀(c:List Nat) (b:List Value) (ρ:Env) (j:Nat),(puts c (b.map .v) ρ j=ρ j)\/∃v,puts c (b.map .v) ρ j=.v v
 | [],b,ρ,j=>.inl rfl
 | k::c,[],ρ,j=>.inl rfl
 | k::c,v::b,ρ,j=>by
  simp only[aaX,puts,put_eq];split
  ·exact .inr ⟨v,rfl⟩
  ·exact oM c b ρ j
theorem xI {L:Loc}:∀(d:List Nat) (c:List Value) (ρ b:Env) {a:Act},(∀t,a.tmps.getD t undef=conc L (ρ t))->holds d (c.map .v) ρ->∀j,(∃v,puts d (c.map .v) b j=.v v/\a.tmps.getD j undef=v)\/puts d (c.map .v) b j=b j
 | [],c,ρ,b,a,he,h,j=>.inr rfl
 | k::d,[],ρ,b,a,he,h,j=>.inr rfl
 | k::d,v::c,ρ,b,a,he,h,j=>by
  simp only[aaX,holds] at h;simp only[aaX,puts,put_eq];split
  ·rename_i e;subst e;exact .inl ⟨v,rfl,by rw[he,h.1];rfl⟩
  ·exact xI d c ρ b he h.2 j
end
def bE:dX->List X
 | .mov x | .nilck x | .conv _ x | .un _ x | .eqN _ x | .fieldA _ x | .extr x _ | .len x | .loadD _ _ x | .boxD _ x | .loadK _ _ _ x | .loadF _ _ x | .loadR _ _ x | .makeSV _ _ _ _ x=>[x]
 | .mlook _ _ _ x i=>[x,i]
 | .pick c a b=>[c,a,b]
 | .bin _ x y | .eqB _ x y | .eqS _ x y | .eqA _ _ x y | .idxA _ x y=>[x,y]
 | .build _ ps=>ps.map (·.2.2)
 | .mkfn _ a b=>a++b
 | .slc _ x lo hi=>x::(lo.toList++hi.toList)
 | .mm _ l | .mkFD _ _ _ l=>l
 | .callD _ l=>l
 | .callVD f l=>f::l
 | .allocD _ _=>[]
 | .appD _ _ _ _ s x=>[s,x]
 | .storeD _ a x=>[a,x]
 | .storeK _ _ a x=>[a,x]
 | _=>[]
def cR:dX->Bool
 | .mov _ | .nilck _ | .conv _ _ | .un _ _ | .fieldA _ _ | .extr _ _ | .len _ | .loadD _ _ _ | .pick _ _ _
 | .bin _ _ _ | .eqB _ _ _ | .eqS _ _ _ | .eqN _ _ | .eqA _ _ _ _ | .idxA _ _ _ | .build _ _ | .mkfn _ _ _ | .slc _ _ _ _ | .mm _ _ | .loadK _ _ _ _ | .loadF _ _ _ | .gload _ | .loadR _ _ _ | .mlook _ _ _ _ _=>true
 | _=>false
def J2:dX->Bool
 | .loadR _ _ _ | .mlook _ _ _ _ _=>true
 | _=>false
def gY:dX->Bool
 | .callD _ _ | .callVD _ _=>true
 | _=>false
def eF:dX->Bool
 | .mkFD _ _ _ _ | .boxD _ _ | .allocD _ _ | .makeSD _ _ _ _ | .makeSV _ _ _ _ _=>true
 | _=>false
def pK:dX->Bool
 | .appD _ _ _ _ _ _=>true
 | _=>false
def iP:dX->Bool
 | .storeD _ _ _=>true
 | .storeK _ _ _ _=>true
 | _=>false
def Du:dX->Bool
 | .mov _ | .nilck _ | .conv _ _ | .un _ _ | .fieldA _ _ | .extr _ _ | .len _ | .pick _ _ _
 | .bin _ _ _ | .eqB _ _ _ | .eqS _ _ _ | .eqN _ _ | .eqA _ _ _ _ | .idxA _ _ _ | .slc _ _ _ _ | .mm _ _=>true
 | _=>false
theorem Dv {o:dX}(h:Du o=true):cR o=true:=by cases o<;>first | rfl | cases h
theorem AF {o:dX}(h:Du o=true) {F F':aA}{L L':Loc}{ρ:Env}{V:SV->Prop}(a:aL o F L ρ V):aL o F' L' ρ V:=by
 cases o<;>first | (cases h;done) | exact a
def drawn:dX->Option dX
 | .load a n x=>some (.loadD a n x)
 | .call f l=>some (.callD f l)
 | .callV f l=>some (.callVD f l)
 | .box t x=>some (.boxD t x)
 | .alloc t z=>some (.allocD t z)
 | .mkF e n sz l=>some (.mkFD e n sz l)
 | .app e sz b z s x=>some (.appD e sz b z s x)
 | .store n a x=>some (.storeD n a x)
 | .boxD _ _ | .allocD _ _ | .mkFD _ _ _ _ | .callD _ _ | .callVD _ _ | .loadD _ _ _ | .appD _ _ _ _ _ _ | .storeD _ _ _ | .boxF _ _ | .callO _ _ | .callVO _ _ | .appX _ _ _ _ _ _ | .makeSD _ _ _ _ | .makeSV _ _ _ _ _ | .loadK _ _ _ _ | .storeK _ _ _ _ | .storeX _ _ _ | .makeS _ _ _ _ _ _ | .loadF _ _ _ | .loadR _ _ _ | .mkmap | .mupd _ _ _ _ | .mrange _ | .mnext _ | .mentry _=>none
 | o=>some o
def BV:X->Option Int
 | .c (.int _ n)=>some n
 | _=>none
def RJ (b:Nat) (n m:Int):Bool:=Nat.ble (n.toNat*b) 140737488355328&&Nat.ble n.toNat 9223372036854775807&&(match n,m with | .ofNat a,.ofNat b=>Nat.beq a b | _,_=>false)
def oN (bx:List Nat):dX->Option dX
 | .makeS e sz b zs l c=>match BV l,BV c with
  | some n,some m=>match RJ b n m with
   | true=>some (.makeSD e sz n.toNat zs)
   | false=>none
  | _,_=>match l,c with
   | .t i,.t j=>match Nat.beq i j with
    | true=>some (.makeSV e sz b zs (.t i))
    | false=>none
   | _,_=>none
 | .mkR e 0 sz []=>some (.makeSD e sz 0 (List.replicate sz undef))
 | .load a n (.t i)=>match fC bx i with | true=>some (.loadK i a n (.t i)) | false=>some (.loadD a n (.t i))
 | .store n (.t i) x=>match fC bx i with | true=>some (.storeK i n (.t i) x) | false=>some (.storeD n (.t i) x)
 | o=>drawn o
def Qz:List (Nat×Nat)->Nat->Option Nat
 | [],_=>none
 | (i,k)::l,j=>match Nat.beq i j with | true=>some k | false=>Qz l j
def uS (fl:List Nat) (bk:List (Nat×Nat)) (bx:List Nat):dX->Option dX
 | .load a n (.t i)=>match fC fl i with
  | true=>some (.loadF a n (.t i))
  | false=>match Qz bk i with
   | some key=>match Nat.beq key 999999 with
    | true=>some (.loadR a n (.t i))
    | false=>some (.loadK key a n (.t i))
   | none=>oN bx (.load a n (.t i))
 | o=>oN bx o
def xJ:dX->Option dX
 | .call f l=>some (.callO f l)
 | .callV f l=>some (.callVO f l)
 | .app e sz b z s x=>some (.appX e sz b z s x)
 | .store n a x=>some (.storeX n a x)
 | .mupd str x i v=>some (.mupd str x i v)
 | _=>none
section
variable {P:Program}{F:aA}{L:Loc}{ρ:Env}{K:dG}
theorem ck {o:dX}(h:cR o=true) (d:Option Nat):evalOp P o d F L ρ K=aL o F L ρ fun v=>K F L (put d v ρ):=by
 cases o<;>first | rfl | cases h
structure One (T:(SV->Prop)->Prop):Prop where
 ex:∀V,T V->∃v,T (fun u=>u=v)/\V v
 mono:∀V V':SV->Prop,(∀v,V v->V' v)->T V->T V'
theorem One.ret (v:SV):One fun V=>V v:=⟨fun V h=>⟨v,rfl,h⟩,fun V V' h k=>h v k⟩
theorem One.no:One fun _=>False:=⟨fun V h=>h.elim,fun V V' h k=>k⟩
theorem One.and {p:Prop}{T:(SV->Prop)->Prop}(h:One T):One fun V=>p/\T V :=
 ⟨fun V ⟨b,a⟩=>let⟨v,h1,h2⟩:=h.ex V a;⟨v,⟨b,h1⟩,h2⟩,fun V V' c ⟨b,a⟩=>⟨b,h.mono V V' c a⟩⟩
theorem One.fit {k:IntKind}{n:Int}{T:Int->(SV->Prop)->Prop}(h:∀m,One (T m)):One fun V=>Fit k n fun m=>T m V :=
 ⟨fun V ⟨a⟩=>let⟨v,h1,h2⟩:=(h _).ex V a;⟨v,⟨h1⟩,h2⟩,fun V V' b ⟨a⟩=>⟨(h _).mono V V' b a⟩⟩
theorem One.nz {n:Int}{T:(SV->Prop)->Prop}(h:One T):One fun V=>Ro n (T V) :=
 ⟨fun V ⟨b,a⟩=>let⟨v,h1,h2⟩:=h.ex V a;⟨v,⟨b,h1⟩,h2⟩,fun V V' c ⟨b,a⟩=>⟨b,h.mono V V' c a⟩⟩
theorem One.idx {a:Option Addr}{i n:Int}{T:(SV->Prop)->Prop}(h:One T):One fun V=>JC a i n (T V) :=
 ⟨fun V ⟨e,d,c,b⟩=>let⟨v,h1,h2⟩:=h.ex V b;⟨v,⟨e,d,c,h1⟩,h2⟩,fun V V' f ⟨e,d,c,b⟩=>⟨e,d,c,h.mono V V' f b⟩⟩
theorem One.slc {l h:Int}{c:Nat}{T:Nat->Nat->(SV->Prop)->Prop}(f:∀l h,One (T l h)):One fun V=>Qs l h c fun l h=>T l h V :=
 ⟨fun V ⟨e,d,b,a⟩=>let⟨v,h1,h2⟩:=(f _ _).ex V a;⟨v,⟨e,d,b,h1⟩,h2⟩,fun V V' j ⟨e,d,b,a⟩=>⟨e,d,b,(f _ _).mono V V' j a⟩⟩
theorem One.loadD {a:Option Addr}{j n:Nat}{T:List Value->(SV->Prop)->Prop}(h:∀cs,One (T cs)):One fun V=>jm F a j n fun cs=>T cs V :=
 ⟨fun V ⟨cs,d,c,b⟩=>let⟨v,h1,h2⟩:=(h _).ex V b;⟨v,⟨cs,d,c,h1⟩,h2⟩,fun V V' e ⟨cs,d,c,b⟩=>⟨cs,d,c,(h _).mono V V' e b⟩⟩
theorem One.aaF {a:Option Addr}{j n:Nat}{T:List Value->(SV->Prop)->Prop}(h:∀cs,One (T cs)):One fun V=>ku F L a j n fun cs=>T cs V :=
 ⟨fun V ⟨cs,d,c,b⟩=>let⟨v,h1,h2⟩:=(h _).ex V b;⟨v,⟨cs,d,c,h1⟩,h2⟩,fun V V' e ⟨cs,d,c,b⟩=>⟨cs,d,c,(h _).mono V V' e b⟩⟩
theorem One.aaJ {g:Nat}{T:Nat->List Value->(SV->Prop)->Prop}(h:∀k cs,One (T k cs)):One fun V=>Df L g fun k cs=>T k cs V :=
 ⟨fun V ⟨k,cs,c,b,a⟩=>let⟨v,h1,h2⟩:=(h _ _).ex V a;⟨v,⟨k,cs,c,b,h1⟩,h2⟩,fun V V' d ⟨k,cs,c,b,a⟩=>⟨k,cs,c,b,(h _ _).mono V V' d a⟩⟩
theorem One.mlk {str:Bool}{cs:List Value}{key:Value}{ok:Bool}{z:Value}:One fun V=>Gm str cs key ok z fun v=>V (.v v) :=
 ⟨fun V h=>by
  rcases h.out with⟨i,v,h1,a⟩ | ⟨h1,a⟩
  ·exact⟨_,⟨.inl ⟨i,v,h1,rfl⟩⟩,a⟩
  ·exact⟨_,⟨.inr ⟨h1,rfl⟩⟩,a⟩,fun V V' b h=>⟨h.out.imp (fun⟨i,v,h1,a⟩=>⟨i,v,h1,b _ a⟩) fun⟨h1,a⟩=>⟨h1,b _ a⟩⟩⟩
theorem One.gl {g:Nat}{T:Value->(SV->Prop)->Prop}(h:∀v,One (T v)):One fun V=>Tr F g fun v=>T v V :=
 ⟨fun V ⟨u,t,c,b,a⟩=>let⟨v,h1,h2⟩:=(h _).ex V a;⟨v,⟨u,t,c,b,h1⟩,h2⟩,fun V V' d ⟨u,t,c,b,a⟩=>⟨u,t,c,b,(h _).mono V V' d a⟩⟩
theorem One.bytes {cs:List Value}{T:List UInt8->(SV->Prop)->Prop}(h:∀a,One (T a)):One fun V=>MY cs fun a=>T a V :=
 ⟨fun V ⟨a,c,b⟩=>let⟨v,h1,h2⟩:=(h _).ex V b;⟨v,⟨a,c,h1⟩,h2⟩,fun V V' d ⟨a,c,b⟩=>⟨a,c,(h _).mono V V' d b⟩⟩
theorem One.binI {op:BinOp}{k:IntKind}{a b:Int}:One fun V=>binI op k a b fun v=>V (.v v):=by
 cases op<;>simp only[Fr.binI]<;>first
  | exact One.no
  | exact One.ret _
  | exact One.fit fun _=>One.ret _
  | exact One.nz (One.fit fun _=>One.ret _)
  | exact One.nz (One.ret _)
theorem One.shI {op:BinOp}{k:IntKind}{a b:Int}:One fun V=>shI op k a b fun v=>V (.v v):=by
 cases op<;>simp only[Fr.shI]<;>first
  | exact One.no
  | exact One.and (One.fit fun _=>One.ret _)
  | exact One.and (One.ret _)
theorem One.binS {op:BinOp}{a b:ByteArray}:One fun V=>binS op a b fun v=>V (.v v):=by
 cases op<;>simp only[Fr.binS]<;>first
  | exact One.no
  | exact One.ret _
  | exact One.and (One.ret _)
theorem eY {o:dX}(h:cR o=true):One (aL o F L ρ):=by
 cases o<;>first | (cases h;done) | skip
 case mov x=>exact One.ret _
 case pick c a b =>
  show One fun V=>aL _ F L ρ V;simp only[aL];cases e:ev ρ c with
  | v x =>
    cases x<;>try exact One.no
    rename_i b;cases b<;>exact One.ret _
  | own k off=>exact One.no
  | el a j=>exact One.no
 case build zs ps =>
  show One fun V=>aL _ F L ρ V;simp only[aL];cases e:built L ρ zs ps with
  | none=>exact One.no
  | some cs=>exact One.ret _
 case loadD ag n x =>
  show One fun V=>aL _ F L ρ V;simp only[aL];cases e:ev ρ x with
  | own k off =>
   simp only[];cases m:L.get k with
   | none=>exact One.no
   | some p =>
    cases p with
    | row=>exact One.no
    | box g t cs =>
     simp only[];cases q:jt t ((cs.drop off).take n) n
     ·exact One.no
     ·exact One.ret _
  | el a j=>exact One.loadD fun _=>One.ret _
  | v x =>
   cases x<;>try exact One.no
   rename_i a;cases a
   ·exact One.no
   ·exact One.loadD fun _=>One.ret _
 case gload g =>
  show One fun V=>aL _ F L ρ V;simp only[aL];exact One.gl fun _=>One.ret _
 case loadR ag n x =>
  show One fun V=>aL _ F L ρ V;simp only[aL];cases e:ev ρ x with
  | own k off =>
   simp only[];cases m:L.get k with
   | none=>exact One.no
   | some p =>
    cases p with
    | row=>exact One.no
    | box g t cs =>
     simp only[];cases q:jt t ((cs.drop off).take n) n
     ·exact One.no
     ·exact One.ret _
  | el a j=>exact One.aaF fun _=>One.ret _
  | v x =>
   cases x<;>try exact One.no
   rename_i a;cases a
   ·exact One.no
   ·exact One.aaF fun _=>One.ret _
 case mlook str ok z0 x i =>
  show One fun V=>aL _ F L ρ V;simp only[aL];cases e:ev ρ x with
  | own k off=>exact One.no
  | el a j=>exact One.no
  | v x =>
   cases x<;>try exact One.no
   rename_i a;cases a
   ·exact One.no
   ·exact One.aaJ fun k cs=>One.mlk
 case loadF ag n x =>
  show One fun V=>aL _ F L ρ V;simp only[aL];cases e:ev ρ x with
  | own k off=>exact One.no
  | el a j=>exact One.loadD fun _=>One.ret _
  | v x =>
   cases x<;>try exact One.no
   rename_i a;cases a
   ·exact One.no
   ·exact One.loadD fun _=>One.ret _
 case loadK key ag n x =>
  show One fun V=>aL _ F L ρ V;simp only[aL];cases e:ev ρ x with
  | own k off =>
   simp only[];cases e1:Nat.beq k key with
   | false=>exact One.no
   | true =>
    simp only[];cases m:L.get k with
    | none=>exact One.no
    | some p =>
     cases p with
     | row=>exact One.no
     | box g t cs =>
      simp only[];cases q:jt t ((cs.drop off).take n) n
      ·exact One.no
      ·exact One.ret _
  | el a j=>exact One.no
  | v x=>exact One.no
 case nilck x =>
  show One fun V=>aL _ F L ρ V;simp only[aL];cases e:ev ρ x with
  | own k off=>exact One.ret _
  | el a j=>exact One.and (One.ret _)
  | v x =>
   cases x<;>try exact One.no
   ·rename_i a;cases a
    ·exact One.no
    ·exact One.ret _
   ·rename_i f a b;cases f<;>first
     | exact One.no
     | exact One.ret _
     | (simp only[]
        split
        ·exact One.and (One.ret _)
        ·exact One.no)
 case bin op x y =>
  show One fun V=>aL _ F L ρ V;simp only[aL];cases e:ev ρ x with
  | own k off=>exact One.no
  | el a j=>exact One.no
  | v u =>
   cases m:ev ρ y with
   | own k off=>cases u<;>exact One.no
   | el a j=>cases u<;>exact One.no
   | v d =>
    cases u<;>cases d<;>try exact One.no
    ·simp only[];cases JE op
     ·simp only[];rename_i k n w n';cases pY k w
      ·exact One.no
      ·exact One.binI
     ·exact One.shI
    ·exact One.binS
 case eqB ng x y =>
  show One fun V=>aL _ F L ρ V;simp only[aL];cases e:ev ρ x with
  | own k off=>exact One.no
  | el a j=>exact One.no
  | v u =>
   cases m:ev ρ y with
   | own k off=>cases u<;>exact One.no
   | el a j=>cases u<;>exact One.no
   | v d=>cases u<;>cases d<;>first | exact One.no | exact One.ret _
 case eqS ng x y =>
  show One fun V=>aL _ F L ρ V;simp only[aL];cases e:ev ρ x with
  | own k off=>exact One.no
  | el a j=>exact One.no
  | v u =>
   cases m:ev ρ y with
   | own k off=>cases u<;>exact One.no
   | el a j=>cases u<;>exact One.no
   | v d =>
    cases u<;>cases d<;>try exact One.no
    rename_i a1 l1 c1 z l2 c2;cases z<;>first | exact One.no | exact One.ret _
 case eqN ng x =>
  show One fun V=>aL _ F L ρ V;simp only[aL];cases e:ev ρ x with
  | own k off=>exact One.no
  | el a j=>exact One.no
  | v u=>cases u<;>first | exact One.no | exact One.ret _
 case eqA ng ks x y =>
  show One fun V=>aL _ F L ρ V;simp only[aL];cases e:ev ρ x with
  | own k off=>exact One.no
  | el a j=>exact One.no
  | v u =>
   cases m:ev ρ y with
   | own k off=>cases u<;>exact One.no
   | el a j=>cases u<;>exact One.no
   | v d =>
    cases u<;>cases d<;>try exact One.no
    rename_i cs ds;simp only[];cases je ks cs.toList ds.toList true<;>first | exact One.no | exact One.ret _
 case un op x =>
  show One fun V=>aL _ F L ρ V;simp only[aL];cases op<;>cases e:ev ρ x<;>first
   | exact One.no
   | (rename_i u;cases u<;>first | exact One.no | exact One.ret _ | exact One.fit fun _=>One.ret _)
 case conv k x =>
  show One fun V=>aL _ F L ρ V;simp only[aL];cases e:ev ρ x<;>first
   | exact One.no
   | (rename_i u;cases u<;>first | exact One.no | exact One.fit fun _=>One.ret _)
 case mkfn f a b=>exact One.ret _
 case slc sz x lo hi =>
  show One fun V=>aL _ F L ρ V;simp only[aL];cases e:ev ρ x<;>try exact One.no
  rename_i u;cases u<;>try exact One.no
  rename_i a n c;simp only[];cases nG ρ 0 lo<;>cases nG ρ n hi<;>first | exact One.no | exact One.slc fun _ _=>One.ret _
 case fieldA off x =>
  show One fun V=>aL _ F L ρ V;simp only[aL];cases e:ev ρ x with
  | own k off=>exact One.ret _
  | el a j=>exact One.ret _
  | v u =>
   cases u<;>try exact One.no
   rename_i p;cases p<;>first | exact One.no | exact One.ret _
 case idxA sz x i =>
  show One fun V=>aL _ F L ρ V;simp only[aL];cases e:ev ρ x with
  | own k off=>exact One.no
  | el a j=>exact One.no
  | v u =>
   cases m:ev ρ i with
   | own k off=>cases u<;>exact One.no
   | el a j=>cases u<;>exact One.no
   | v d=>cases u<;>cases d<;>first | exact One.no | exact One.idx (One.ret _)
 case extr x i =>
  show One fun V=>aL _ F L ρ V;simp only[aL];cases e:ev ρ x<;>try exact One.no
  rename_i u;cases u<;>try exact One.no
  rename_i s;simp only[];cases s.toList[i]?<;>first | exact One.no | exact One.ret _
 case len x =>
  show One fun V=>aL _ F L ρ V;simp only[aL];cases e:ev ρ x<;>try exact One.no
  rename_i u;cases u<;>first | exact One.no | exact One.ret _
 case mm mx l =>
  show One fun V=>aL _ F L ρ V;simp only[aL];cases e:l.map (ev ρ) with
  | nil=>exact One.no
  | cons u r =>
   cases u<;>try exact One.no
   rename_i u;cases u<;>try exact One.no
   rename_i k a0;simp only[];cases Qv mx a0 r<;>first | exact One.no | exact One.ret _
end
theorem sw {P:Program}{s s':dX}{d:Option Nat}{F:aA}{L:Loc}{ρ:Env}{K:dG}(h:drawn s=some s') (ae:(cR s'||gY s'||eF s'||pK s'||iP s')=true) (z:gY s'=false) (f:evalOp P s' d F L ρ K):evalOp P s d F L ρ (fun F' L' ρ'=>Real F' L'->K F' L' ρ'):=by
 have load:∀{a:Option Addr}{j n:Nat}{KK KK':List Value->Prop},jm F a j n KK->(∀cs,KK cs->KK' cs)->ku F L a j n KK':=by
  rintro a j n KK KK' ⟨cs,h1,p,h3⟩ r;exact⟨cs,h1,by rcases p with p | p;exact .inl p;exact .inr (.inr (.inl p)),r _ h3⟩
 have app:∀{e sz b:Nat}{sv xv:Value}{KK KK':Loc->Value->Prop},pX F L d e sz b sv xv KK->(∀L' v,(Real F L'->KK L' v)->KK' L' v)->Gl F L e sz b sv xv KK':=by
  rintro e sz b sv xv KK KK' ⟨kd,n,xs,m,u,h1,⟨ad,c,p,h3,r⟩,h5,h6,h7,h8⟩ hk;refine⟨kd,n,xs,m,u,?_,⟨ad,c,p,h3,?_⟩,h5,h6,h7,fun v hv=>hk _ _ (h8 v hv)⟩
  ·rcases h1 with h1 | ⟨_,h1⟩ | ⟨_,h1⟩
   ·exact .inl h1
   ·exact .inr (.inl h1)
   ·exact .inr (.inr h1)
  ·rcases r with r | r
   ·exact .inl r
   ·exact .inr (.inl r)
 by_cases y:cR s'=true
 ·have q:=y;have h1:∀V V':SV->Prop,(∀v,V v->V' v)->aL s' F L ρ V->aL s F L ρ V':=by
   intro V V' hV o;have o:=(eY q).mono V V' hV o;cases s<;>simp only[drawn,xo,reduceCtorEq] at h<;>subst h<;>first
    | exact o
    | (simp only[aL] at o ⊢
       split at o
       ·exact o
       ·exact load o fun _ h=>h
       ·exact load o fun _ h=>h
       ·exact o)
    | (simp only[aL] at o ⊢
       split at o
       ·exact load o fun _ h=>h
       ·exact o)
    | (exfalso;revert y;simp[cR];done)
  rw[ck q] at f;have p:=h1 _ (fun v=>Real F L->K F L (put d v ρ)) (fun v hv _=>hv) f;cases s<;>simp only[drawn,xo,reduceCtorEq] at h<;>subst h<;>first
   | exact p
   | (exfalso;revert y;simp[cR];done)
 ·by_cases w:iP s'=true
  ·cases s<;>simp only[drawn,xo,reduceCtorEq] at h<;>subst h<;>first | (cases w;done) | skip
   rename_i n a x;have l:(match ig (aO (val L ρ x)) n,j9 (aO (val L ρ x)),ev ρ a with
    | true,true,.own k off=>match L.get k with
     | some (.box g t cs)=>match jt t ((cs.drop off).take n) n with
      | true=>K F (L.set k (.box g t (bU cs off (aO (val L ρ x))))) (put d (.v undef) ρ)
      | false=>False
     | _=>False
    | _,_,_=>False):=f
   clear f
   split at l
   case h_2=>exact l.elim
   rename_i e1 e2 e3;split at l
   case h_2=>exact l.elim
   rename_i e4;split at l
   case h_2=>exact l.elim
   rename_i e5;simp only[evalOp,e1,e2,e3,e4,e5];exact fun _=>l
  cases s<;>simp only[drawn,xo,reduceCtorEq] at h<;>subst h<;>first
   | (exfalso;revert y ae w;simp[cR,gY,eF,pK,iP];done)
   | (cases z;done)
   | (simp only[evalOp] at f ⊢
      split at f
      ·exact app f fun _ _ h=>h
      ·exact f)
   | (simp only[evalOp] at f ⊢
      split at f
      ·split at f
       ·exact f
       ·exact f
      ·exact f)
   | (simp only[evalOp] at f ⊢
      split at f
      ·exact fun g F' ac hg hr=>f g F' ac hg hr
      ·exact f)
section
variable {P:Program}{F:aA}{L:Loc}{ρ:Env}{K:dG}
def Alike (o:dX) (L L':Loc) (ρ ρ':Env):Prop:=∀x∈bE o,ev ρ' x=ev ρ x/\∀k off,ev ρ x=.own k off->L'.get k=L.get k
theorem Alike.val {o:dX}{L L':Loc}{ρ ρ':Env}(h:Alike o L L' ρ ρ') {x:X}(b:x∈bE o):Fr.val L' ρ' x=Fr.val L ρ x:=by
 obtain⟨h1,c⟩:=h x b;simp only[Fr.val,h1];cases e:ev ρ x with
 | v u=>rfl
 | el a j=>rfl
 | own k off=>simp only[conc,c k off e]
theorem dw {L L':Loc}{ρ ρ':Env}:∀{xs:List X},(∀x∈xs,Fr.val L' ρ' x=Fr.val L ρ x)->bw L' ρ' xs=bw L ρ xs
 | [],_=>rfl
 | x::xs,h=>by simp only[bw,h x (by simp),dw (xs:=xs) (fun y a=>h y (abg _ a))]
theorem cq {L L':Loc}{ρ ρ':Env}:∀{xs:List X},(∀x∈xs,Fr.val L' ρ' x=Fr.val L ρ x)->cellsOf L' ρ' xs=cellsOf L ρ xs
 | [],_=>rfl
 | x::xs,h=>by simp only[cellsOf,h x (by simp),cq (xs:=xs) (fun y a=>h y (abg _ a))]
theorem mU {L L':Loc}{ρ ρ':Env}{sz:Nat}:∀{xs:List X},(∀x∈xs,Fr.val L' ρ' x=Fr.val L ρ x)->ga L' ρ' sz xs=ga L ρ sz xs
 | [],_=>rfl
 | x::xs,h=>by simp only[ga,h x (by simp),mU (xs:=xs) (fun y a=>h y (abg _ a))]
theorem qj {L L':Loc}{ρ ρ':Env}:∀{ps:List (Nat×Nat×X)}{zs:List Value},(∀p∈ps,Fr.val L' ρ' p.2.2=Fr.val L ρ p.2.2)->built L' ρ' zs ps=built L ρ zs ps
 | [],zs,_=>rfl
 | (off,n,x)::ps,zs,h=>by
  have h1:=h (off,n,x) (by simp);simp only at h1;simp only[built,h1];split
  ·exact qj (fun p a=>h p (by simp[a]))
  ·rfl
theorem jm.up {F F':aA}(hF:F.le F') {a:Option Addr}{j n:Nat}{K:List Value->Prop}(h:jm F a j n K):jm F' a j n K:=by
 obtain⟨cs,h1,b,c⟩:=h;exact⟨cs,h1,by rcases b with b | b;exact .inl (b.mono hF);exact .inr b,c⟩
theorem ku.upF {F F':aA}(hF:F.le F') {L:Loc}{a:Option Addr}{j n:Nat}{K:List Value->Prop}(h:ku F L a j n K):ku F' L a j n K:=by
 obtain⟨cs,h1,b,c⟩:=h;exact⟨cs,h1,by rcases b with b | b;exact .inl (b.mono hF);exact .inr b,c⟩
theorem xK {ρ ρ':Env}{d:Int}{x:Option X}(h:∀y∈x.toList,ev ρ' y=ev ρ y):nG ρ' d x=nG ρ d x:=by
 cases x with
 | none=>rfl
 | some y=>simp only[nG,h y (by simp)]
theorem qZ {o:dX}(s:cR o=true) {F F':aA}{L L':Loc}{ρ ρ':Env}(hF:F.le F') (H:Alike o L L' ρ ρ') {V:SV->Prop}(h:aL o F L ρ V) (r:J2 o=false\/L'=L:=by exact .inr rfl):aL o F' L' ρ' V:=by
 cases o<;>first | (cases s;done) | skip
 case build zs ps =>
  have e:=qj (ps:=ps) (zs:=zs) (L:=L) (L':=L') (ρ:=ρ) (ρ':=ρ') (fun p w=>H.val (abq.2 ⟨p,w,rfl⟩));simp only[aL,e] at h ⊢;exact h
 case mkfn f a b =>
  have j:=dw (xs:=a) (L:=L) (L':=L') (ρ:=ρ) (ρ':=ρ') (fun x q=>H.val (aaU.2 (.inl q)));have m:=dw (xs:=b) (L:=L) (L':=L') (ρ:=ρ) (ρ':=ρ') (fun x q=>H.val (aaU.2 (.inr q)));simp only[aL,j,m] at h ⊢;exact h
 case mm mx l =>
  have e:l.map (ev ρ')=l.map (ev ρ):=abV fun x q=>(H x q).1;simp only[aL,e] at h ⊢;exact h
 case slc sz x lo hi =>
  have e:=(H x (by simp[bE])).1;have j:∀d,nG ρ' d lo=nG ρ d lo:=fun d=>xK fun y v=>(H y (by simp only[bE];exact abg _ (aaU.2 (.inl v)))).1;have m:∀d,nG ρ' d hi=nG ρ d hi:=fun d=>xK fun y v=>(H y (by simp only[bE];exact abg _ (aaU.2 (.inr v)))).1;simp only[aL,e,j,m] at h ⊢;exact h
 case loadD ag n x =>
  obtain⟨e,j⟩:=H x (by simp[bE]);simp only[aL,e] at h ⊢;split at h
  ·rename_i k off q;simp only[j k off q];exact h
  ·exact h.up hF
  ·exact h.up hF
  ·exact h
 case gload g =>
  simp only[aL] at h ⊢;obtain⟨u,t,fr,h1,h2⟩:=h;exact⟨u,t,fr,hF _ _ h1,h2⟩
 case loadR ag n x =>
  obtain⟨e,j⟩:=H x (by simp[bE]);rcases r with r | rfl
  ·cases r
  ·simp only[aL,e] at h ⊢;split at h
   ·exact h
   ·exact h.upF hF
   ·exact h.upF hF
   ·exact h
 case mlook str ok z0 x i =>
  obtain⟨e,j⟩:=H x (by simp[bE]);have m:val L' ρ' i=val L ρ i:=H.val (by simp[bE]);rcases r with r | rfl
  ·cases r
  ·simp only[aL,e,m] at h ⊢;exact h
 case loadF ag n x =>
  obtain⟨e,j⟩:=H x (by simp[bE]);simp only[aL,e] at h ⊢;split at h
  ·exact h.up hF
  ·exact h.up hF
  ·exact h
 case loadK key ag n x =>
  obtain⟨e,j⟩:=H x (by simp[bE]);simp only[aL,e] at h ⊢;split at h
  ·rename_i k off q;simp only[j k off q];exact h
  ·exact h
 case pick c a b =>
  have j:=(H c (by simp[bE])).1;have m:=(H a (by simp[bE])).1;have z:=(H b (by simp[bE])).1;simp only[aL,j,m,z] at h ⊢;exact h
 all_goals first
  | (have j:=(H _ (List.mem_cons_self ..)).1
     simp only[aL,j] at h ⊢;exact h)
  | (have j:=(H _ (List.mem_cons_self ..)).1
     have m:=(H _ (abg _ (List.mem_cons_self ..))).1;simp only[aL,j,m] at h ⊢;exact h)
theorem J3 {o:dX}(h:cR o=true) {k off:Nat}(d:aL o F L ρ (fun u=>u=.own k off)):∃x∈bE o,∃f,ev ρ x=.own k f:=by
 cases o<;>first | (cases h;done) | skip
 case mov x=>exact⟨x,by simp[bE],off,d⟩
 case pick c a b =>
  simp only[aL] at d;split at d
  ·exact⟨a,by simp[bE],off,d⟩
  ·exact⟨b,by simp[bE],off,d⟩
  ·exact d.elim
 case nilck x =>
  simp only[aL] at d;split at d
  ·rename_i j f e;injection d with h1 h2
   subst h1;exact⟨x,by simp[bE],f,e⟩
  ·cases d.2
  ·cases d
  ·cases d
  ·split at d
   ·cases d.2
   ·exact d.elim
  ·exact d.elim
 case fieldA o' x =>
  simp only[aL] at d;split at d
  ·rename_i j f e;injection d with h1 h2
   subst h1;exact⟨x,by simp[bE],f,e⟩
  ·cases d
  ·cases d
  ·exact d.elim
 case bin op x y =>
  simp only[aL] at d;split at d
  ·split at d
   ·cases op<;>simp only[shI] at d<;>first | exact d.elim | (obtain⟨_,⟨d⟩⟩:=d;cases d;done) | (obtain⟨_,d⟩:=d;cases d;done)
   ·split at d
    ·cases op<;>simp only[binI] at d<;>first | exact d.elim | (cases d;done) | (obtain⟨d⟩:=d;cases d;done) | (obtain⟨_,⟨d⟩⟩:=d;cases d;done) | (obtain⟨_,d⟩:=d;cases d;done)
    ·exact d.elim
  ·cases op<;>simp only[binS] at d<;>first | exact d.elim | (cases d;done) | (obtain⟨_,d⟩:=d;cases d;done)
  ·exact d.elim
 case loadD ag n x =>
  simp only[aL] at d;split at d
  ·split at d
   ·split at d
    ·cases d
    ·exact d.elim
   ·exact d.elim
  ·obtain⟨cs,_,_,d⟩:=d;cases d
  ·obtain⟨cs,_,_,d⟩:=d;cases d
  ·exact d.elim
 case gload g =>
  simp only[aL] at d;obtain⟨u,t,l,_,d⟩:=d;cases d
 case loadR ag n x =>
  simp only[aL] at d;split at d
  ·split at d
   ·split at d
    ·cases d
    ·exact d.elim
   ·exact d.elim
  ·obtain⟨cs,_,_,d⟩:=d;cases d
  ·obtain⟨cs,_,_,d⟩:=d;cases d
  ·exact d.elim
 case mlook str ok z0 x i =>
  simp only[aL] at d;split at d
  ·obtain⟨k,cs,_,_,⟨⟨i,v,_,d⟩ | ⟨_,d⟩⟩⟩:=d<;>cases d
  ·exact d.elim
 case loadF ag n x =>
  simp only[aL] at d;split at d
  ·obtain⟨cs,_,_,d⟩:=d;cases d
  ·obtain⟨cs,_,_,d⟩:=d;cases d
  ·exact d.elim
 case loadK key ag n x =>
  simp only[aL] at d;split at d
  ·split at d
   ·split at d
    ·split at d
     ·cases d
     ·exact d.elim
    ·exact d.elim
   ·exact d.elim
  ·exact d.elim
 all_goals
  simp only[aL] at d
  repeat' split at d
 all_goals first
  | exact d.elim
  | (cases d;done)
  | (obtain⟨d⟩:=d;cases d;done)
  | (obtain⟨_,_,d⟩:=d;cases d;done)
  | (obtain⟨_,_,_,d⟩:=d;cases d;done)
end
theorem Np {P:Program}{s s':dX}{d:Option Nat}{F:aA}{L:Loc}{ρ:Env}{K:dG}(h:xJ s=some s') (a:evalOp P s' d F L ρ K):evalOp P s d F L ρ (fun F' L' ρ'=>Real F' L'->K F' L' ρ'):=by
 cases s<;>simp only[xJ,xo,reduceCtorEq] at h<;>subst h
 case store=>exact a
 case mupd =>
  simp only[evalOp] at a ⊢;split at a
  ·obtain⟨k,cs,h1,e,c,cs',b,f⟩:=a;exact⟨k,cs,h1,e,c,cs',b,fun _=>f⟩
  ·exact a.elim
 ·simp only[evalOp] at a ⊢;exact a
 ·simp only[evalOp] at a ⊢;split at a
  ·exact a
  ·exact a.elim
 ·simp only[evalOp] at a ⊢;split at a
  ·exact a
  ·exact a.elim
theorem rO {P:Program}{F:aA}{L:Loc}{ρ:Env}{K:dG}{n:Nat}{a x:X}{d:Option Nat}:evalOp P (.storeD n a x) d F L ρ K=(match ig (aO (val L ρ x)) n,j9 (aO (val L ρ x)),ev ρ a with
  | true,true,.own k off=>match L.get k with
   | Option.some (.box g t cs)=>match jt t ((cs.drop off).take n) n with
    | true=>K F (L.set k (.box g t (bU cs off (aO (val L ρ x))))) (put d (.v undef) ρ)
    | false=>False
   | _=>False
  | _,_,_=>False):=rfl
theorem rP {P:Program}{F:aA}{L:Loc}{ρ:Env}{K:dG}{key n:Nat}{a x:X}{d:Option Nat}:evalOp P (.storeK key n a x) d F L ρ K=(match ig (aO (val L ρ x)) n,j9 (aO (val L ρ x)),ev ρ a with
  | true,true,.own k off=>match Nat.beq k key with
   | true=>match L.get k with
    | Option.some (.box g t cs)=>match jt t ((cs.drop off).take n) n with
     | true=>K F (L.set k (.box g t (bU cs off (aO (val L ρ x))))) (put d (.v undef) ρ)
     | false=>False
    | _=>False
   | false=>False
  | _,_,_=>False):=rfl
theorem iQ {P:Program}{F:aA}{L:Loc}{ρ:Env}{K:dG}{o:dX}{d:Option Nat}(m:iP o=true) (b:evalOp P o d F L ρ K) :
  ∃n a x k off g t cs,(o=.storeD n a x\/o=.storeK k n a x)/\ig (aO (val L ρ x)) n=true/\j9 (aO (val L ρ x))=true/\ev ρ a=.own k off/\L.get k=some (.box g t cs)/\jt t ((cs.drop off).take n) n=true /\
   K F (L.set k (.box g t (bU cs off (aO (val L ρ x))))) (put d (.v undef) ρ):=by
 cases o<;>first | (cases m;done) | skip
 case storeD n a x =>
  rw[rO] at b;split at b
  case h_2=>exact b.elim
  rename_i k off h e l;split at b
  case h_2=>exact b.elim
  rename_i g t cs c;split at b
  case h_2=>exact b.elim
  rename_i j;exact⟨n,a,x,k,off,g,t,cs,.inl rfl,h,e,l,c,j,b⟩
 case storeK key n a x =>
  rw[rP] at b;split at b
  case h_2=>exact b.elim
  rename_i k off h e l;split at b
  case h_2=>exact b.elim
  rename_i f;have f:=aaQ f;subst f;split at b
  case h_2=>exact b.elim
  rename_i g t cs c;split at b
  case h_2=>exact b.elim
  rename_i j;exact⟨n,a,x,k,off,g,t,cs,.inr rfl,h,e,l,c,j,b⟩
theorem iC {P:Program}{F:aA}{L:Loc}{ρ:Env}{K:dG}{o:dX}{d:Option Nat}{n:Nat}{a x:X}{k off g:Nat}{t:TypeId}{cs:List Value}(l:o=.storeD n a x\/o=.storeK k n a x) (f:ig (aO (val L ρ x)) n=true) (c:j9 (aO (val L ρ x))=true) (j:ev ρ a=.own k off) (b:L.get k=some (.box g t cs)) (h:jt t ((cs.drop off).take n) n=true)
  (e:K F (L.set k (.box g t (bU cs off (aO (val L ρ x))))) (put d (.v undef) ρ)):evalOp P o d F L ρ K:=by
 rcases l with rfl | rfl
 ·rw[rO];simp only[f,c,j,b,h];exact e
 ·rw[rP];have m:Nat.beq k k=true:=by simp
  simp only[f,c,j,m,b,h];exact e
theorem AG {x:X}{n:Int}{ρ:Env}(h:BV x=some n):∃k,ev ρ x=.v (.int k n):=by
 unfold BV at h;split at h
 ·injection h with h;subst h;exact⟨_,rfl⟩
 ·cases h
theorem Nq {L:Loc}{ρ:Env}{x:X}{k:IntKind}{m:Int}(h:val L ρ x=.int k m):ev ρ x=.v (.int k m):=by
 unfold val at h;cases e:ev ρ x with
 | v u=>rw[e] at h;exact vv SV.v h
 | own j off =>
  rw[e] at h;simp only[conc] at h;split at h<;>cases h
 | el a j =>
  rw[e] at h;cases a<;>cases h
theorem Nr {b:Nat}{n m:Int}(h:RJ b n m=true):0<=n/\n=m/\n.toNat*b<=140737488355328/\n.toNat<=maxLen:=by
 simp only[RJ,v5] at h;obtain⟨⟨h1,c⟩,a⟩:=h;split at a
 ·have a:=aaQ a;subst a;exact⟨by simp,rfl,aa9 h1,aa9 c⟩
 ·cases a
theorem Ns {P:Program}{bx:List Nat}{s s':dX}{d:Option Nat}{F:aA}{L:Loc}{ρ:Env}{K:dG}(h:oN bx s=some s') (l:(cR s'||gY s'||eF s'||pK s'||iP s')=true) (c:gY s'=false) (b:evalOp P s' d F L ρ K):evalOp P s d F L ρ (fun F' L' ρ'=>Real F' L'->K F' L' ρ'):=by
 unfold oN at h;split at h
 ·split at h
  ·rename_i n m p f;split at h
   ·rename_i u;injection h with h
    subst h;obtain⟨k1,p⟩:=AG (ρ:=ρ) p;obtain⟨k2,f⟩:=AG (ρ:=ρ) f;obtain⟨m1,m2,m3,m4⟩:=Nr u;subst m2;simp only[evalOp,p,f] at b ⊢;split at b
    ·rename_i k;split at b
     ·rename_i q _ _;simp only[q];exact⟨m1,abb _,m3,m4,b⟩
     ·exact b.elim
    ·exact b.elim
   ·cases h
  ·split at h
   ·rename_i i j _ _;split at h
    ·rename_i o;have o:=aaQ o;subst o;injection h with h
     subst h;simp only[evalOp] at b ⊢;split at b
     ·rename_i k;split at b
      ·rename_i q _ u;obtain⟨ki,m,p,m1,m2,m3,m4⟩:=Dg u;have f:=Nq p;simp only[f,q];rw[m2] at b;exact⟨m1,abb _,m3,m4,b⟩
      ·exact b.elim
     ·exact b.elim
    ·cases h
   ·cases h
 ·rename_i e sz;injection h with h
  subst h;simp only[evalOp] at b ⊢;split at b
  ·rename_i k;split at b
   ·rename_i q _ _;simp only[ga,q];exact b
   ·exact b.elim
  ·exact b.elim
 ·rename_i a n i;split at h
  ·injection h with h
   subst h;refine sw (s:=.load a n (.t i)) (s':=.loadD a n (.t i)) rfl rfl rfl ?_;simp only[evalOp,aL] at b ⊢;split at b
   ·rename_i k off e;simp only[e];split at b
    ·exact b
    ·exact b.elim
   ·exact b.elim
  ·injection h with h
   subst h;exact sw (s:=.load a n (.t i)) rfl l c b
 ·rename_i n i x;split at h
  ·injection h with h
   subst h;obtain⟨n',a',z,k,off,g,t,cs,r,p,f,y,v,w,b⟩:=iQ rfl b;rcases r with r | r
   ·cases r
   ·injection r with h1 h2 h3 h4
    subst h1 h2 h3 h4;exact sw (s:=.store n (.t i) x) (s':=.storeD n (.t i) x) rfl rfl rfl (iC (.inl rfl) p f y v w b)
  ·injection h with h
   subst h;exact sw (s:=.store n (.t i) x) rfl l c b
 ·exact sw h l c b
def Loc.sameAs (L L':Loc):Prop:=∀j,L'.get j=L.get j
theorem xL {P:Program}{f:Nat}{args:List Value}{F:aA}{L:Loc}{d:Option Nat}{KK:aA->Loc->Value->Prop}(h:dO P f args F L d KK):dY P f args F L (fun F' L' v=>∃L2,L'.sameAs L2/\(Real F' L2->KK F' L2 v)):=by
 cases h with
 | frz R h1 r =>
  refine⟨[],[],[],R,rfl,List.nodup_nil,List.nodup_nil,fun _ h=>(by cases h),h1,fun v F' Lo a m=>?_⟩;obtain⟨rfl,y⟩:=r v F' Lo a m;exact⟨rfl,fun _ _ _ _ h=>(by cases h),_,fun _=>rfl,y⟩
 | own R k h1 hd q r =>
  refine⟨[],[k],[],R,rfl,List.nodup_nil,by simp,fun j p=>.inr (by simp at p;rw[p];exact q),h1,fun v F' Lo a m=>?_⟩;obtain⟨o,rfl,y⟩:=r v F' Lo a m;exact⟨rfl,fun _ _ _ _ h=>(by cases h),_,fun _=>rfl,y⟩
 | row R u rv t sz n xs h1 q r =>
  refine⟨[u],[u],[.row rv t sz n xs],fun F Lo v=>Lo=[.row (.slice none 0 0) t sz 0 []]/\R F [] v,?_,by simp,by simp,fun j p=>.inl p,⟨h1.ent,fun F G L v a hr=>⟨hr.1,h1.mono _ _ _ _ a hr.2⟩,fun w hs=>(h1.run w hs).mono ?_⟩,fun v F' Lo a m=>?_⟩
  ·simp only[Loc.sub,q]
  ·rintro e w' ⟨v,F',Lo,rfl,x,l,m⟩;obtain⟨rfl,_⟩:=r v F' Lo l.le m;have hb:(Own.row (.slice none 0 0) t sz 0 []).blk=none:=rfl;have z:∀j o,Loc.get (inp [.row (.slice none 0 0) t sz 0 []]) j=some o->o=.row (.slice none 0 0) t sz 0 []:=by
    intro j o e;rw[aH] at e;split at e
    ·cases p:j-1000 with
     | zero=>rw[p] at e;simpa using e.symm
     | succ i=>rw[p] at e;simp at e
    ·cases e
   have aa:∀b,¬(inp [.row (.slice none 0 0) t sz 0 []]).owns b:=by
    rintro b ⟨j,o,e,c⟩;rw[z j o e,hb] at c;cases c
   refine⟨v,F',_,rfl,⟨x.frz,fun j o e=>?_,fun j o g e c=>?_,fun j j' o o' g e e' c=>?_,x.glob⟩,⟨l.le,l.os,l.tape,l.output,l.size,l.same,l.frz,fun b hb=>fL hb (aa b)⟩,rfl,m⟩
   ·rw[z j o e];exact World.ownsRow_nil w' 0 t sz
   ·rw[z j o e,hb] at c;cases c
   ·rw[z j o e,hb] at c;cases c
  ·obtain⟨rfl,m⟩:=m;obtain⟨_,y⟩:=r v F' [] a m;refine⟨rfl,fun k g t' cs s e=>?_,L.set u (.row (.slice none 0 0) t sz 0 []),fun j=>?_,y⟩
   ·rw[abH.1 s,q] at e;cases e
   ·simp only[Loc.aae,Loc.puts,Loc.aac,Loc.aag];split<;>rfl
 | lent R u rv t sz n xs h1 q r =>
  refine⟨[u],[u],[.row rv t sz n xs],_,by simp only[Loc.sub,q],by simp,by simp,fun j p=>.inl p,h1,fun v F' Lo a m=>?_⟩;obtain⟨rfl,m⟩:=m;refine⟨rfl,fun k g t' cs s e=>?_,L,fun j=>?_,r v F' a m⟩
  ·rw[abH.1 s,q] at e;cases e
  ·simp only[Loc.aae,Loc.puts,Loc.aac,Loc.aag];split
   ·rename_i p;rw[p,q]
   ·rfl
theorem Nt {P:Program}{bx:List Nat}{s s':dX}{d:Option Nat}{F:aA}{L:Loc}{ρ:Env}{K:dG}(h:oN bx s=some s') (a:gY s'=true) (b:evalOp P s' d F L ρ K):evalOp P s d F L ρ (fun F' L' ρ'=>∃L2,L'.sameAs L2/\(Real F' L2->K F' L2 ρ')):=by
 unfold oN at h;split at h
 ·split at h
  ·split at h
   ·injection h with h;subst h;cases a
   ·cases h
  ·split at h
   ·split at h
    ·injection h with h;subst h;cases a
    ·cases h
   ·cases h
 ·injection h with h;subst h;cases a
 ·split at h
  ·injection h with h;subst h;cases a
  ·injection h with h;subst h;cases a
 ·split at h
  ·injection h with h;subst h;cases a
  ·injection h with h;subst h;cases a
 ·cases s<;>simp only[drawn,xo,reduceCtorEq] at h<;>subst h<;>first | (cases a;done) | skip
  ·simp only[evalOp] at b ⊢;exact xL b
  ·simp only[evalOp] at b ⊢;split at b
   ·exact xL b
   ·exact b.elim
theorem xM {fl bx:List Nat}{bk:List (Nat×Nat)}{s s':dX}(h:uS fl bk bx s=some s'):oN bx s=some s'\/(∃a n i,s=.load a n (.t i)/\s'=.loadF a n (.t i))\/(∃a n i key,s=.load a n (.t i)/\s'=.loadK key a n (.t i))\/(∃a n i,s=.load a n (.t i)/\s'=.loadR a n (.t i)):=by
 unfold uS at h;split at h
 ·rename_i a n i;split at h
  ·injection h with h
   exact .inr (.inl ⟨a,n,i,rfl,h.symm⟩)
  ·split at h
   ·rename_i key _;split at h
    ·injection h with h
     exact .inr (.inr (.inr ⟨a,n,i,rfl,h.symm⟩))
    ·injection h with h
     exact .inr (.inr (.inl ⟨a,n,i,key,rfl,h.symm⟩))
   ·exact .inl h
 ·exact .inl h
theorem Ic {o:Bool}{n:Nat}{x:X}{F:aA}{L:Loc}{ρ:Env}{V V':SV->Prop}(h:aL (.load o n x) F L ρ V) (a:∀v,V v->V' v):aL (.load o n x) F L ρ V':=by
 have:=One.mono (T:=fun V=>aL (.loadR o n x) F L ρ V) (eY rfl) V V' a h;exact this
theorem Nu {P:Program}{fl bx:List Nat}{bk:List (Nat×Nat)}{s s':dX}{d:Option Nat}{F:aA}{L:Loc}{ρ:Env}{K:dG}(h:uS fl bk bx s=some s') (f:(cR s'||gY s'||eF s'||pK s'||iP s')=true) (c:gY s'=false) (b:evalOp P s' d F L ρ K):evalOp P s d F L ρ (fun F' L' ρ'=>Real F' L'->K F' L' ρ'):=by
 rcases xM h with h | ⟨a,n,i,rfl,rfl⟩ | ⟨a,n,i,key,rfl,rfl⟩ | ⟨a,n,i,rfl,rfl⟩
 rotate_left 3
 ·have b:aL (.load a n (.t i)) F L ρ (fun v=>K F L (put d v ρ)):=b;exact Ic b fun v h _=>h
 ·exact Ns h f c b
 ·refine sw (s:=.load a n (.t i)) (s':=.loadD a n (.t i)) rfl rfl rfl ?_;simp only[evalOp,aL] at b ⊢;split at b
  ·rename_i e;simp only[e];exact b
  ·rename_i e;simp only[e];exact b
  ·exact b.elim
 ·refine sw (s:=.load a n (.t i)) (s':=.loadD a n (.t i)) rfl rfl rfl ?_;simp only[evalOp,aL] at b ⊢;split at b
  ·rename_i k off e;simp only[e];split at b
   ·exact b
   ·exact b.elim
  ·exact b.elim
theorem J4 {P:Program}{fl bx:List Nat}{bk:List (Nat×Nat)}{s s':dX}{d:Option Nat}{F:aA}{L:Loc}{ρ:Env}{K:dG}(h:uS fl bk bx s=some s') (b:gY s'=true) (c:evalOp P s' d F L ρ K):evalOp P s d F L ρ (fun F' L' ρ'=>∃L2,L'.sameAs L2/\(Real F' L2->K F' L2 ρ')):=by
 rcases xM h with h | ⟨a,n,i,rfl,rfl⟩ | ⟨a,n,i,key,rfl,rfl⟩ | ⟨a,n,i,rfl,rfl⟩
 ·exact Nt h b c
 ·cases b
 ·cases b
 ·cases b
end Go.Fr
