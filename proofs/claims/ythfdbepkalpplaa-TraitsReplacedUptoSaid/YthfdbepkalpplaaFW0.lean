/- Part of the proofs of the statements of this seat. -/
import Derived.Orders
import Derived.Below
import Derived.Laws.OwnMore
import Derived.Maps.AppendAt
import Derived.WalkKit
import Derived.KernelRfl
import Derived.Lib.AppendStr
import Derived.Laws.BytesString
import Derived.Laws.StructEq
import Derived.Lib.AppendZeros
import Derived.ArgAppend
import Derived.Laws.CopyRow
import Derived.Laws.IdiomCopy
import Derived.Carry
import Derived.Maps.RangeRun
set_option maxRecDepth 10000
set_option linter.unusedVariables false
set_option linter.unusedSimpArgs false
namespace Go.Fr
open Go Go.RowKit
abbrev eu:=@if_pos
abbrev fo:=@if_neg
abbrev o5:=@absurd
abbrev vv:=@congrArg
abbrev vz:=@List.length_map
abbrev xo:=@Bool.and_eq_true
abbrev aa1:=@Option.some.injEq
abbrev aa2:=@decide_eq_true
abbrev aa3:=@decide_eq_false
abbrev aa4:=@List.getElem?_eq_getElem
abbrev aa5:=@Nat.eq_of_beq_eq_true
abbrev aa6:=@List.getElem?_eq_some_iff
abbrev aa7:=@Bool.true_and
abbrev aa8:=@List.mem_of_getElem?
abbrev aa9:=@List.mem_append
abbrev abb:=@Bool.false_and
abbrev abd:=@List.mem_cons
abbrev abe:=@List.map_cons
abbrev abf:=@decide_eq_true_eq
abbrev abg:=@List.all_eq_true
abbrev abh:=@Nat.le_refl
abbrev abj:=@List.cons_append
abbrev abk:=@List.getElem?_map
abbrev abl:=@Bool.false_eq_true
abbrev abm:=@List.getElem?_cons_zero
abbrev abn:=@Int.le_refl
abbrev abo:=@List.length_cons
abbrev abp:=@Array.getD_eq_getD_getElem?
abbrev abq:=@Nat.le_of_ble_eq_true
abbrev abr:=@Nat.zero_le
abbrev abt:=@Bool.false_ne_true
abbrev abu:=@List.all_cons
abbrev abv:=@List.getElem?_cons_succ
abbrev abw:=@List.mem_iff_getElem?
abbrev abx:=@List.mem_map
abbrev aby:=@Bool.and_false
abbrev abz:=@List.mem_cons_of_mem
abbrev abA:=@List.take_of_length_le
abbrev abB:=@if_true
abbrev abC:=@List.map_append
abbrev abD:=@List.length_replicate
abbrev abE:=@List.getElem?_eq_none
abbrev abF:=@List.nil_append
abbrev abG:=@List.append_nil
abbrev abH:=@Bool.or_eq_true
abbrev abI:=@Option.map_some
abbrev abJ:=@of_decide_eq_true
abbrev abK:=@Option.some.inj
abbrev abL:=@Nat.not_lt_zero
abbrev abM:=@List.length_take
abbrev abN:=@Nat.le_trans
abbrev abO:=@List.eq_nil_of_length_eq_zero
abbrev abP:=@List.length_append
abbrev abQ:=@List.any_cons
abbrev abR:=@List.mem_singleton
abbrev abS:=@List.getElem?_drop
abbrev abT:=@List.getElem?_eq_none_iff
abbrev abU:=@List.length_set
abbrev abV:=@List.getElem?_append_left
abbrev abW:=@List.getElem?_append_right
abbrev abX:=@List.map_nil
abbrev abY:=@List.getElem?_take
abbrev abZ:=@List.append_assoc
abbrev ab0:=@List.any_eq_true
abbrev ab1:=@List.length_nil
abbrev ab2:=@List.mem_replicate
abbrev ab3:=@of_decide_eq_false
abbrev ab4:=@List.map_map
abbrev ab5:=@List.ext_getElem?
abbrev ab6:=@if_false
abbrev ab7:=@List.map_congr_left
abbrev ab8:=@List.getElem?_set_ne
abbrev ab9:=@List.map_replicate
abbrev acd:=@Nat.lt_succ_self
abbrev ace:=@List.getElem?_set_self
abbrev acf:=@List.any_eq_false
abbrev acg:=@decide_eq_false_iff_not
abbrev ach:=@Bool.not_false
abbrev aci:=@List.getElem?_replicate
abbrev acj:=@Bool.not_eq_true
abbrev ack:=@List.replicate_succ
abbrev acn:=@Bool.and_true
abbrev acp:=@List.mem_or_eq_of_mem_set
abbrev aA:=Nat->Option Obj
def aA.le (F G:aA):Prop:=∀b o,F b=some o->G b=some o
theorem aA.le_refl (F:aA):F.le F:=fun _ _ h=>h
theorem aA.le_trans {F G H:aA}(h:F.le G) (k:G.le H):F.le H:=fun b o e=>k b o (h b o e)
def gq:Nat:=2 ^ 64
def J3:Nat->Value
 | 0=>.slice none 0 0
 | m+1=>.slice (some ⟨m / (gq*gq),0,none⟩) (m / gq % gq) (m % gq)
def iq (k:Nat) (F:aA) (v:Value):Prop:=(k=0/\v=.nilIface)\/∃m,k=m+1/\v=J3 m
theorem iq.mono {k:Nat}{F G:aA}{v:Value}(h:F.le G) (r:iq k F v):iq k G v:=r
theorem iq.one {k:Nat}{F:aA}{v:Value}(r:iq k F v):v.oneCell'=true:=by
 rcases r with⟨_,rfl⟩ | ⟨m,_,rfl⟩
 ·rfl
 ·cases m<;>rfl
theorem NX {F:aA}:iq 0 F .nilIface:=.inl ⟨rfl,rfl⟩
def sP:Nat->Option Nat
 | 0=>none
 | 1=>some 0
 | m+2=>some (m / gq % gq)
theorem NY {F:aA}{k n:Nat}{v:Value}(h:iq k F v) (e:sP k=some n):∃a c,v=.slice a n c:=by
 rcases h with⟨rfl,_⟩ | ⟨m,rfl,rfl⟩
 ·cases e
 ·cases m with
  | zero=>injection e with e;subst e;exact⟨none,0,rfl⟩
  | succ m=>injection e with e;subst e;exact⟨_,_,rfl⟩
def tU (F:aA):Prop:=True
theorem tU.mono {F G:aA}(h:F.le G) (g:tU F):tU G:=g
def xE (g:Nat):Option Nat:=none
theorem J4 {F:aA}{g k:Nat}(h:tU F) (e:xE g=some k):∃v t fr,F g=some (.cells #[v] t fr)/\iq k F v:=by cases e
def NZ (k:Nat) (n:Int):Option (Int×Bool):=none
def FD (k:Nat):Option Bool:=match k with | 0=>some true | _=>none
theorem J5 {F:aA}{k:Nat}{v:Value}{b:Bool}(h:iq k F v) (e:FD k=some b):(b=true->v=.nilIface)/\(b=false->∃t u,v=.iface t u):=by
 unfold FD at e;split at e
 case h_2=>cases e
 injection e with e;subst e
 refine⟨fun _=>?_,fun e=>by cases e⟩;rcases h with h | ⟨m,h,_⟩
 ·exact h.2
 ·cases h
def N0:Bool:=false
def SE:List (TypeId×String):=[]
inductive SV where
 | v (x:Value)
 | own (k off:Nat)
 | el (a:Option Addr) (j:Nat)
 deriving Inhabited
inductive Own where
 | box (g:Nat) (t:TypeId) (cs:List Value)
 | row (v:Value) (t:TypeId) (sz n:Nat) (xs:List Value)
def Own.blk:Own->Option Nat
 | .box g _ _=>some g
 | .row v _ _ _ _=>v.ownBlock
abbrev Loc:=List (Nat×Own)
def Loc.get:Loc->Nat->Option Own
 | [],_=>none
 | (j,o)::l,k=>match Nat.beq j k with | true=>some o | false=>Loc.get l k
def Loc.set:Loc->Nat->Own->Loc
 | [],k,o=>[(k,o)]
 | (j,p)::l,k,o=>match Nat.beq j k with
  | true=>(k,o)::l
  | false=>match Nat.ble j k with
   | true=>(j,p)::Loc.set l k o
   | false=>(k,o)::(j,p)::l
def Loc.del:Loc->Nat->Loc
 | [],_=>[]
 | (j,o)::l,k=>match Nat.beq j k with | true=>Loc.del l k | false=>(j,o)::Loc.del l k
abbrev Env:=Nat->SV
def put (d:Option Nat) (v:SV) (ρ:Env):Env :=
 match d with
 | some d=>fun j=>match Nat.beq j d with | true=>v | false=>ρ j
 | none=>ρ
def conc (L:Loc):SV->Value
 | .v x=>x
 | .own k off=>match L.get k with | some (.box g _ _)=>.pointer (some ⟨g,off,none⟩) | _=>undef
 | .el a j=>match a with | some ad=>.pointer (some (ad.add j)) | none=>undef
def gB:Value->Nat->MapEntry
 | .agg ⟨[k,v]⟩,i=>{key:=k,val:=v,born:=i}
 | v,i=>{key:=v,val:=v,born:=i}
def iZ:Value->Nat
 | .int _ n=>n.toNat
 | _=>0
def bh:List Value->Nat->List MapEntry
 | [],_=>[]
 | v::l,i=>gB v i::bh l (i+1)
def iF:List Value->Obj
 | .tuple ⟨[.map (some m),.int .i64 n]⟩::a=>.mapIter (some m) n.toNat (a.map iZ).toArray n.toNat
 | es=>.map (bh es 0).toArray es.length
def nP:TypeId->List Value->Obj
 | 0,cs=>iF cs
 | t+1,cs=>.cells cs.toArray (t+1) (0,0)
theorem jG {t:TypeId}(h:t≠0) (cs:List Value):nP t cs=.cells cs.toArray t (0,0):=by
 cases t with
 | zero=>exact o5 rfl h
 | succ t=>rfl
def Own.ok (w:World):Own->Prop
 | .box g t cs=>w.heap[g]?=some (nP t cs)
 | .row v t sz n xs=>w.ownsRow 0 t sz v n xs
structure St (F:aA) (L:Loc) (w:World):Prop where
 frz:∀b o,F b=some o->w.heap[b]?=some o
 own:∀k o,L.get k=some o->o.ok w
 off:∀k o g,L.get k=some o->o.blk=some g->F g=none
 sep:∀k k' o o' g,L.get k=some o->L.get k'=some o'->o.blk=some g->o'.blk=some g->k=k'
 glob:tU F
def Loc.owns (L:Loc) (b:Nat):Prop:=∃k o,L.get k=some o/\o.blk=some b
structure Step (F:aA) (L:Loc) (w:World) (F':aA) (L':Loc) (w':World):Prop where
 le:F.le F'
 os:w'.os=w.os
 tape:w'.tape=w.tape
 output:w'.output=w.output
 size:w.heap.size<=w'.heap.size
 same:∀b,b<w.heap.size->¬L.owns b->w'.heap[b]?=w.heap[b]?
 frz:∀b,F' b≠none->F b≠none\/L.owns b\/w.heap.size<=b
 own:∀b,L'.owns b->L.owns b\/w.heap.size<=b
def dY (F:aA) (a:Option Addr) (j:Nat) (cs:List Value):Prop :=
 ∃c b t fr,a=some c/\F c.block=some (.cells b t fr)/\c.spot=none/\∀(i:Nat) (v:Value),cs[i]?=some v->b[c.off+j+i]?=some v
def tV:Nat->List Own->Loc
 | _,[]=>[]
 | k,o::l=>(k,o)::tV (k+1) l
def inp (l:List Own):Loc:=tV 1000 l
structure CallsA (P:Program) (f:FuncId) (args:Array Value) (F:aA) (Lin:List Own) (R:aA->List Own->Value->Prop):Prop where
 ent:∃fn,P.funcs[f]?=some fn/\fn.body.isSome=true/\(fn.name == "runtime.NumGoroutine")=false
 mono:∀F G L v,F.le G->R F L v->R G L v
 run:∀w,St F (inp Lin) w->Calls P f args w fun e w'=>∃v F' Lo,e=.returned v/\St F' (inp Lo) w'/\Step F (inp Lin) w F' (inp Lo) w'/\R F' Lo v
def sQ (v:Value) (b:List PanicEntry):Prop:=∃a,b={v,recovered:=false}::a/\∀e∈a,e.goexit=false
theorem sQ.one (v:Value):sQ v [{v,recovered:=false}]:=⟨[],rfl,fun e h=>by cases h⟩
structure o9 (P:Program) (f:FuncId) (args:Array Value) (F:aA) (Lin:List Own) (R:aA->List Own->Value->Prop) (Pp:Value->Prop):Prop where
 ent:∃fn,P.funcs[f]?=some fn/\fn.body.isSome=true/\(fn.name == "runtime.NumGoroutine")=false
 mono:∀F G L v,F.le G->R F L v->R G L v
 run:∀w,St F (inp Lin) w->Calls P f args w fun e w'=>(∃v F' Lo,e=.returned v/\St F' (inp Lo) w'/\Step F (inp Lin) w F' (inp Lo) w'/\R F' Lo v) \/
  ∃v ch F' Lo,e=.panicked ch/\sQ v ch/\St F' (inp Lo) w'/\Step F (inp Lin) w F' (inp Lo) w'/\Lo.length=Lin.length/\(∀(i:Nat) g t cs,Lin[i]?=some (.box g t cs)->∃cs',Lo[i]?=some (.box g t cs'))/\Pp v
theorem CallsA.toX {P:Program}{f:FuncId}{args:Array Value}{F:aA}{Lin:List Own}{R:aA->List Own->Value->Prop}{Pp:Value->Prop}(h:CallsA P f args F Lin R):o9 P f args F Lin R Pp :=
 ⟨h.ent,h.mono,fun w a=>(h.run w a).mono fun _ _ k=>.inl k⟩
structure xG (P:Program) (f:FuncId) (args:Array Value) (F:aA) (Lin:List Own) (R:aA->List Own->Value->Prop) (Pp:aA->List Own->Value->Prop):Prop where
 ent:∃fn,P.funcs[f]?=some fn/\fn.body.isSome=true/\(fn.name == "runtime.NumGoroutine")=false
 mono:∀F G L v,F.le G->R F L v->R G L v
 run:∀w,St F (inp Lin) w->Calls P f args w fun e w'=>(∃v F' Lo,e=.returned v/\St F' (inp Lo) w'/\Step F (inp Lin) w F' (inp Lo) w'/\R F' Lo v) \/
  ∃v ch F' Lo,e=.panicked ch/\sQ v ch/\St F' (inp Lo) w'/\Step F (inp Lin) w F' (inp Lo) w'/\Lo.length=Lin.length/\(∀(i:Nat) g t cs,Lin[i]?=some (.box g t cs)->∃cs',Lo[i]?=some (.box g t cs'))/\Pp F' Lo v
theorem o9.toS {P:Program}{f:FuncId}{args:Array Value}{F:aA}{Lin:List Own}{R:aA->List Own->Value->Prop}{Pp:Value->Prop}(h:o9 P f args F Lin R Pp):xG P f args F Lin R (fun _ _=>Pp):=⟨h.ent,h.mono,h.run⟩
inductive X where
 | t (n:Nat)
 | c (v:Value)
 | fn (f:Nat)
 | mt (nm:String) (n:Nat)
 deriving Inhabited
def UY (a:String):SV->SV
 | .v x=>.v (.func (.method a) #[x] #[])
 | .own _ _=>.v undef
 | .el _ _=>.v undef
def ev (ρ:Env):X->SV
 | .t n=>ρ n
 | .c v=>.v v
 | .fn f=>.v (.func (.func f) #[] #[])
 | .mt a n=>UY a (ρ n)
def tW (P:Program) (t:TypeId) (b:String):Option FuncId :=
 match P.info? t with
 | some i=>match i.methods.find? (·.name == b) with
  | some m=>match m.path.toList,m.func with
   | [],some (f,a)=>match P.underlying t,a with
    | some (.pointer _),true=>some f
    | some (.pointer _),false=>none
    | some _,false=>some f
    | _,_=>none
   | _,_=>none
  | none=>none
 | none=>none
def UZ:List (TypeId×String)->TypeId->String->Bool
 | [],_,_=>false
 | (t,c)::l,b,a=>match Nat.beq t b,decide (c=a) with | true,true=>true | _,_=>UZ l b a
def Ru (P:Program):Bool:=SE.all fun x=>(tW P x.1 x.2).isSome
def sS (P:Program):SV->Option (Nat×List Value×List Value)
 | .v (.func (.func f) a b)=>some (f,a.toList,b.toList)
 | .v (.func (.method c) a b)=>match a.toList with
  | [.iface t u]=>match tW P t c with
   | some f=>some (f,[u],[])
   | none=>none
  | _=>none
 | _=>none
def AY (P:Program) (f:SV) (args:List Value):Option (Nat×List Value) :=
 match f,args with
 | .v (.func (.methodOf t c) ⟨[]⟩ _),.iface b u::a=>match P.underlying t with
  | some (.interface _)=>match tW P b c with
   | some f=>some (f,u::a)
   | none=>none
  | _=>none
 | _,_=>none
def val (L:Loc) (ρ:Env) (x:X):Value:=conc L (ev ρ x)
inductive eI where
 | mov (x:X)
 | pick (c a b:X)
 | box (t:TypeId) (x:X)
 | boxF (t:TypeId) (x:X)
 | alloc (t:TypeId) (zs:List Value)
 | mkF (e:TypeId) (n sz:Nat) (xs:List X)
 | mkR (e:TypeId) (n sz:Nat) (xs:List X)
 | build (zs:List Value) (ps:List (Nat×Nat×X))
 | load (agg:Bool) (n:Nat) (x:X)
 | loadD (agg:Bool) (n:Nat) (x:X)
 | store (n:Nat) (a x:X)
 | nilck (x:X)
 | bin (op:BinOp) (x y:X)
 | eqB (neg:Bool) (x y:X)
 | eqS (neg:Bool) (x y:X)
 | eqN (neg:Bool) (x:X)
 | tas (t:TypeId) (z:Value) (x:X)
 | eqA (neg:Bool) (ks:List Bool) (x y:X)
 | un (op:UnOp) (x:X)
 | conv (k:IntKind) (x:X)
 | mkfn (f:Nat) (first cap:List X)
 | makeS (e:TypeId) (sz bytes:Nat) (zs:List Value) (l c:X)
 | slc (sz:Nat) (x:X) (lo hi:Option X)
 | fieldA (off:Nat) (x:X)
 | idxA (sz:Nat) (x i:X)
 | extr (x:X) (i:Nat)
 | call (f:Nat) (args:List X)
 | callV (f:X) (args:List X)
 | callD (f:Nat) (args:List X)
 | boxD (t:TypeId) (x:X)
 | allocD (t:TypeId) (zs:List Value)
 | mkFD (e:TypeId) (n sz:Nat) (xs:List X)
 | callVD (f:X) (args:List X)
 | callO (f:Nat) (args:List X)
 | callVO (f:X) (args:List X)
 | len (x:X)
 | mm (mx:Bool) (args:List X)
 | app (e:TypeId) (sz bytes:Nat) (zs:List Value) (s x:X)
 | appD (e:TypeId) (sz bytes:Nat) (zs:List Value) (s x:X)
 | storeD (n:Nat) (a x:X)
 | appX (e:TypeId) (sz bytes:Nat) (zs:List Value) (s x:X)
 | mkif (t:TypeId) (x:X)
 | makeSD (e sz n:Nat) (zs:List Value)
 | makeSV (e sz b:Nat) (zs:List Value) (x:X)
 | loadK (key:Nat) (agg:Bool) (n:Nat) (x:X)
 | storeK (key n:Nat) (a x:X)
 | storeX (n:Nat) (a x:X)
 | pan (x:X)
 | gload (g:Nat)
 | loadF (agg:Bool) (n:Nat) (x:X)
 | loadR (agg:Bool) (n:Nat) (x:X)
 | mkmap
 | mlook (str ok:Bool) (z:Value) (x i:X)
 | mupd (str:Bool) (x i v:X)
 | mrange (x:X)
 | mnext (x:X)
 | mentry (x:X)
 | dead
 deriving Inhabited
structure aao where
 dst:Option Nat
 op:eI
 guard:Option (Nat×Bool)
 deriving Inhabited
abbrev dQ:=aA->Loc->Env->Prop
def bY (cs:List Value) (off:Nat) (a:List Value):List Value:=cs.take off++a++cs.drop (off+a.length)
structure Fit (k:IntKind) (n:Int) (K:Int->Prop):Prop where
 out:K (k.wrap n)
structure SG (n:Int) (K:Prop):Prop where
 ne:n≠0
 out:K
structure Ao (i:Int) (n:Int) (K:Prop):Prop where
 lo:0<=i
 hi:i<n
 out:K
structure J6 (a:Option Addr) (i:Int) (n:Int) (K:Prop):Prop where
 ne:a≠none
 lo:0<=i
 hi:i<n
 out:K
structure kI (F:aA) (L:Loc) (a:Option Addr) (j n:Nat) (K:List Value->Prop):Prop where
 out:∃cs,cs.length=n/\(dY F a j cs\/(∃k v t sz m xs ad c,L.get k=some (.row v t sz m xs)/\a=some ad/\v=.slice (some ad) m c/\∀(i:Nat) (u:Value),cs[i]?=some u->xs[j+i]?=some u)\/n=0\/∃k g t bs o,L.get k=some (.box g t bs)/\t≠0/\a=some ⟨g,o,none⟩/\∀(i:Nat) (u:Value),cs[i]?=some u->bs[o+j+i]?=some u)/\K cs
structure U0 (F:aA) (g:Nat) (K:Value->Prop):Prop where
 out:∃v t fr,F g=some (.cells #[v] t fr)/\K v
structure ju (F:aA) (a:Option Addr) (j n:Nat) (K:List Value->Prop):Prop where
 out:∃cs,cs.length=n/\(dY F a j cs\/n=0)/\K cs
structure rD (L:Loc) (a:Option Addr) (j:Nat) (cs:List Value) (K:Loc->Prop):Prop where
 out:∃k v t sz m xs ad c,L.get k=some (.row v t sz m xs)/\a=some ad/\v=.slice (some ad) m c/\j+cs.length<=xs.length/\(∀u∈cs,u.oneCell'=true) /\
  K (L.set k (.row v t sz m (bY xs j cs)))
def Loc.sub (L:Loc):List Nat->Option (List Own)
 | []=>some []
 | k::ks=>match L.get k,Loc.sub L ks with
  | some o,some l=>some (o::l)
  | _,_=>none
def Loc.aas (L:Loc):List Nat->Loc
 | []=>L
 | k::ks=>Loc.aas (L.del k) ks
def Loc.puts (L:Loc):List Nat->List Own->Loc
 | k::ks,o::l=>Loc.puts (L.set k o) ks l
 | _,_=>L
structure eJ (P:Program) (f:Nat) (args:List Value) (F:aA) (L:Loc) (K:aA->Loc->Value->Prop):Prop where
 out:∃(ks ko:List Nat) (Lin:List Own) (R:aA->List Own->Value->Prop),L.sub ks=some Lin/\ks.Nodup/\ko.Nodup/\(∀k,k∈ko->k∈ks\/L.get k=none)/\CallsA P f args.toArray F Lin R /\
  ∀v F' Lo,F.le F'->R F' Lo v->ko.length=Lo.length /\
   (∀k g t cs,k∈ks->L.get k=some (.box g t cs)->∃cs',Loc.get ((L.aas ks).puts ko Lo) k=some (.box g t cs')) /\
   K F' ((L.aas ks).puts ko Lo) v
def Real (F:aA) (L:Loc):Prop:=∃w,St F L w
inductive dZ (P:Program) (f:Nat) (args:List Value) (F:aA) (L:Loc) (d:Option Nat) (K:aA->Loc->Value->Prop):Prop
 | frz (R:aA->List Own->Value->Prop) (h:CallsA P f args.toArray F [] R) (k:∀v F' Lo,F.le F'->R F' Lo v->Lo=[]/\(Real F' L->K F' L v))
 | own (R:aA->List Own->Value->Prop) (k:Nat) (h:CallsA P f args.toArray F [] R) (hd:d=some k) (hk:L.get k=none)
   (kk:∀v F' Lo,F.le F'->R F' Lo v->∃o,Lo=[o]/\(Real F' (L.set k o)->K F' (L.set k o) v))
 | row (R:aA->List Own->Value->Prop) (kr:Nat) (rv:Value) (t:TypeId) (sz n:Nat) (xs:List Value) (h:CallsA P f args.toArray F [.row rv t sz n xs] R) (hk:L.get kr=some (.row rv t sz n xs))
   (kk:∀v F' Lo,F.le F'->R F' Lo v->Lo=[]/\(Real F' (L.set kr (.row (.slice none 0 0) t sz 0 []))->K F' (L.set kr (.row (.slice none 0 0) t sz 0 [])) v))
 | lent (R:aA->Value->Prop) (kr:Nat) (rv:Value) (t:TypeId) (sz n:Nat) (xs:List Value) (h:CallsA P f args.toArray F [.row rv t sz n xs] (fun F' Lo v=>Lo=[.row rv t sz n xs]/\R F' v)) (hk:L.get kr=some (.row rv t sz n xs))
   (kk:∀v F',F.le F'->R F' v->Real F' L->K F' L v)
structure GU (F:aA) (L:Loc) (e:TypeId) (sz bytes:Nat) (s x:Value) (K:Loc->Value->Prop):Prop where
 out:∃(kd:Nat) (n:Nat) (xs:List Value) (m:Nat) (news:List Value),
  (L.get kd=some (.row s e sz n xs)\/(L.get kd=none/\n=0/\xs=[]/\s=.slice none 0 0)\/(L.get kd=none/\∃ad,s=.slice (some ad) n n/\0<m/\xs.length=n*sz/\(dY F (some ad) 0 xs\/(n=0/\xs=[])))) /\
  (∃a c,x=.slice a m c/\news.length=m*sz/\(dY F a 0 news\/(m=0/\news=[]) \/
    ∃k v t sz' m' ys ad c',L.get k=some (.row v t sz' m' ys)/\a=some ad/\v=.slice (some ad) m' c'/\∀(i:Nat) (u:Value),news[i]?=some u->ys[i]?=some u)) /\
  (∀u∈news,u.oneCell'=true)/\n+m<=maxLen/\(n+m)*bytes<=140737488355328 /\
  ∀v,(∃a c,v=.slice a (n+m) c/\(a=none->n+m=0))->K (L.set kd (.row v e sz (n+m) (xs++news))) v
structure qw (F:aA) (L:Loc) (d:Option Nat) (e:TypeId) (sz bytes:Nat) (s x:Value) (K:Loc->Value->Prop):Prop where
 out:∃(kd:Nat) (n:Nat) (xs:List Value) (m:Nat) (news:List Value),
  (L.get kd=some (.row s e sz n xs)\/(d=some kd/\L.get kd=none/\n=0/\xs=[]/\s=.slice none 0 0) \/
   (d=some kd/\L.get kd=none/\∃ad,s=.slice (some ad) n n/\0<m/\xs.length=n*sz/\(dY F (some ad) 0 xs\/(n=0/\xs=[])))) /\
  (∃a c,x=.slice a m c/\news.length=m*sz/\(dY F a 0 news\/(m=0/\news=[]))) /\
  (∀u∈news,u.oneCell'=true)/\n+m<=maxLen/\(n+m)*bytes<=140737488355328 /\
  ∀v,(∃a c,v=.slice a (n+m) c/\(a=none->n+m=0))->Real F (L.set kd (.row v e sz (n+m) (xs++news)))->K (L.set kd (.row v e sz (n+m) (xs++news))) v
structure Xj (L:Loc) (e:TypeId) (s:Value) (t:ByteArray) (K:Loc->Value->Prop):Prop where
 out:∃(kd:Nat) (n:Nat) (xs:List Value),
  (L.get kd=some (.row s e 1 n xs)\/(L.get kd=none/\n=0/\xs=[]/\s=.slice none 0 0)) /\
  n+t.size<=maxLen/\(n+t.size)<=140737488355328 /\
  ∀v,(∃a c,v=.slice a (n+t.size) c/\(a=none->n+t.size=0))->K (L.set kd (.row v e 1 (n+t.size) (xs++t.data.toList.map fun b=>Value.int .u8 b.toNat))) v
structure Xk (L:Loc) (e:TypeId) (bytes:Nat) (ki:IntKind) (s:Value) (m:Nat) (K:Loc->Value->Prop):Prop where
 out:∃(kd:Nat) (n:Nat) (xs:List Value),
  (L.get kd=some (.row s e 1 n xs)\/(L.get kd=none/\n=0/\xs=[]/\s=.slice none 0 0)) /\
  n+m<=maxLen/\(n+m)*bytes<=140737488355328 /\
  ∀v,(∃a c,v=.slice a (n+m) c/\(a=none->n+m=0))->K (L.set kd (.row v e 1 (n+m) (xs++List.replicate m (.int ki 0)))) v
structure Xl (F:aA) (L:Loc) (e:TypeId) (sz:Nat) (d x:Value) (K:Loc->Nat->Prop):Prop where
 out:(∃(k n:Nat) (v:Value) (nr:Nat) (xs:List Value) (ad:Addr) (cr cd j m:Nat) (a:Option Addr) (c:Nat) (news:List Value),
  L.get k=some (.row v e sz nr xs)/\v=.slice (some ad) nr cr/\d=.slice (some (ad.add (j*sz))) n cd/\j+n<=nr /\
  x=.slice a m c/\news.length=(min m n)*sz/\(dY F a 0 news\/(min m n=0/\news=[]))/\(∀u∈news,u.oneCell'=true) /\
  K (L.set k (.row v e sz nr (bY xs (j*sz) news))) (min m n)) \/
  ∃(da:Option Addr) (n cd:Nat) (a:Option Addr) (m c:Nat),d=.slice da n cd/\x=.slice a m c/\min m n=0/\K L 0
structure WX (L:Loc) (e:TypeId) (d:Value) (t:ByteArray) (K:Loc->Nat->Prop):Prop where
 out:∃(k n:Nat) (v:Value) (nr:Nat) (xs:List Value) (ad:Addr) (cr cd j:Nat),
  L.get k=some (.row v e 1 nr xs)/\v=.slice (some ad) nr cr/\d=.slice (some (ad.add j)) n cd/\j+n<=nr /\
  K (L.set k (.row v e 1 nr (bY xs j ((t.data.toList.take n).map fun b=>Value.int .u8 b.toNat)))) (min t.size n)
structure N8 (cs:List Value) (K:List UInt8->Prop):Prop where
 out:∃bs:List UInt8,cs=bs.map (fun b=>Value.int .u8 b.toNat)/\K bs
structure aaS (L:Loc) (a:Option Addr) (n:Nat) (K:List UInt8->Prop):Prop where
 out:∃k t c,∃bs:List UInt8,L.get k=some (.row (.slice a n c) t 1 n (bs.map (fun b=>Value.int .u8 b.toNat)))/\bs.length=n/\(a=none->n=0)/\K bs
def lS:List Value->Bool
 | .tuple _::_=>false
 | _=>true
def fL:Bool->Value->Value->Option Bool
 | false,.int .i64 a,.int .i64 b=>some (decide (a=b))
 | true,.string a,.string b=>some (decide (a.data.toList=b.data.toList))
 | _,_,_=>none
def mC (str:Bool) (key:Value):List Value->Nat->Option (Option (Nat×Value))
 | [],_=>some none
 | .agg ⟨[k,v]⟩::l,i=>match fL str key k with
  | some true=>some (some (i,v))
  | some false=>mC str key l (i+1)
  | none=>none
 | _::_,_=>none
def xX (str:Bool) (key val:Value):List Value->Option (List Value)
 | []=>some [.agg #[key,val]]
 | .agg ⟨[k,v]⟩::l=>match fL str key k with
  | some true=>some (.agg #[key,val]::l)
  | some false=>match xX str key val l with | some l'=>some (.agg #[k,v]::l') | none=>none
  | none=>none
 | _::_=>none
structure DC (L:Loc) (g:Nat) (K:Nat->List Value->Prop):Prop where
 out:∃k cs,L.get k=some (.box g 0 cs)/\lS cs=true/\K k cs
structure GV (str:Bool) (cs:List Value) (key:Value) (ok:Bool) (z:Value) (K:Value->Prop):Prop where
 out:(∃i v,mC str key cs 0=some (some (i,v))/\K (match ok with | true=>.tuple #[v,.bool true] | false=>v))\/(mC str key cs 0=some none/\K (match ok with | true=>.tuple #[z,.bool false] | false=>z))
structure SH (str:Bool) (cs:List Value) (key val:Value) (K:List Value->Prop):Prop where
 isKey:fL str key key=some true
 out:∃cs',xX str key val cs=some cs'/\K cs'
structure J7 (L:Loc) (k gi g n:Nat) (seen:List Value) (K:Loc->Value->Prop):Prop where
 out:∃km cs,L.get km=some (.box g 0 cs)/\lS cs=true/\cs.length=n/\(∀j e,cs[j]?=some e->j∉seen.map iZ->K (L.set k (.box gi 0 (.tuple #[.map (some g),.int .i64 n]::(seen++[.int .i64 j])))) (.tuple #[.bool true,(gB e j).key,(gB e j).val])) /\
  ((∀j,j<n->j∈seen.map iZ)->K L (.tuple #[.bool false]))
structure GW (L:Loc) (g n:Nat) (seen:List Value) (K:Value->Prop):Prop where
 out:∃km cs j e,L.get km=some (.box g 0 cs)/\lS cs=true/\cs.length=n/\seen.getLast?=some (.int .i64 (.ofNat j))/\cs[j]?=some e/\K (.tuple #[(gB e j).key,(gB e j).val])
structure Xm (F:aA) (mv:Value) (n:Int) (K:Int->Bool->Prop):Prop where
 out:∃k r b,iq k F mv/\NZ k n=some (r,b)/\K r b
structure pq (n c:Int) (bytes:Nat) (K:Nat->Prop):Prop where
 lo:0<=n
 le:n<=c
 hi:c.toNat*bytes<=140737488355328
 max:c.toNat<=maxLen
 out:K n.toNat
structure Rv (l h:Int) (c:Nat) (K:Nat->Nat->Prop):Prop where
 lo:0<=l
 le:l<=h
 hi:h<=c
 out:K l.toNat h.toNat
abbrev Ap:Bool->Prop->Prop->Prop
 | true,A,_=>A
 | false,_,B=>B
def aO:Value->List Value
 | .agg cs=>cs.toList
 | v=>[v]
def bE (L:Loc) (ρ:Env):List X->List Value
 | []=>[]
 | x::xs=>val L ρ x::bE L ρ xs
def cellsOf (L:Loc) (ρ:Env):List X->List Value
 | []=>[]
 | x::xs=>aO (val L ρ x)++cellsOf L ρ xs
def iG (agg:Bool) (cs:List Value):Value :=
 match agg,cs with
 | true,cs=>.agg cs.toArray
 | false,[v]=>v
 | false,_=>undef
def iD:List Value->Nat->Bool
 | [],0=>true
 | _::l,n+1=>iD l n
 | _,_=>false
def jA (t:TypeId) (l:List Value) (n:Nat):Bool:=match Nat.beq t 0 with | true=>false | false=>iD l n
def gC (L:Loc) (ρ:Env) (sz:Nat):List X->Bool
 | []=>true
 | x::xs=>match iD (aO (val L ρ x)) sz with | true=>gC L ρ sz xs | false=>false
def kE:List Value->Bool
 | []=>true
 | v::l=>match v.oneCell' with | true=>kE l | false=>false
def tX:Bool->Bool->Bool
 | true,b=>!b
 | false,b=>b
def Rw (a b:ByteArray):Bool:=decide (a.data.toList=b.data.toList)
def Rx (a b:ByteArray):Bool:=Op.bytesLess a.data.toList b.data.toList
def built (L:Loc) (ρ:Env):List Value->List (Nat×Nat×X)->Option (List Value)
 | zs,[]=>some zs
 | zs,(off,n,x)::ps=>match iD (aO (val L ρ x)) n with
  | true=>built L ρ (bY zs off (aO (val L ρ x))) ps
  | false=>none
def Ry (mx:Bool):Int->List SV->Option Int
 | a,[]=>some a
 | a,.v (.int _ b)::l=>Ry mx (match mx with | true=>if b>a then b else a | false=>if b<a then b else a) l
 | _,_=>none
def sU (a:Option Addr) (c l h sz:Nat):Value:=.slice (if c=l then a else a.map (·.add (l*sz))) (h-l) (c-l)
def nX (ρ:Env) (d:Int):Option X->Option Int
 | none=>some d
 | some x=>match ev ρ x with | .v (.int _ i)=>some i | _=>none
def mD:Value->Nat
 | .int _ m=>m.toNat
 | _=>0
def tY (b:Nat):Value->Bool
 | .int _ m=>Nat.ble (m.toNat*b) 140737488355328&&Nat.ble m.toNat 9223372036854775807&&decide (0<=m)
 | _=>false
theorem DE {b:Nat}{v:Value}(h:tY b v=true):∃k m,v=.int k m/\0<=m/\mD v=m.toNat/\m.toNat*b<=140737488355328/\m.toNat<=maxLen:=by
 cases v<;>simp only[tY] at h<;>try (cases h;done)
 rename_i k m;simp only[xo,abf] at h;exact⟨k,m,rfl,h.2,rfl,abq h.1.1,abq h.1.2⟩
theorem II {b:Nat}{v:Value}(h:tY b v=true):mD v<=maxLen:=by
 obtain⟨k,m,rfl,_,e,_,h2⟩:=DE h;rw[e];exact h2
def binI (op:BinOp) (k:IntKind) (a b:Int) (K:Value->Prop):Prop :=
 match op with
 | .add=>Fit k (a+b) fun n=>K (.int k n)
 | .sub=>Fit k (a-b) fun n=>K (.int k n)
 | .mul=>Fit k (a*b) fun n=>K (.int k n)
 | .quo=>SG b (Fit k (a.tdiv b) fun n=>K (.int k n))
 | .rem=>SG b (K (.int k (a.tmod b)))
 | .and=>K (.int k (k.wrap (BitVec.ofInt k.bits a &&& BitVec.ofInt k.bits b).toNat))
 | .or=>K (.int k (k.wrap (BitVec.ofInt k.bits a ||| BitVec.ofInt k.bits b).toNat))
 | .xor=>K (.int k (k.wrap (BitVec.ofInt k.bits a ^^^ BitVec.ofInt k.bits b).toNat))
 | .andNot=>K (.int k (k.wrap (BitVec.ofInt k.bits a &&& ~~~ BitVec.ofInt k.bits b).toNat))
 | .eql=>K (.bool (decide (a=b)))
 | .neq=>K (.bool (!decide (a=b)))
 | .lss=>K (.bool (decide (a<b)))
 | .leq=>K (.bool (decide (a<=b)))
 | .gtr=>K (.bool (decide (b<a)))
 | .geq=>K (.bool (decide (b<=a)))
 | _=>False
def shI (op:BinOp) (k:IntKind) (a b:Int) (K:Value->Prop):Prop :=
 match op with
 | .shl=>0<=b/\Fit k (a*2 ^ (min b.toNat k.bits)) fun n=>K (.int k n)
 | .shr=>0<=b/\K (.int k (a.fdiv (2 ^ (min b.toNat k.bits))))
 | _=>False
def binS (op:BinOp) (a b:ByteArray) (K:Value->Prop):Prop :=
 match op with
 | .add=>((a.size+b.size:Nat):Int)<=IntKind.i64.max/\K (.string (a++b))
 | .eql=>K (.bool (Rw a b))
 | .neq=>K (.bool (!Rw a b))
 | .lss=>K (.bool (Rx a b))
 | .geq=>K (.bool (!Rx a b))
 | _=>False
def qx:IntKind->IntKind->Bool
 | .i64,.i64=>true | .u8,.u8=>true | .u64,.u64=>true | .i32,.i32=>true | .u16,.u16=>true | .u32,.u32=>true | .i8,.i8=>true | .i16,.i16=>true
 | _,_=>false
def J8:BinOp->Bool
 | .shl | .shr=>true
 | _=>false
def jn:List Bool->List Value->List Value->Bool->Option Bool
 | [],[],[],c=>some c
 | true::ks,.int k a::l,.int e b::d,c=>match qx k e with | true=>jn ks l d (c&&decide (a=b)) | false=>none
 | false::ks,.bool a::l,.bool b::d,c=>jn ks l d (c&&decide (a=b))
 | _,_,_,_=>none
def aM (o:eI) (F:aA) (L:Loc) (ρ:Env) (V:SV->Prop):Prop :=
 match o with
 | .mov x=>V (ev ρ x)
 | .pick c a b=>match ev ρ c with
  | .v (.bool true)=>V (ev ρ a)
  | .v (.bool false)=>V (ev ρ b)
  | _=>False
 | .build zs ps=>match built L ρ zs ps with
  | some cs=>V (.v (.agg cs.toArray))
  | none=>False
 | .load agg n x=>match ev ρ x with
  | .own k off=>match L.get k with
   | some (.box _ t cs)=>match jA t ((cs.drop off).take n) n with
    | true=>V (.v (iG agg ((cs.drop off).take n)))
    | false=>False
   | _=>False
  | .el a j=>kI F L a j n fun cs=>V (.v (iG agg cs))
  | .v (.pointer (some a))=>kI F L (some a) 0 n fun cs=>V (.v (iG agg cs))
  | _=>False
 | .loadR agg n x=>match ev ρ x with
  | .own k off=>match L.get k with
   | some (.box _ t cs)=>match jA t ((cs.drop off).take n) n with
    | true=>V (.v (iG agg ((cs.drop off).take n)))
    | false=>False
   | _=>False
  | .el a j=>kI F L a j n fun cs=>V (.v (iG agg cs))
  | .v (.pointer (some a))=>kI F L (some a) 0 n fun cs=>V (.v (iG agg cs))
  | _=>False
 | .nilck x=>match ev ρ x with
  | .own k off=>V (.own k off)
  | .el a j=>a≠none/\V (.el a j)
  | .v (.pointer (some a))=>V (.v (.pointer (some a)))
  | .v (.func (.func f) d e)=>V (.v (.func (.func f) d e))
  | .v (.func (.method p) d e)=>match d.toList with
   | [.iface t u]=>UZ SE t p=true/\V (.v (.func (.method p) d e))
   | _=>False
  | _=>False
 | .bin op x y=>match ev ρ x,ev ρ y with
  | .v (.int k a),.v (.int w b)=>match J8 op with
   | true=>shI op k a b fun v=>V (.v v)
   | false=>match qx k w with
    | true=>binI op k a b fun v=>V (.v v)
    | false=>False
  | .v (.string a),.v (.string b)=>binS op a b fun v=>V (.v v)
  | _,_=>False
 | .eqB neg x y=>match ev ρ x,ev ρ y with
  | .v (.bool a),.v (.bool b)=>V (.v (.bool (tX neg (decide (a=b)))))
  | _,_=>False
 | .eqS neg x y=>match ev ρ x,ev ρ y with
  | .v (.slice a _ _),.v (.slice none _ _)=>V (.v (.bool (tX neg a.isNone)))
  | _,_=>False
 | .eqN neg x=>match ev ρ x with
  | .v .nilIface=>V (.v (.bool (tX neg true)))
  | .v (.iface _ _)=>V (.v (.bool (tX neg false)))
  | _=>False
 | .tas t z x=>match ev ρ x with
  | .v .nilIface=>V (.v (.tuple #[z,.bool false]))
  | .v (.iface r u)=>match Nat.beq r t with
   | true=>V (.v (.tuple #[u,.bool true]))
   | false=>V (.v (.tuple #[z,.bool false]))
  | _=>False
 | .eqA neg ks x y=>match ev ρ x,ev ρ y with
  | .v (.agg cs),.v (.agg ds)=>match jn ks cs.toList ds.toList true with
   | some b=>V (.v (.bool (tX neg b)))
   | none=>False
  | _,_=>False
 | .un op x=>match op,ev ρ x with
  | .not,.v (.bool b)=>V (.v (.bool (!b)))
  | .neg,.v (.int k n)=>Fit k (0-n) fun m=>V (.v (.int k m))
  | .xor,.v (.int k n)=>V (.v (.int k (k.wrap (BitVec.ofInt k.bits (if k.signed then -1 else k.max) ^^^ BitVec.ofInt k.bits n).toNat)))
  | _,_=>False
 | .conv k x=>match ev ρ x with
  | .v (.int _ n)=>Fit k n fun m=>V (.v (.int k m))
  | _=>False
 | .mkfn f d e=>V (.v (.func (.func f) (bE L ρ d).toArray (bE L ρ e).toArray))
 | .slc sz x lo hi=>match ev ρ x with
  | .v (.slice a n c)=>match nX ρ 0 lo,nX ρ n hi with
   | some l,some h=>Rv l h c fun l h=>V (.v (sU a c l h sz))
   | _,_=>False
  | _=>False
 | .fieldA off x=>match ev ρ x with
  | .own k o=>V (.own k (o+off))
  | .el a j=>V (.el a (j+off))
  | .v (.pointer (some a))=>V (.el (some a) off)
  | _=>False
 | .idxA sz x i=>match ev ρ x,ev ρ i with
  | .v (.slice a n _),.v (.int _ i)=>J6 a i n (V (.el a (i.toNat*sz)))
  | _,_=>False
 | .extr x i=>match ev ρ x with
  | .v (.tuple s)=>match s.toList[i]? with
   | some v=>V (.v v)
   | none=>False
  | _=>False
 | .len x=>match ev ρ x with
  | .v (.slice _ n _)=>V (.v (.int .i64 n))
  | _=>False
 | .mm mx args=>match args.map (ev ρ) with
  | .v (.int k a)::l=>match Ry mx a l with
   | some m=>V (.v (.int k m))
   | none=>False
  | _=>False
 | .loadD agg n x=>match ev ρ x with
  | .own k off=>match L.get k with
   | some (.box _ t cs)=>match jA t ((cs.drop off).take n) n with
    | true=>V (.v (iG agg ((cs.drop off).take n)))
    | false=>False
   | _=>False
  | .el a j=>ju F a j n fun cs=>V (.v (iG agg cs))
  | .v (.pointer (some a))=>ju F (some a) 0 n fun cs=>V (.v (iG agg cs))
  | _=>False
 | .gload g=>U0 F g fun v=>V (.v v)
 | .loadF agg n x=>match ev ρ x with
  | .el a j=>ju F a j n fun cs=>V (.v (iG agg cs))
  | .v (.pointer (some a))=>ju F (some a) 0 n fun cs=>V (.v (iG agg cs))
  | _=>False
 | .mkif t x=>match ev ρ x with
  | .v v=>V (.v (.iface t v))
  | .el (some q) j=>V (.v (.iface t (.pointer (some (q.add j)))))
  | _=>False
 | .mlook str ok z x i=>match ev ρ x with
  | .v (.map (some g))=>DC L g fun _ cs=>GV str cs (val L ρ i) ok z fun v=>V (.v v)
  | _=>False
 | .loadK key agg n x=>match ev ρ x with
  | .own k off=>match Nat.beq k key with
   | true=>match L.get k with
    | some (.box _ t cs)=>match jA t ((cs.drop off).take n) n with
     | true=>V (.v (iG agg ((cs.drop off).take n)))
     | false=>False
    | _=>False
   | false=>False
  | _=>False
 | _=>False
def evalOp (P:Program) (o:eI) (d:Option Nat) (F:aA) (L:Loc) (ρ:Env) (K:dQ):Prop :=
 match o with
 | .mov x=>aM (.mov x) F L ρ fun v=>K F L (put d v ρ)
 | .pick c a b=>aM (.pick c a b) F L ρ fun v=>K F L (put d v ρ)
 | .box t x=>match d with
  | some k=>match L.get k with
   | none=>∀g,K F (L.set k (.box g t (aO (val L ρ x)))) (put d (.own k 0) ρ)
   | some _=>False
  | none=>False
 | .boxF t x=>∀g F',F.le F'->F' g=some (.cells (aO (val L ρ x)).toArray t (0,0))->K F' L (put d (.v (.pointer (some ⟨g,0,none⟩))) ρ)
 | .alloc t zs=>match d with
  | some k=>match L.get k with
   | none=>∀g,K F (L.set k (.box g t zs)) (put d (.own k 0) ρ)
   | some _=>False
  | none=>False
 | .mkF e n sz xs=>match gC L ρ sz xs with
  | true=>∀g F',F.le F'->F' g=some (.cells (cellsOf L ρ xs).toArray e (0,0))->K F' L (put d (.v (.slice (some ⟨g,0,none⟩) n n)) ρ)
  | false=>False
 | .mkR e n sz xs=>match gC L ρ sz xs,d with
  | true,some k=>match L.get k with
   | none=>∀g,K F (L.set k (.row (.slice (some ⟨g,0,none⟩) n n) e sz n (cellsOf L ρ xs))) (put d (.v (.slice (some ⟨g,0,none⟩) n n)) ρ)
   | some _=>False
  | _,_=>False
 | .build zs ps=>aM (.build zs ps) F L ρ fun v=>K F L (put d v ρ)
 | .load agg n x=>aM (.load agg n x) F L ρ fun v=>K F L (put d v ρ)
 | .store n a x=>match iD (aO (val L ρ x)) n,kE (aO (val L ρ x)),ev ρ a with
  | true,true,.own k off=>match L.get k with
   | some (.box g t cs)=>match jA t ((cs.drop off).take n) n with
    | true=>K F (L.set k (.box g t (bY cs off (aO (val L ρ x))))) (put d (.v undef) ρ)
    | false=>False
   | _=>False
  | true,true,.el p j=>rD L p j (aO (val L ρ x)) fun L'=>K F L' (put d (.v undef) ρ)
  | true,true,.v (.pointer (some p))=>rD L (some p) 0 (aO (val L ρ x)) fun L'=>K F L' (put d (.v undef) ρ)
  | _,_,_=>False
 | .nilck x=>aM (.nilck x) F L ρ fun v=>K F L (put d v ρ)
 | .mkif t x=>aM (.mkif t x) F L ρ fun v=>K F L (put d v ρ)
 | .pan _=>False
 | .dead=>False
 | .bin op x y=>aM (.bin op x y) F L ρ fun v=>K F L (put d v ρ)
 | .eqB neg x y=>aM (.eqB neg x y) F L ρ fun v=>K F L (put d v ρ)
 | .eqS neg x y=>aM (.eqS neg x y) F L ρ fun v=>K F L (put d v ρ)
 | .eqN neg x=>aM (.eqN neg x) F L ρ fun v=>K F L (put d v ρ)
 | .tas t z x=>aM (.tas t z x) F L ρ fun v=>K F L (put d v ρ)
 | .eqA neg ks x y=>aM (.eqA neg ks x y) F L ρ fun v=>K F L (put d v ρ)
 | .un op x=>aM (.un op x) F L ρ fun v=>K F L (put d v ρ)
 | .conv k x=>aM (.conv k x) F L ρ fun v=>K F L (put d v ρ)
 | .mkfn f r q=>aM (.mkfn f r q) F L ρ fun v=>K F L (put d v ρ)
 | .makeS e sz bytes zs l c=>match ev ρ l,ev ρ c,d with
  | .v (.int _ n),.v (.int _ m),some k=>match L.get k with
   | none=>pq n m bytes fun n=>∀g,K F (L.set k (.row (.slice (some ⟨g,0,none⟩) n m.toNat) e sz n (List.replicate n zs).flatten)) (put d (.v (.slice (some ⟨g,0,none⟩) n m.toNat)) ρ)
   | some _=>False
  | _,_,_=>False
 | .slc sz x lo hi=>aM (.slc sz x lo hi) F L ρ fun v=>K F L (put d v ρ)
 | .fieldA off x=>aM (.fieldA off x) F L ρ fun v=>K F L (put d v ρ)
 | .idxA sz x i=>aM (.idxA sz x i) F L ρ fun v=>K F L (put d v ρ)
 | .extr x i=>aM (.extr x i) F L ρ fun v=>K F L (put d v ρ)
 | .call f args=>eJ P f (bE L ρ args) F L fun F' L' v=>K F' L' (put d (.v v) ρ)
 | .callV f args=>match sS P (ev ρ f) with
  | some (f,r,q)=>eJ P f (r++bE L ρ args++q) F L fun F' L' v=>K F' L' (put d (.v v) ρ)
  | none=>match AY P (ev ρ f) (bE L ρ args) with
   | some (f,args)=>eJ P f args F L fun F' L' v=>K F' L' (put d (.v v) ρ)
   | none=>False
 | .gload g=>aM (.gload g) F L ρ fun v=>K F L (put d v ρ)
 | .mkmap=>match d with
  | some k=>match L.get k with
   | none=>∀g,K F (L.set k (.box g 0 [])) (put d (.v (.map (some g))) ρ)
   | some _=>False
  | none=>False
 | .mlook str ok z x i=>aM (.mlook str ok z x i) F L ρ fun v=>K F L (put d v ρ)
 | .mupd str x i v=>match ev ρ x with
  | .v (.map (some g))=>DC L g fun k cs=>SH str cs (val L ρ i) (val L ρ v) fun cs'=>K F (L.set k (.box g 0 cs')) (put d (.v undef) ρ)
  | _=>False
 | .mrange x=>match ev ρ x,d with
  | .v (.map (some g)),some k=>match L.get k with
   | none=>DC L g fun _ cs=>∀w,K F (L.set k (.box w 0 [.tuple #[.map (some g),.int .i64 cs.length]])) (put d (.own k 0) ρ)
   | some _=>False
  | _,_=>False
 | .mnext x=>match ev ρ x with
  | .own k 0=>match L.get k with
   | some (.box w 0 (.tuple ⟨[.map (some g),.int .i64 (.ofNat n)]⟩::h))=>J7 L k w g n h fun L' v=>K F L' (put d (.v v) ρ)
   | _=>False
  | _=>False
 | .mentry x=>match ev ρ x with
  | .own k 0=>match L.get k with
   | some (.box w 0 (.tuple ⟨[.map (some g),.int .i64 (.ofNat n)]⟩::h))=>GW L g n h fun v=>K F L (put d (.v v) ρ)
   | _=>False
  | _=>False
 | .len x=>aM (.len x) F L ρ fun v=>K F L (put d v ρ)
 | .mm mx args=>aM (.mm mx args) F L ρ fun v=>K F L (put d v ρ)
 | .app e sz bytes _ s x=>match ev ρ s,ev ρ x with
  | .v sv,.v u=>GU F L e sz bytes sv u fun L1 v=>K F L1 (put d (.v v) ρ)
  | _,_=>False
 | .appX e sz bytes _ s x=>match ev ρ s,ev ρ x with
  | .v sv,.v u=>GU F L e sz bytes sv u fun L1 v=>Real F L1->K F L1 (put d (.v v) ρ)
  | _,_=>False
 | .appD e sz bytes _ s x=>match ev ρ s,ev ρ x with
  | .v sv,.v u=>qw F L d e sz bytes sv u fun L1 v=>K F L1 (put d (.v v) ρ)
  | _,_=>False
 | .storeD n a x=>match iD (aO (val L ρ x)) n,kE (aO (val L ρ x)),ev ρ a with
  | true,true,.own k off=>match L.get k with
   | some (.box g t cs)=>match jA t ((cs.drop off).take n) n with
    | true=>K F (L.set k (.box g t (bY cs off (aO (val L ρ x))))) (put d (.v undef) ρ)
    | false=>False
   | _=>False
  | _,_,_=>False
 | .storeK key n a x=>match iD (aO (val L ρ x)) n,kE (aO (val L ρ x)),ev ρ a with
  | true,true,.own k off=>match Nat.beq k key with
   | true=>match L.get k with
    | some (.box g t cs)=>match jA t ((cs.drop off).take n) n with
     | true=>K F (L.set k (.box g t (bY cs off (aO (val L ρ x))))) (put d (.v undef) ρ)
     | false=>False
    | _=>False
   | false=>False
  | _,_,_=>False
 | .loadD agg n x=>aM (.loadD agg n x) F L ρ fun v=>K F L (put d v ρ)
 | .loadF agg n x=>aM (.loadF agg n x) F L ρ fun v=>K F L (put d v ρ)
 | .loadR agg n x=>aM (.loadR agg n x) F L ρ fun v=>K F L (put d v ρ)
 | .loadK key agg n x=>aM (.loadK key agg n x) F L ρ fun v=>K F L (put d v ρ)
 | .makeSD e sz n zs=>match d with
  | some k=>match L.get k,iD zs sz,Nat.ble n 9223372036854775807 with
   | none,true,true=>∀g,Real F (L.set k (.row (.slice (some ⟨g,0,none⟩) n n) e sz n (List.replicate n zs).flatten))->K F (L.set k (.row (.slice (some ⟨g,0,none⟩) n n) e sz n (List.replicate n zs).flatten)) (put d (.v (.slice (some ⟨g,0,none⟩) n n)) ρ)
   | _,_,_=>False
  | none=>False
 | .makeSV e sz b zs x=>match d with
  | some k=>match L.get k,iD zs sz,tY b (val L ρ x) with
   | none,true,true=>∀g,Real F (L.set k (.row (.slice (some ⟨g,0,none⟩) (mD (val L ρ x)) (mD (val L ρ x))) e sz (mD (val L ρ x)) (List.replicate (mD (val L ρ x)) zs).flatten))->K F (L.set k (.row (.slice (some ⟨g,0,none⟩) (mD (val L ρ x)) (mD (val L ρ x))) e sz (mD (val L ρ x)) (List.replicate (mD (val L ρ x)) zs).flatten)) (put d (.v (.slice (some ⟨g,0,none⟩) (mD (val L ρ x)) (mD (val L ρ x)))) ρ)
   | _,_,_=>False
  | none=>False
 | .storeX n a x=>match iD (aO (val L ρ x)) n,kE (aO (val L ρ x)),ev ρ a with
  | true,true,.own k off=>match L.get k with
   | some (.box g t cs)=>match jA t ((cs.drop off).take n) n with
    | true=>Real F (L.set k (.box g t (bY cs off (aO (val L ρ x)))))->K F (L.set k (.box g t (bY cs off (aO (val L ρ x))))) (put d (.v undef) ρ)
    | false=>False
   | _=>False
  | true,true,.el p j=>rD L p j (aO (val L ρ x)) fun L'=>Real F L'->K F L' (put d (.v undef) ρ)
  | true,true,.v (.pointer (some p))=>rD L (some p) 0 (aO (val L ρ x)) fun L'=>Real F L'->K F L' (put d (.v undef) ρ)
  | _,_,_=>False
 | .boxD t x=>match d with
  | some k=>match L.get k with
   | none=>∀g,Real F (L.set k (.box g t (aO (val L ρ x))))->K F (L.set k (.box g t (aO (val L ρ x)))) (put d (.own k 0) ρ)
   | some _=>False
  | none=>False
 | .allocD t zs=>match d with
  | some k=>match L.get k with
   | none=>∀g,Real F (L.set k (.box g t zs))->K F (L.set k (.box g t zs)) (put d (.own k 0) ρ)
   | some _=>False
  | none=>False
 | .mkFD e n sz xs=>match gC L ρ sz xs with
  | true=>∀g F',F.le F'->F' g=some (.cells (cellsOf L ρ xs).toArray e (0,0))->Real F' L->K F' L (put d (.v (.slice (some ⟨g,0,none⟩) n n)) ρ)
  | false=>False
 | .callD f args=>dZ P f (bE L ρ args) F L d fun F' L' v=>K F' L' (put d (.v v) ρ)
 | .callVD f args=>match sS P (ev ρ f) with
  | some (f,r,q)=>dZ P f (r++bE L ρ args++q) F L d fun F' L' v=>K F' L' (put d (.v v) ρ)
  | none=>False
 | .callO f args=>eJ P f (bE L ρ args) F L fun F' L' v=>Real F' L'->K F' L' (put d (.v v) ρ)
 | .callVO f args=>match sS P (ev ρ f) with
  | some (f,r,q)=>eJ P f (r++bE L ρ args++q) F L fun F' L' v=>Real F' L'->K F' L' (put d (.v v) ρ)
  | none=>False
def SI (F:aA) (v:Value) (sz n:Nat) (xs:List Value):Prop :=
 (v=.slice none 0 0/\n=0/\xs=[])\/∃a c,v=.slice (some a) n c/\dY F (some a) 0 xs/\n<=c
structure Rz (F:aA) (L:Loc) (k:Nat) (K:aA->Loc->Prop):Prop where
 out:∃v t sz n xs,L.get k=some (.row v t sz n xs)/\∀F',F.le F'->SI F' v sz n xs->K F' (L.del k)
inductive ak where
 | op (dst:Option Nat) (o:eI) (guard:Option (Nat×Bool))
 | frz (k:Nat)
 | pc (dst:Option Nat) (o:eI) (guard:Option (Nat×Bool))
 deriving Inhabited
def xY (k g:Nat) (ρ:Env):Env:=fun j=>match ρ j with
 | .own b off=>match Nat.beq b k with | true=>.v (.pointer (some ⟨g,off,none⟩)) | false=>.own b off
 | .v x=>.v x
 | .el a i=>.el a i
def aW (P:Program):List ak->aA->Loc->Env->dQ->Prop
 | [],F,L,ρ,K=>K F L ρ
 | .op d o none::a,F,L,ρ,K=>evalOp P o d F L ρ fun F' L' ρ'=>aW P a F' L' ρ' K
 | .op d o (some (s,c))::a,F,L,ρ,K=>match ρ s with
  | .v (.bool b)=>Ap b
    (match c with
     | true=>evalOp P o d F L (put (some s) (.v (.bool true)) ρ) fun F' L' ρ'=>aW P a F' L' ρ' K
     | false=>aW P a F L (put d (.v undef) (put (some s) (.v (.bool true)) ρ)) K)
    (match c with
     | false=>evalOp P o d F L (put (some s) (.v (.bool false)) ρ) fun F' L' ρ'=>aW P a F' L' ρ' K
     | true=>aW P a F L (put d (.v undef) (put (some s) (.v (.bool false)) ρ)) K)
  | .v (.tuple _)=>aW P a F L (put d (.v undef) ρ) K
  | _=>False
 | .frz k::a,F,L,ρ,K=>match L.get k with
  | some (.box g t cs)=>∀F',F.le F'->F' g=some (nP t cs)->aW P a F' (L.del k) (xY k g ρ) K
  | _=>Rz F L k fun F' L'=>aW P a F' L' ρ K
 | .pc _ _ _::_,_,_,_,_=>False
inductive ax where
 | skip
 | reg (ops:List ak)
 | regD (ops:List ak)
 | regX (ops:List ak)
 | seq (a b:ax)
 | cond (c:X) (a b:ax)
 | block (id:Nat) (c:ax)
 | loop (asg:List Nat) (c:ax)
 | exit (id:Nat)
 | ret
 deriving Inhabited
def fU:List Nat->Nat->Bool
 | [],_=>false
 | j::l,k=>match Nat.beq j k with | true=>true | false=>fU l k
def Loc.keeps:Loc->Loc->Prop
 | [],_=>True
 | (k,.box g t _)::l,L'=>(∃cs,L'.get k=some (.box g t cs))/\Loc.keeps l L'
 | (_,.row ..)::l,L'=>Loc.keeps l L'
structure J9 (F:aA) (L:Loc) (v:Value) (R:aA->List Own->Value->Prop):Prop where
 out:∃ko Lo,L.sub ko=some Lo/\ko.Nodup/\R F Lo v
abbrev RV:=Nat×Option (Bool×Nat)
def nY (L:Loc) (ρ:Env):List RV->(List Value->Prop)->Prop
 | [],K=>K []
 | (t,none)::l,K=>nY L ρ l fun a=>K (conc L (ρ t)::a)
 | (t,some (agg,n))::l,K=>match ρ t with
  | .own k off=>match L.get k with
   | some (.box _ ty cs)=>match jA ty ((cs.drop off).take n) n with
    | true=>nY L ρ l fun a=>K (iG agg ((cs.drop off).take n)::a)
    | false=>False
   | _=>False
  | _=>False
def gD:List Value->Value
 | [v]=>v
 | l=>.tuple l.toArray
def DF:Nat->List SV->Env
 | _,[]=>fun _=>.v undef
 | k,v::l=>put (some k) v (DF (k+1) l)
def Loc.gives (L:Loc):Loc->Prop
 | []=>True
 | (k,o)::l=>(L.get k=some o\/(L.get k=none/\∃t sz,o=.row (.slice none 0 0) t sz 0 []))/\Loc.gives L l
def qy (asg:List Nat) (a:Nat->Value) (ρ:Env):Env:=fun j=>match fU asg j with | true=>.v (a j) | false=>ρ j
def puts:List Nat->List SV->Env->Env
 | k::ks,v::a,ρ=>put (some k) v (puts ks a ρ)
 | _,_,ρ=>ρ
def holds:List Nat->List SV->Env->Prop
 | k::ks,v::a,ρ=>ρ k=v/\holds ks a ρ
 | _,_,_=>True
structure Ka (body:aA->Loc->Env->dQ->Prop) (asg:List Nat) (F:aA) (L:Loc) (ρ:Env):Prop where
 out:∃(σ:Type) (x0:σ) (Inv:σ->aA->Prop) (ls:List Nat) (lv:σ->List Value) (Lf:σ->Loc) (μ:σ->Nat),
  Inv x0 F/\holds ls ((lv x0).map .v) ρ/\L.gives (Lf x0)/\(∀x,L.keeps (Lf x)) /\
  ∀x F' jk,F.le F'->Inv x F'->body F' (Lf x) (puts ls ((lv x).map .v) (qy asg jk ρ)) fun F'' L'' ρ'' =>
   ∃x',Inv x' F''/\holds ls ((lv x').map .v) ρ''/\L''.gives (Lf x')/\μ x'<μ x
def jH (P:Program):ax->(Nat->dQ)->dQ->dQ->dQ
 | .skip,_,_,N,F,L,ρ=>N F L ρ
 | .reg d,_,_,N,F,L,ρ=>aW P d F L ρ N
 | .regD d,_,_,N,F,L,ρ=>aW P d F L ρ N
 | .regX _,_,_,_,_,_,_=>False
 | .seq a b,E,R,N,F,L,ρ=>jH P a E R (fun F L ρ=>jH P b E R N F L ρ) F L ρ
 | .cond c a b,E,R,N,F,L,ρ=>match ev ρ c with
  | .v (.bool t)=>Ap t (jH P a E R N F L ρ) (jH P b E R N F L ρ)
  | _=>False
 | .block id c,E,R,N,F,L,ρ=>jH P c (fun j=>match Nat.beq j id with | true=>N | false=>E j) R N F L ρ
 | .loop asg c,E,R,_,F,L,ρ=>Ka (fun F L ρ K=>jH P c E R K F L ρ) asg F L ρ
 | .exit id,E,_,_,F,L,ρ=>E id F L ρ
 | .ret,_,R,_,F,L,ρ=>R F L ρ
theorem gO {a b:Nat}(h:Nat.beq a b=false):a≠b:=by intro e;subst e;simp at h
theorem Loc.aap (L:Loc) (k:Nat) (o:Own) (j:Nat):(L.set k o).get j=if j=k then some o else L.get j:=by
 induction L with
 | nil =>
  simp only[Loc.set,Loc.get];cases h:Nat.beq k j with
  | true=>have:=aa5 h;simp[this]
  | false=>have:=gO h;simp;omega
 | cons p l a =>
  obtain⟨i,q⟩:=p;simp only[Loc.set];cases h:Nat.beq i k with
  | true =>
   have e:=aa5 h;subst e;simp only[Loc.get];cases h2:Nat.beq i j with
   | true=>have:=aa5 h2;simp[this]
   | false=>have:=gO h2;simp;omega
  | false =>
   have b:=gO h;simp only[];cases h3:Nat.ble i k with
   | true =>
    simp only[Loc.get];cases h2:Nat.beq i j with
    | true=>have:=aa5 h2;simp;omega
    | false=>simpa using a
   | false =>
    simp only[Loc.get];cases h2:Nat.beq k j with
    | true=>have:=aa5 h2;simp[this]
    | false =>
     have:=gO h2;simp only[];rw[fo (by omega)]
theorem Loc.aau (L:Loc) (k j:Nat):(L.del k).get j=if j=k then none else L.get j:=by
 induction L with
 | nil=>simp[Loc.del,Loc.get]
 | cons p l b =>
  obtain⟨i,q⟩:=p;simp only[Loc.del];cases h:Nat.beq i k with
  | true =>
   have e:=aa5 h;subst e;simp only[Loc.get,b]
   by_cases a:j=i
   ·simp[a]
   ·have:Nat.beq i j=false:=by cases h2:Nat.beq i j with | true=>exact o5 (aa5 h2).symm a | false=>rfl
    simp[a,this]
  | false =>
   have c:=gO h;simp only[Loc.get];cases h2:Nat.beq i j with
   | true=>have:=aa5 h2;simp;omega
   | false=>simpa using b
def Loc.part (L L':Loc):Prop:=∀k o,L'.get k=some o->L.get k=some o
theorem St.part {F:aA}{L L':Loc}{w:World}(h:St F L w) (a:L.part L'):St F L' w :=
 ⟨h.frz,fun k o e=>h.own k o (a k o e),fun k o g e=>h.off k o g (a k o e),fun k b o o' g e c=>h.sep k b o o' g (a k o e) (a b o' c),h.glob⟩
theorem Own.aaE {w:World}{o:Own}(h:o.ok w) {g:Nat}(a:o.blk=some g):g<w.heap.size:=by
 cases o with
 | box b t cs =>
  simp only[Own.blk,aa1] at a;subst a;exact(Array.getElem?_eq_some_iff.1 h).1
 | row v t sz n xs=>exact(World.ownsRow.lt h g a).2
theorem Own.aaH {w w':World}{o:Own}(h:o.ok w) (b:∀g,o.blk=some g->w'.heap[g]?=w.heap[g]?):o.ok w':=by
 cases o with
 | box g t cs=>exact(b g rfl).trans h
 | row v t sz n xs =>
  obtain⟨h1,h2⟩:=h;refine⟨h1,?_⟩;rcases h2 with h2 | ⟨g,cap,a,rfl,hb,c,r⟩
  ·exact .inl h2
  ·exact .inr ⟨g,cap,a,rfl,hb,(b g rfl).trans c,r⟩
theorem St.aaK {F:aA}{L:Loc}{w:World}(h:St F L w) {b:Nat}(hb:F b≠none):b<w.heap.size:=by
 cases e:F b with
 | none=>exact o5 e hb
 | some o=>exact(Array.getElem?_eq_some_iff.1 (h.frz b o e)).1
theorem St.aaN {F:aA}{L:Loc}{w:World}(h:St F L w) {b:Nat}(hb:L.owns b):b<w.heap.size:=by
 obtain⟨k,o,e,a⟩:=hb;exact Own.aaE (h.own k o e) a
theorem St.keep {F:aA}{L:Loc}{w w':World}(h:St F L w) (a:∀b,b<w.heap.size->w'.heap[b]?=w.heap[b]?):St F L w':=by
 refine⟨fun b o e=>?_,fun k o e=>?_,h.off,h.sep,h.glob⟩
 ·have:=h.frz b o e;rw[a b (Array.getElem?_eq_some_iff.1 this).1];exact this
 ·exact Own.aaH (h.own k o e) fun g c=>a g (Own.aaE (h.own k o e) c)
theorem St.drew {F:aA}{L:Loc}{w:World}(h:St F L w):St F L w.drew:=h.keep fun _ _=>rfl
theorem St.put {F:aA}{L:Loc}{w:World}(h:St F L w) {k:Nat}{o:Own}(v:L.get k=none) (u:o.ok w)
  (hf:∀g,o.blk=some g->F g=none/\¬L.owns g):St F (L.set k o) w:=by
 have a:∀j p,(L.set k o).get j=some p->(j=k/\p=o)\/(j≠k/\L.get j=some p):=by
  intro j p e;rw[Loc.aap] at e;split at e
  ·rename_i d;exact .inl ⟨d,by injection e with e;exact e.symm⟩
  ·rename_i d;exact .inr ⟨d,e⟩
 refine⟨h.frz,fun j p e=>?_,fun j p g e c=>?_,fun j n p l g e s c b=>?_,h.glob⟩
 ·rcases a j p e with⟨_,rfl⟩ | ⟨_,e⟩
  ·exact u
  ·exact h.own j p e
 ·rcases a j p e with⟨_,rfl⟩ | ⟨_,e⟩
  ·exact(hf g c).1
  ·exact h.off j p g e c
 ·rcases a j p e with⟨d,t⟩ | ⟨_,q⟩<;>rcases a n l s with⟨m,f⟩ | ⟨_,r⟩
  ·exact d.trans m.symm
  ·subst t;exact o5 ⟨n,l,r,b⟩ (hf g c).2
  ·subst f;exact o5 ⟨j,p,q,c⟩ (hf g b).2
  ·exact h.sep j n p l g q r c b
theorem St.turn {F:aA}{L:Loc}{w w':World}(h:St F L w) {k:Nat}{o o':Own}(n:L.get k=some o) (ho:o'.ok w')
  (x:∀b,b<w.heap.size->o.blk≠some b->w'.heap[b]?=w.heap[b]?) (hb:∀g,o'.blk=some g->o.blk=some g\/w.heap.size<=g):St F (L.set k o') w':=by
 have c:∀j p,(L.set k o').get j=some p->(j=k/\p=o')\/(j≠k/\L.get j=some p):=by
  intro j p e;rw[Loc.aap] at e;split at e
  ·rename_i l;exact .inl ⟨l,by injection e with e;exact e.symm⟩
  ·rename_i l;exact .inr ⟨l,e⟩
 refine⟨fun b p e=>?_,fun j p e=>?_,fun j p g e d=>?_,fun j r p q g e z d f=>?_,h.glob⟩
 ·have:=h.frz b p e;rw[x b (Array.getElem?_eq_some_iff.1 this).1 (fun hb=>by have:=h.off k o b n hb;rw[this] at e;cases e)];exact this
 ·rcases c j p e with⟨_,rfl⟩ | ⟨l,e⟩
  ·exact ho
  ·exact Own.aaH (h.own j p e) fun g d=>x g (Own.aaE (h.own j p e) d) fun a=>l (h.sep j k p o g e n d a)
 ·rcases c j p e with⟨_,rfl⟩ | ⟨_,e⟩
  ·rcases hb g d with a | v
   ·exact h.off k o g n a
   ·cases y:F g with
    | none=>rfl
    | some _=>have:=h.aaK (b:=g) (by rw[y];simp);omega
  ·exact h.off j p g e d
 ·rcases c j p e with⟨l,hp⟩ | ⟨l,t⟩<;>rcases c r q z with⟨m,s⟩ | ⟨m,u⟩
  ·exact l.trans m.symm
  ·subst hp;rcases hb g d with a | v
   ·exact o5 (h.sep r k q o g u n f a) m
   ·have:=Own.aaE (h.own r q u) f;omega
  ·subst s;rcases hb g f with a | v
   ·exact o5 (h.sep j k p o g t n d a) l
   ·have:=Own.aaE (h.own j p t) d;omega
  ·exact h.sep j r p q g t u d f
theorem St.freeze {F:aA}{L:Loc}{w:World}(h:St F L w) {g:Nat}{o:Obj}(c:w.heap[g]?=some o) (d:¬L.owns g) :
  St (fun b=>if b=g then some o else F b) L w:=by
 refine⟨fun b p e=>?_,h.own,fun k p b e hb=>?_,h.sep,tU.mono ?_ h.glob⟩
 ·split at e
  ·rename_i a;subst a;injection e with e;subst e;exact c
  ·exact h.frz b p e
 ·split
  ·rename_i a;subst a;exact o5 ⟨k,p,e,hb⟩ d
  ·exact h.off k p b e hb
 ·intro b p e;simp only[];split
  ·rename_i a;subst a;rw[<-h.frz b p e,c]
  ·exact e
theorem aA.aaI {F:aA}{w:World}{L:Loc}(h:St F L w) {g:Nat}{o:Obj}(c:w.heap[g]?=some o):F.le (fun b=>if b=g then some o else F b):=by
 intro b p e;simp only[];split
 ·rename_i a;subst a;rw[<-h.frz b p e,c]
 ·exact e
theorem Step.refl (F:aA) (L:Loc) (w:World):Step F L w F L w :=
 ⟨aA.le_refl F,rfl,rfl,rfl,abh _,fun _ _ _=>rfl,fun _ h=>.inl h,fun _ h=>.inl h⟩
theorem Step.trans {F F' F'':aA}{L L' L'':Loc}{w w' a:World}(h:Step F L w F' L' w') (k:Step F' L' w' F'' L'' a):Step F L w F'' L'' a:=by
 refine⟨aA.le_trans h.le k.le,k.os.trans h.os,k.tape.trans h.tape,k.output.trans h.output,abN h.size k.size,fun b hb d=>?_,fun b hb=>?_,fun b hb=>?_⟩
 ·rw[k.same b (Nat.lt_of_lt_of_le hb h.size) (fun c=>by rcases h.own b c with c | c;exact d c;omega)];exact h.same b hb d
 ·rcases k.frz b hb with h1 | h1 | h1
  ·exact h.frz b h1
  ·exact .inr (h.own b h1)
  ·exact .inr (.inr (abN h.size h1))
 ·rcases k.own b hb with h1 | h1
  ·exact h.own b h1
  ·exact .inr (abN h.size h1)
theorem Step.mk' {F F':aA}{L L':Loc}{w w':World}(le:F.le F') (a:w.grownBy w' none) (frz:∀b,F' b≠none->F b≠none\/L.owns b\/w.heap.size<=b)
  (own:∀b,L'.owns b->L.owns b\/w.heap.size<=b):Step F L w F' L' w' :=
 ⟨le,a.os,a.tape,a.output,a.size,fun b hb _=>a.block b hb (by simp),frz,own⟩
theorem Loc.aaA {L:Loc}{k:Nat}{o:Own}{b:Nat}(h:(L.set k o).owns b):o.blk=some b\/L.owns b:=by
 obtain⟨j,p,e,hb⟩:=h;rw[Loc.aap] at e;split at e
 ·injection e with e;subst e;exact .inl hb
 ·exact .inr ⟨j,p,e,hb⟩
theorem Loc.aaJ {L:Loc}{k b:Nat}(h:(L.del k).owns b):L.owns b:=by
 obtain⟨j,p,e,hb⟩:=h;rw[Loc.aau] at e;split at e
 ·cases e
 ·exact⟨j,p,e,hb⟩
theorem Loc.aaM (L:Loc) (k:Nat):L.part (L.del k):=by
 intro j o e;rw[Loc.aau] at e;split at e
 ·cases e
 ·exact e
theorem dY.mono {F G:aA}(h:F.le G) {a:Option Addr}{j:Nat}{cs:List Value}(c:dY F a j cs):dY G a j cs:=by
 obtain⟨f,b,t,fr,e,k,d,l⟩:=c;exact⟨f,b,t,fr,e,h _ _ k,d,l⟩
theorem dI {b o n:Nat}:(⟨b,o,none⟩:Addr).add n=⟨b,o+n,none⟩:=by
 unfold Addr.add;split<;>simp_all
theorem dY.cell {F:aA}{L:Loc}{w:World}(h:St F L w) {a:Option Addr}{j:Nat}{cs:List Value}(c:dY F a j cs) :
  ∃d,a=some d/\d.spot=none/\∀i v,cs[i]?=some v->w.cell? (d.add (j+i))=some v:=by
 obtain⟨d,n,t,fr,e,l,f,m⟩:=c;refine⟨d,e,f,fun i v k=>?_⟩;obtain⟨b,o,p⟩:=d;simp only at f;subst f;rw[dI];have:=h.frz b _ l;simp only[World.cell?,this];simpa[Nat.add_assoc] using m i v k
def bQ:Operand->Option X
 | .tmp t=>some (.t t)
 | .const v=>some (.c v)
 | .func f=>some (.fn f)
 | .global _=>none
def gP:List Operand->Option (List X)
 | []=>some []
 | o::l=>match bQ o,gP l with
  | some x,some xs=>some (x::xs)
  | _,_=>none
def tZ:Option Operand->Option (Option X)
 | none=>some none
 | some o=>match bQ o with | some x=>some (some x) | none=>none
def fG:TypeDesc->Bool
 | .struct _ | .array _ _=>true
 | _=>false
def UN (i:TypeInfo):Option (List Value):=match i.zero with | some z=>some z.cells.toList | none=>none
def nZ (P:Program) (b:Array Field):List (Nat×Operand)->Option (List (Nat×Nat×X))
 | []=>some []
 | (i,o)::l=>match b[i]?,bQ o,nZ P b l with
  | some f,some x,some ps=>match P.info? f.type with
   | some j=>some ((f.offset,j.size,x)::ps)
   | none=>none
  | _,_,_=>none
def AZ:Operand->Option eI
 | .global g=>match xE g with | some _=>some (.gload g) | none=>none
 | _=>none
def pu (P:Program):List Field->Nat->Option (List Bool)
 | [],_=>some []
 | f::fs,k=>match Nat.beq f.offset k,decide (f.name="_"),P.underlying f.type with
  | true,false,some (.int _)=>match pu P fs (k+1) with | some ks=>some (true::ks) | none=>none
  | true,false,some .bool=>match pu P fs (k+1) with | some ks=>some (false::ks) | none=>none
  | _,_,_=>none
def xZ:X->Bool
 | .c .nilIface=>true
 | _=>false
def iH (P:Program) (own:Bool) (o:Op):Option eI :=
 match o with
 | .move x | .assign x=>match bQ x with | some x=>some (.mov x) | none=>none
 | .pick c a b=>match bQ c,bQ a,bQ b with | some c,some a,some b=>some (.pick c a b) | _,_,_=>none
 | .box t x=>match bQ x,decide (t=0) with | some x,false=>some (match own with | true=>.boxF t x | false=>.box t x) | _,_=>none
 | .alloc t=>match P.info? t,decide (t=0) with
  | some i,false=>match UN i with | some z=>some (.alloc t z) | none=>none
  | _,_=>none
 | .buildSlice t n ps=>match P.underlying t,gP (ps.toList.map (·.2)) with
  | some (.slice e),some xs=>match P.info? e with
   | some i=>match decide (ps.toList.map (·.1)=List.range n),decide (n*i.size<=2 ^ 24/\n<=2 ^ 24),i.zero with
    | true,true,some _=>some (match own with | true=>.mkR e n i.size xs | false=>.mkF e n i.size xs)
    | _,_,_=>none
   | none=>none
  | _,_=>none
 | .build t ps=>match P.underlying t,P.info? t with
  | some (.struct fs),some i=>match UN i,nZ P fs ps.toList with
   | some z,some l=>match fs.toList.all (fun f=>(P.info? f.type).isSome),l.all (fun p=>Nat.ble (p.1+p.2.1) z.length) with
    | true,true=>some (.build z l)
    | _,_=>none
   | _,_=>none
  | _,_=>none
 | .lookup t x i ok=>match N0 with
  | true=>none
  | false=>match P.underlying t,bQ x,bQ i with
   | some (.map key e),some x,some i=>match P.underlying key,P.info? e with
    | some (.int .i64),some j=>match j.zero with
     | some z=>some (.mlook false ok z x i)
     | none=>none
    | some .string,some j=>match j.zero with
     | some z=>some (.mlook true ok z x i)
     | none=>none
    | _,_=>none
   | _,_,_=>none
 | .makeMap _ none=>some .mkmap
 | .mapUpdate t x i v | .insert t x i v=>match P.underlying t,bQ x,bQ i,bQ v with
  | some (.map key _),some x,some i,some v=>match P.underlying key with
   | some (.int .i64)=>some (.mupd false x i v)
   | some .string=>some (.mupd true x i v)
   | _=>none
  | _,_,_,_=>none
 | .range t x=>match P.underlying t,bQ x with
  | some (.map _ _),some x=>some (.mrange x)
  | _,_=>none
 | .next x false=>match bQ x with | some x=>some (.mnext x) | none=>none
 | .entry x=>match bQ x with | some x=>some (.mentry x) | none=>none
 | .load t a=>match P.underlying t,P.info? t,bQ a with
  | some d,some i,some x=>some (match fG d with | true=>.load true i.size x | false=>.load false 1 x)
  | some (.map _ _),some _,none=>AZ a
  | some (.interface _),some _,none=>match AZ a with | some s=>some s | none=>some .dead
  | some _,some _,none=>some .dead
  | _,_,_=>none
 | .store t a x=>match P.info? t,bQ a,bQ x with
  | some i,some a,some x=>match decide (i.size=0) with | true=>none | false=>some (.store i.size a x)
  | _,_,_=>none
 | .nilCheck x=>match bQ x,Ru P with | some x,true=>some (.nilck x) | _,_=>none
 | .binOp op t x y _=>match P.underlying t,bQ x,bQ y with
  | some d,some x,some y=>match d,op with
   | .bool,.eql=>some (.eqB false x y)
   | .bool,.neq=>some (.eqB true x y)
   | .slice _,.eql=>some (.eqS false x y)
   | .slice _,.neq=>some (.eqS true x y)
   | .interface _,.eql=>match xZ y with | true=>some (.eqN false x) | false=>none
   | .interface _,.neq=>match xZ y with | true=>some (.eqN true x) | false=>none
   | .struct fs,.eql=>match pu P fs.toList 0,P.stoodInHeld t,P.eqGuardType P.depth t with | some ks,false,false=>some (.eqA false ks x y) | _,_,_=>none
   | .struct fs,.neq=>match pu P fs.toList 0,P.stoodInHeld t,P.eqGuardType P.depth t with | some ks,false,false=>some (.eqA true ks x y) | _,_,_=>none
   | .int _,_ | .string,_=>some (.bin op x y)
   | _,_=>none
  | _,_,_=>none
 | .unOp op _ x=>match bQ x with | some x=>some (.un op x) | none=>none
 | .convert s t x=>match P.underlying s,P.underlying t,bQ x with
  | some (.int _),some (.int k),some x=>some (.conv k x)
  | _,_,_=>none
 | .makeFunc (.func f) fi ca=>match gP fi.toList,gP ca.toList with
  | some fi,some ca=>some (.mkfn f fi ca)
  | _,_=>none
 | .makeFunc (.methodOf t nm) fi ca=>match fi.toList,ca.toList with
  | [],[]=>some (.mov (.c (.func (.methodOf t nm) #[] #[])))
  | _,_=>none
 | .makeSlice t l c=>match P.underlying t,bQ l,bQ c with
  | some (.slice e),some l,some c=>match P.info? e with
   | some i=>match i.zero with
    | some z=>match decide (z.cells.size=i.size),decide (0<i.size) with
     | true,true=>some (.makeS e i.size i.bytes z.cells.toList l c)
     | _,_=>none
    | none=>none
   | none=>none
  | _,_,_=>none
 | .slice t x lo hi none=>match P.underlying t,bQ x,tZ lo,tZ hi with
  | some (.slice e),some x,some lo,some hi=>match P.info? e with
   | some i=>some (.slc i.size x lo hi)
   | none=>none
  | _,_,_,_=>none
 | .fieldAddr t x f=>match P.underlying t,bQ x with
  | some (.struct fs),some x=>match fs[f]? with
   | some f=>match P.info? f.type with
    | some i=>match decide (i.size=0) with | true=>none | false=>some (.fieldA f.offset x)
    | none=>none
   | none=>none
  | _,_=>none
 | .indexAddr t x i=>match P.underlying t,bQ x,bQ i with
  | some (.slice e),some x,some i=>match P.info? e with
   | some j=>some (.idxA j.size x i)
   | none=>none
  | _,_,_=>none
 | .makeInterface t x=>match P.underlying t,bQ x with
  | some (.interface _),_=>none
  | some _,some x=>some (.mkif t x)
  | _,_=>none
 | .typeAssert x _ t true=>match P.underlying t,P.info? t,bQ x with
  | some (.interface _),_,_=>none
  | some _,some i,some x=>match i.zero with | some z=>some (.tas t z x) | none=>none
  | _,_,_=>none
 | .panic x=>match bQ x with | some x=>some (.pan x) | none=>none
 | .extract x i=>match bQ x with | some x=>some (.extr x i) | none=>none
 | .call c=>match gP c.args.toList with
  | none=>none
  | some args=>match c.callee with
   | .value (.func f)=>match P.funcs[f]? with
    | some fn=>match fn.name == "runtime.NumGoroutine",fn.body.isSome with
     | false,true=>some (.call f args)
     | _,_=>none
    | none=>none
   | .value f=>match bQ f with | some x=>some (.callV x args) | none=>none
   | .invoke (.tmp n) nm=>some (.callV (.mt nm n) args)
   | .invoke _ _=>none
   | .builtin b=>match b,args,c.argTypes.toList with
    | .len,[x],[t]=>match P.underlying t with
     | some (.slice _)=>some (.len x)
     | _=>none
    | .max,args,_=>some (.mm true args)
    | .min,args,_=>some (.mm false args)
    | .append,[s,x],[t,t']=>match P.underlying t,P.underlying t' with
     | some (.slice e),some (.slice _)=>match P.info? e with
      | some i=>match i.zero with
       | some z=>match decide (t=t'),decide (z.cells.size=i.size),decide (0<i.size) with
        | true,true,true=>some (.app e i.size i.bytes z.cells.toList s x)
        | _,_,_=>none
       | none=>none
      | none=>none
     | _,_=>none
    | _,_,_=>none
 | _=>none
structure aC (L:Loc) (ρ:Env) (a:Act):Prop where
 eq:∀t,a.tmps.getD t undef=conc L (ρ t)
 own:∀t k off,ρ t=.own k off->∃g ty cs,L.get k=some (.box g ty cs)
 el:∀t ad j,ρ t=.el ad j->ad≠none
theorem aI {y:Operand}{x:X}(h:bQ y=some x) {L:Loc}{ρ:Env}{a:Act}(he:aC L ρ a):a.eval y=val L ρ x:=by
 cases y<;>simp only[bQ,aa1,reduceCtorEq] at h<;>subst h
 ·exact he.eq _
 ·rfl
 ·rfl
theorem qz {y:Operand}{x:X}(h:bQ y=some x) {L:Loc}{ρ:Env}{a:Act}(he:aC L ρ a) {k off:Nat}(e:ev ρ x=.own k off):∃g ty cs,L.get k=some (.box g ty cs):=by
 cases y<;>simp only[bQ,aa1,reduceCtorEq] at h<;>subst h
 ·exact he.own _ _ _ e
 ·cases e
 ·cases e
theorem rE {y:Operand}{x:X}(h:bQ y=some x) {L:Loc}{ρ:Env}{a:Act}(he:aC L ρ a) {b:Option Addr}{j:Nat}(e:ev ρ x=.el b j):b≠none:=by
 cases y<;>simp only[bQ,aa1,reduceCtorEq] at h<;>subst h
 ·exact he.el _ _ _ e
 ·cases e
 ·cases e
theorem gS:∀{b:List Operand}{xs:List X},gP b=some xs->∀{L:Loc}{ρ:Env}{a:Act},aC L ρ a->b.map a.eval=bE L ρ xs:=by
 intro b
 induction b with
 | nil=>intro xs h L ρ a he;simp only[gP,aa1] at h;subst h;rfl
 | cons y b d =>
  intro xs h L ρ a he;simp only[gP] at h;split at h
  ·rename_i x c h1 h2;injection h with h
   subst h;simp only[abe,bE,aI h1 he,d h2 he]
  ·cases h
def bK (F:aA) (L:Loc) (w:World) (a:Act) (K:dQ) (a':Act) (w':World):Prop :=
 ∃F' L' ρ',St F' L' w'/\aC L' ρ' a'/\a'.tmps.size=a.tmps.size/\a'.defers=a.defers/\Step F L w F' L' w'/\K F' L' ρ'
theorem Kb (a:Act) (d:Option Nat) (v:Value) (hd:∀k,d=some k->k<a.tmps.size) (t:Nat) :
  (a.put d v).tmps.getD t undef=match d with | some k=>if t=k then v else a.tmps.getD t undef | none=>a.tmps.getD t undef:=by
 cases d with
 | none=>rfl
 | some k =>
  have:=hd k rfl;simp only[Act.put,abp,Array.getElem?_setIfInBounds]
  by_cases h:t=k
  ·subst h;simp[this]
  ·rw[fo (by omega),fo h]
theorem put_eq (d:Option Nat) (x:SV) (ρ:Env) (t:Nat):put d x ρ t=match d with | some k=>if t=k then x else ρ t | none=>ρ t:=by
 cases d with
 | none=>rfl
 | some k =>
  simp only[put];cases h:Nat.beq t k with
  | true=>have:=aa5 h;simp[this]
  | false=>have:=gO h;simp[this]
theorem aC.put {L L':Loc}{ρ:Env}{a:Act}(he:aC L ρ a) {d:Option Nat}{v:Value}{x:SV}(hd:∀k,d=some k->k<a.tmps.size)
  (n:conc L' x=v) (r:∀k off,x=.own k off->∃g ty cs,L'.get k=some (.box g ty cs)) (p:∀f j,x=.el f j->f≠none)
  (m:∀k g ty cs,L.get k=some (.box g ty cs)->∃cs',L'.get k=some (.box g ty cs')):aC L' (put d x ρ) (a.put d v):=by
 have h:∀t,a.tmps.getD t undef=conc L' (ρ t):=by
  intro t;rw[he.eq t];cases e:ρ t with
  | v x=>rfl
  | el a j=>rfl
  | own k off =>
   obtain⟨g,ty,cs,l⟩:=he.own t k off e;obtain⟨cs',c⟩:=m k g ty cs l;simp only[conc,l,c]
 refine⟨fun t=>?_,fun t k off e=>?_,fun t f j e=>?_⟩
 ·rw[Kb a d v hd,put_eq];cases d with
  | none=>exact h t
  | some k =>
   simp only[];split
   ·exact n.symm
   ·exact h t
 ·rw[put_eq] at e;have b:∀k off,ρ t=.own k off->∃g ty cs,L'.get k=some (.box g ty cs):=by
   intro k off e;obtain⟨g,ty,cs,l⟩:=he.own t k off e;obtain⟨cs',c⟩:=m k g ty cs l;exact⟨g,ty,cs',c⟩
  cases d with
  | none=>exact b k off e
  | some q =>
   simp only[] at e;split at e
   ·exact r k off e
   ·exact b k off e
 ·rw[put_eq] at e;cases d with
  | none=>exact he.el t f j e
  | some q =>
   simp only[] at e;split at e
   ·exact p f j e
   ·exact he.el t f j e
theorem jV (a:Act) (d:Option Nat) (v:Value):(a.put d v).tmps.size=a.tmps.size:=by cases d<;>simp[Act.put]
theorem gT (a:Act) (d:Option Nat) (v:Value):(a.put d v).defers=a.defers:=by cases d<;>rfl
section
variable {P:Program}{F:aA}{L:Loc}{ρ:Env}{a:Act}{w:World}{K:dQ}{o:Oper}{Q:Exit->Act->World->Prop}
theorem cj (c:St F L w) (he:aC L ρ a) (hd:∀k,o.dst=some k->k<a.tmps.size) {v:Value}{x:SV}
  (l:(execOp a.eval o).run P w=.ok (.value v) w) (h:conc L x=v) (m:∀k off,x=.own k off->∃g ty cs,L.get k=some (.box g ty cs)) (d:∀b j,x=.el b j->b≠none)
  (f:K F L (put o.dst x ρ)):o.wp P a w (bK F L w a K) Q:=by
 unfold Oper.wp;rw[l];exact⟨F,L,_,c,he.put hd h m d (fun k g ty cs e=>⟨cs,e⟩),jV _ _ _,gT _ _ _,Step.refl _ _ _,f⟩
theorem jW (he:aC L ρ a) (hd:∀k,o.dst=some k->k<a.tmps.size) {v:Value}{x:SV}{w':World}{F':aA}{L':Loc}
  (f:(execOp a.eval o).run P w=.ok (.value v) w') (m:St F' L' w') (b:Step F L w F' L' w') (e:conc L' x=v) (n:∀k off,x=.own k off->∃g ty cs,L'.get k=some (.box g ty cs)) (h:∀c j,x=.el c j->c≠none)
  (d:∀k g ty cs,L.get k=some (.box g ty cs)->∃cs',L'.get k=some (.box g ty cs')) (l:K F' L' (put o.dst x ρ)):o.wp P a w (bK F L w a K) Q:=by
 unfold Oper.wp;rw[f];exact⟨F',L',_,m,he.put hd e n h d,jV _ _ _,gT _ _ _,b,l⟩
theorem DG (he:aC L ρ a) (hd:∀k,o.dst=some k->k<a.tmps.size) {w':World}{F':aA}{L':Loc}
  (f:(execOp a.eval o).run P w=.ok .skip w') (d:St F' L' w') (b:Step F L w F' L' w')
  (c:∀k g ty cs,L.get k=some (.box g ty cs)->∃cs',L'.get k=some (.box g ty cs')) (h:K F' L' (put o.dst (.v undef) ρ)):o.wp P a w (bK F L w a K) Q:=by
 unfold Oper.wp;rw[f];exact⟨F',L',_,d,he.put hd rfl (fun _ _ e=>by cases e) (fun _ _ e=>by cases e) c,jV _ _ _,gT _ _ _,b,h⟩
end
section
variable {P:Program}{F:aA}{L:Loc}{ρ:Env}{a:Act}{w:World}{K:dQ}{o:Oper}{Q:Exit->Act->World->Prop}
theorem cK {v:Value}{L:Loc}:∀k off,SV.v v=.own k off->∃g ty cs,L.get k=some (.box g ty cs):=fun _ _ e=>by cases e
theorem fD {v:Value}:∀b j,SV.v v=.el b j->b≠none:=fun _ _ e=>by cases e
theorem uc (L:Loc):∀k g ty cs,L.get k=some (.box g ty cs)->∃cs',L.get k=some (.box g ty cs'):=fun k g ty cs e=>⟨cs,e⟩
theorem dh {x:X}{v:Value}{L:Loc}{ρ:Env}(h:ev ρ x=.v v):val L ρ x=v:=by simp only[val,h,conc]
theorem Kc {y:Operand}{x:X}(d:St F L w) (he:aC L ρ a) (hd:∀k,o.dst=some k->k<a.tmps.size)
  (b:o.op=.move y\/o.op=.assign y) (c:bQ y=some x) (f:evalOp P (.mov x) o.dst F L ρ K):o.wp P a w (bK F L w a K) Q:=by
 refine cj d he hd (v:=a.eval y) (x:=ev ρ x) ?_ (aI c he).symm (fun k off e=>qz c he e) (fun h j e=>rE c he e) f;rcases b with b | b<;>simp only[execOp,b]<;>rfl
theorem N9 {c y z:Operand}{q l f:X}(p:St F L w) (he:aC L ρ a) (hd:∀k,o.dst=some k->k<a.tmps.size)
  (r:o.op=.pick c y z) (t:bQ c=some q) (d:bQ y=some l) (m:bQ z=some f) (b:evalOp P (.pick q l f) o.dst F L ρ K):o.wp P a w (bK F L w a K) Q:=by
 have n:=aI t he;simp only[evalOp,aM] at b;split at b
 ·rename_i h;refine cj p he hd (v:=a.eval y) (x:=ev ρ l) ?_ (aI d he).symm (fun k off e=>qz d he e) (fun s j e=>rE d he e) b;simp only[execOp,r,n,val,h,conc];simp[asBool]
 ·rename_i h;refine cj p he hd (v:=a.eval z) (x:=ev ρ f) ?_ (aI m he).symm (fun k off e=>qz m he e) (fun s j e=>rE m he e) b;simp only[execOp,r,n,val,h,conc];simp[asBool]
 ·exact b.elim
theorem iI (w:World) (o:Obj):(w.alloc o).heap[w.heap.size]?=some o:=heap_alloc_new w o
theorem ud {F:aA}{L:Loc}{w:World}(c:St F L w):F w.heap.size=none/\¬L.owns w.heap.size:=by
 refine⟨?_,fun h=>?_⟩
 ·cases h:F w.heap.size with
  | none=>rfl
  | some _=>have:=c.aaK (b:=w.heap.size) (by rw[h];simp);omega
 ·have:=c.aaN h;omega
theorem St.alloc (c:St F L w) (o:Obj):St F L (w.alloc o):=c.keep fun b hb=>Below.heap_alloc w o b hb
theorem mE (n:St F L w) {k:Nat}(m:L.get k=none) {ob:Obj}{e:Own}(hb:e.blk=some w.heap.size) (d:e.ok (w.alloc ob)) :
  St F (L.set k e) (w.alloc ob)/\Step F L w F (L.set k e) (w.alloc ob) /\
   (∀j g ty xs,L.get j=some (.box g ty xs)->∃cs',(L.set k e).get j=some (.box g ty cs')):=by
 obtain⟨h1,h2⟩:=ud n;refine⟨(n.alloc _).put m d fun g c=>?_,?_,fun j g ty xs l=>?_⟩
 ·rw[hb] at c;injection c with c;subst c;exact⟨h1,h2⟩
 ·refine Step.mk' (aA.le_refl F) (World.grownBy_alloc w _ none) (fun b hb=>.inl hb) fun b p=>?_;rcases Loc.aaA p with h | h
  ·rw[hb] at h;injection h with h;exact .inr (by omega)
  ·exact .inl h
 ·rw[Loc.aap];split
  ·rename_i f;subst f;rw[m] at l;cases l
  ·exact⟨xs,l⟩
theorem kJ (d:St F L w) {k:Nat}(c:L.get k=none) {cs:Array Value}{t:TypeId}{e:Own}(hb:e.blk=some w.heap.size) (b:e.ok (w.alloc (.cells cs t))) :
  St F (L.set k e) (w.alloc (.cells cs t))/\Step F L w F (L.set k e) (w.alloc (.cells cs t)) /\
   (∀j g ty xs,L.get j=some (.box g ty xs)->∃cs',(L.set k e).get j=some (.box g ty cs')):=mE d c hb b
theorem SJ {y:Operand}{x:X}{t:TypeId}(l:St F L w) (he:aC L ρ a) (hd:∀k,o.dst=some k->k<a.tmps.size)
  (m:o.op=.box t y) (j:bQ y=some x) (d:t≠0) (c:evalOp P (.box t x) o.dst F L ρ K):o.wp P a w (bK F L w a K) Q:=by
 simp only[evalOp,aM] at c;split at c
 case h_2=>exact c.elim
 rename_i _ k f;split at c
 case h_2=>exact c.elim
 rename_i _ h;have c:=c w.heap.size;have b:(Value.cells (a.eval y)).toList=aO (val L ρ x):=by
  rw[aI j he];cases val L ρ x<;>rfl
 obtain⟨h1,h2,h3⟩:=kJ l h (cs:=(a.eval y).cells) (t:=t) (e:=.box w.heap.size t (aO (val L ρ x))) rfl
  (by show _=_;rw[iI,jG d,<-b])
 refine jW he hd (v:=.pointer (some ⟨w.heap.size,0,none⟩)) (x:=.own k 0) ?_ h1 h2 ?_ ?_ (fun _ _ e=>by cases e) h3 c
 ·simp[execOp,m,Instr.box,newVar,newRow]
 ·simp only[conc,Loc.aap,abB]
 ·rintro n off e;injection e with e1 e2
  subst e1;exact⟨_,_,_,by rw[Loc.aap,eu rfl]⟩
theorem Ke {t:TypeId}{i:TypeInfo}{zs:List Value}(m:St F L w) (he:aC L ρ a) (hd:∀k,o.dst=some k->k<a.tmps.size)
  (l:o.op=.alloc t) (hi:P.info? t=some i) (c:UN i=some zs) (d:t≠0) (b:evalOp P (.alloc t zs) o.dst F L ρ K):o.wp P a w (bK F L w a K) Q:=by
 simp only[evalOp,aM] at b;split at b
 case h_2=>exact b.elim
 rename_i _ k h;split at b
 case h_2=>exact b.elim
 rename_i _ j;have b:=b w.heap.size;unfold UN at c;split at c
 case h_2=>cases c
 rename_i z f;injection c with c
 obtain⟨h1,h2,h3⟩:=kJ m j (cs:=z.cells) (t:=t) (e:=.box w.heap.size t zs) rfl
  (by show _=_;rw[iI,jG d,<-c])
 refine jW he hd (v:=.pointer (some ⟨w.heap.size,0,none⟩)) (x:=.own k 0) ?_ h1 h2 ?_ ?_ (fun _ _ e=>by cases e) h3 b
 ·simp[execOp,l,Instr.alloc,zeroValue,typeInfo,hi,f,newVar,newRow]
 ·simp only[conc,Loc.aap,abB]
 ·rintro n off e;injection e with e1 e2
  subst e1;exact⟨_,_,_,by rw[Loc.aap,eu rfl]⟩
theorem xH {t:TypeId}{l:List Value}{n:Nat}(h:jA t l n=true):t≠0:=by
 rintro rfl;simp[jA] at h
theorem Cn {t:TypeId}{l:List Value}{n:Nat}(h:jA t l n=true):iD l n=true:=by
 unfold jA at h;split at h
 ·cases h
 ·exact h
theorem py {t:TypeId}{l:List Value}{n:Nat}(h:t≠0) (b:iD l n=true):jA t l n=true:=by
 unfold jA;split
 ·rename_i e;exact o5 (aa5 e) h
 ·exact b
theorem jY:∀{l:List Value}{n:Nat},iD l n=true->l.length=n
 | [],0,_=>rfl
 | _::l,n+1,h=>by simp only[iD] at h;simp[jY h]
 | [],_+1,h=>by simp[iD] at h
 | _::_,0,h=>by simp[iD] at h
theorem pz {cs b:List Value}{off:Nat}(h:off+b.length<=cs.length) (n:Nat) :
  (bY cs off b)[n]?=if n<off then cs[n]? else if n<off+b.length then b[n-off]? else cs[n]?:=by
 unfold bY;have c:(cs.take off).length=off:=by simp;omega
 by_cases h1:n<off
 ·rw[eu h1,abZ,abV (by omega),List.getElem?_take_of_lt h1]
 ·rw[fo h1]
  by_cases h2:n<off+b.length
  ·rw[eu h2,abZ,abW (by omega),abV (by omega),c]
  ·rw[fo h2,abZ,abW (by omega),abW (by omega),c,abS];congr 1;omega
theorem Oa (b:List Value):∀(off j:Nat) (cells:Array Value),off+j+b.length<=cells.size ->
  ((b.zipIdx j).foldl (fun cs (c,j)=>cs.setIfInBounds (off+j) c) cells).toList=bY cells.toList (off+j) b:=by
 induction b with
 | nil=>intro off j cells h;simp[bY]
 | cons v b d =>
  intro off j cells h;simp only[List.zipIdx_cons,List.foldl_cons,abo] at h ⊢;have:=d off (j+1) (cells.setIfInBounds (off+j) v) (by simp;omega);rw[this];apply ab5;intro n;rw[pz (by simp;omega),pz (by simp;omega)];simp only[Array.toList_setIfInBounds,abo]
  by_cases h2:n=off+j
  ·subst h2;rw[eu (by omega),fo (by omega),eu (by omega),ace (by simp;omega)];simp
  ·by_cases h1:n<off+j
   ·rw[eu (by omega),eu h1,ab8 (by omega)]
   ·by_cases h3:n<off+(j+1)+b.length
    ·rw[fo (by omega),eu h3,fo h1,eu (by omega),show n-(off+j)=(n-(off+(j+1)))+1 by omega,abv]
    ·rw[fo (by omega),fo h3,fo h1,fo (by omega),ab8 (by omega)]
theorem DH (b:Array Value) (off:Nat) (cells:Array Value) (h:off+b.size<=cells.size) :
  (b.zipIdx.foldl (fun cs (x:Value×Nat)=>cs.setIfInBounds (off+x.2) x.1) cells).toList=bY cells.toList off b.toList:=by
 have:=Oa b.toList off 0 cells (by simpa using h);rw[Nat.add_zero] at this;rw[<-this];congr 1;rw[<-Array.foldl_toList,Array.toList_zipIdx]
theorem kV (cs:List Value) (off:Nat) (b:List Value) (h:off+b.length<=cs.length):(bY cs off b).length=cs.length:=by
 simp[bY];omega
theorem n8 (v:Value):aO v=v.cells.toList:=by cases v<;>rfl
theorem FE (sz n:Nat):∀(c:List Value) (k:Nat) (cells:Array Value),cells.size=n*sz->k+c.length=n->(∀v∈c,v.cells.size=sz) ->
  ∃out,Instr.fill (fun i=>some (i*sz,sz)) cells ((List.range' k c.length).zip c)=some out /\
   out.toList=cells.toList.take (k*sz)++(c.map (fun v=>v.cells.toList)).flatten:=by
 intro c
 induction c with
 | nil =>
  intro k cells h1 h2 h3;refine⟨cells,by simp[Instr.fill],?_⟩;simp at h2 ⊢;subst h2;rw[abA (by simp;omega)]
 | cons v c m =>
  intro k cells h1 h2 h3;have e:=h3 v (by simp);have f:k*sz+sz<=n*sz:=by
   rw[<-Nat.succ_mul];exact Nat.mul_le_mul_right _ (by simp at h2;omega)
  simp only[abo,List.range'_succ,List.zip_cons_cons,Instr.fill];rw[fo (by simp[e];omega)];have b:=DH v.cells (k*sz) cells (by omega);have d:(v.cells.zipIdx.foldl (fun cs (x:Value×Nat)=>cs.setIfInBounds (k*sz+x.2) x.1) cells).size=n*sz:=by
   rw[<-Array.length_toList,b,kV _ _ _ (by simp;omega)];simpa using h1
  obtain⟨out,p,h⟩:=m (k+1) _ d (by simp at h2;omega) (fun u j=>h3 u (by simp[j]));refine⟨out,p,?_⟩;rw[h,b];simp only[bY,abe,List.flatten_cons,<-abZ];congr 1;rw[Nat.succ_mul];have l:v.cells.toList.length=sz:=by simpa using e
  apply ab5;intro i
  by_cases r:i<k*sz
  ·rw[List.getElem?_take_of_lt (by omega),abZ,abV (by simp;omega),abV (by simp;omega)]
  ·by_cases q:i<k*sz+sz
   ·rw[List.getElem?_take_of_lt (by omega),abZ,abW (by simp;omega),abV (by simp;omega),abW (by simp;omega)]
   ·rw[abE (by simp;omega),abE (by simp;omega)]
end
section
variable {P:Program}{F:aA}{L:Loc}{ρ:Env}{a:Act}{w:World}{K:dQ}{o:Oper}{Q:Exit->Act->World->Prop}
theorem x5 (L:Loc) (ρ:Env):∀xs:List X,cellsOf L ρ xs=((bE L ρ xs).map fun v=>v.cells.toList).flatten
 | []=>rfl
 | x::xs=>by simp only[cellsOf,bE,abe,List.flatten_cons,x5 L ρ xs,n8]
theorem A7 {L:Loc}{ρ:Env}{sz:Nat}:∀{xs:List X},gC L ρ sz xs=true->∀v∈bE L ρ xs,v.cells.size=sz
 | [],_,v,b=>by cases b
 | x::xs,h,v,b=>by
  simp only[gC] at h;split at h
  ·rename_i h1;simp only[bE,abd] at b;rcases b with rfl | b
   ·have:=jY h1;rw[n8] at this;simpa using this
   ·exact A7 h v b
  ·cases h
theorem lT (L:Loc) (ρ:Env):∀xs:List X,(bE L ρ xs).length=xs.length
 | []=>rfl
 | _::xs=>by simp[bE,lT L ρ xs]
theorem qA {L:Loc}{ρ:Env}{sz:Nat}:∀{xs:List X},gC L ρ sz xs=true->(cellsOf L ρ xs).length=xs.length*sz
 | [],_=>by simp[cellsOf]
 | x::xs,h=>by
  simp only[gC] at h;split at h
  ·rename_i h1;have:=jY h1;simp only[cellsOf,abP,this,qA h,abo,Nat.succ_mul];omega
  ·cases h
theorem FG {ps:List (Nat×Operand)}{f:Operand->Value}{n:Nat}(h:ps.map (·.1)=List.range n) :
  ps.map (fun p=>(p.1,f p.2))=(List.range' 0 ps.length).zip ((ps.map (·.2)).map f):=by
 have b:ps.length=n:=by have:=vv List.length h;simpa using this
 rw[b,<-List.range_eq_range',<-h]
 clear h b
 induction ps with
 | nil=>rfl
 | cons p ps c=>simp[c]
theorem qB {t e n:Nat}{ps:Array (Nat×Operand)}{i:TypeInfo}{z:Value}{xs:List X}(s:P.underlying t=some (.slice e)) (hi:P.info? e=some i) (r:i.zero=some z)
  (v:gP (ps.toList.map (·.2))=some xs) (m:ps.toList.map (·.1)=List.range n) (hb:n*i.size<=2 ^ 24) (u:gC L ρ i.size xs=true) (he:aC L ρ a) :
  (Instr.buildSlice t n (ps.map fun(j,x)=>(j,a.eval x))).run P w=.ok (.slice (some ⟨w.heap.size,0,none⟩) n n) (w.alloc (.cells (cellsOf L ρ xs).toArray e))/\xs.length=n:=by
 have k:=gS v he;have d:xs.length=n:=by
  have h1:=vv List.length k;have h2:=vv List.length m;simp only[vz,lT,List.length_range] at h1 h2;omega
 have p:ps.toList.length=n:=by have:=vv List.length m;simpa using this
 have b:(ps.map fun(x:Nat×Operand)=>(x.1,a.eval x.2)).toList=(List.range' 0 (bE L ρ xs).length).zip (bE L ρ xs):=by
  rw[Array.toList_map,FG m,k,lT,d,p]
 have h:=fun(cells:Array Value) (y:cells.size=n*i.size)=>FE i.size n (bE L ρ xs) 0 cells y (by rw[lT];omega) (A7 u);refine⟨?_,d⟩;have l:∀zero:Array Value,((Array.range (n*i.size)).map (zero[· % zero.size]!)).size=n*i.size:=fun _=>by simp
 obtain⟨out,h1,h2⟩:=h ((Array.range (n*i.size)).map ((if n*i.size=0 then #[] else z.cells)[· % (if n*i.size=0 then #[] else z.cells).size]!)) (l _);have c:out=(cellsOf L ρ xs).toArray:=by
  apply Array.ext';rw[h2,x5];simp
 have q:¬(n*i.size>2 ^ 24):=by omega
 unfold Instr.buildSlice;simp only[Sem.run_bind,run_underlying s,Result.andThen_ok,sizeOf,typeInfo,hi,run_program,Sem.run_pure,fo q,zeroValue,r]
 by_cases h0:n*i.size=0
 ·simp only[h0,abB] at h1 ⊢
  try simp only[Sem.run_pure,Result.andThen_ok]
  rw[b];have f:=h1;simp only[f,c,newRow,Sem.run_bind,run_newObj,Result.andThen_ok,Sem.run_pure];rfl
 ·simp only[h0,ab6] at h1 ⊢;simp only[Sem.run_bind,hi,r,run_program,Sem.run_pure,Result.andThen_ok];rw[b];have f:=h1;simp only[f,c,newRow,Sem.run_bind,run_newObj,Result.andThen_ok,Sem.run_pure];rfl
theorem Ob {t:TypeId}{y:Operand}{x:X}(l:St F L w) (he:aC L ρ a) (hd:∀k,o.dst=some k->k<a.tmps.size)
  (p:o.op=.box t y) (n:bQ y=some x) (m:evalOp P (.boxF t x) o.dst F L ρ K):o.wp P a w (bK F L w a K) Q:=by
 simp only[evalOp] at m;have c:(a.eval y).cells=(aO (val L ρ x)).toArray:=by
  apply Array.ext';rw[aI n he];cases val L ρ x<;>rfl
 have d:=iI w (.cells (aO (val L ρ x)).toArray t);obtain⟨hf,f⟩:=ud l;have j:=(l.alloc (.cells (aO (val L ρ x)).toArray t)).freeze d f;have e:=aA.aaI (l.alloc (.cells (aO (val L ρ x)).toArray t)) d;refine jW he hd (v:=.pointer (some ⟨w.heap.size,0,none⟩)) (x:=.v (.pointer (some ⟨w.heap.size,0,none⟩))) ?_ j (Step.mk' e (World.grownBy_alloc w _ none) ?_ fun b h=>.inl h) rfl cK fD (uc L) (m w.heap.size _ e (by simp))
 ·simp[execOp,p,Instr.box,newVar,newRow,c]
 ·intro b hb
  by_cases h:b=w.heap.size
  ·exact .inr (.inr (by omega))
  ·simp only[fo h] at hb;exact .inl hb
theorem SK {t e n:Nat}{ps:Array (Nat×Operand)}{i:TypeInfo}{z:Value}{xs:List X}(p:St F L w) (he:aC L ρ a) (hd:∀k,o.dst=some k->k<a.tmps.size)
  (u:o.op=.buildSlice t n ps) (s:P.underlying t=some (.slice e)) (hi:P.info? e=some i) (hz:i.zero=some z)
  (hx:gP (ps.toList.map (·.2))=some xs) (r:ps.toList.map (·.1)=List.range n) (hb:n*i.size<=2 ^ 24) (j:evalOp P (.mkF e n i.size xs) o.dst F L ρ K):o.wp P a w (bK F L w a K) Q:=by
 simp only[evalOp,aM] at j;split at j
 case h_2=>exact j.elim
 rename_i y;obtain⟨f,q⟩:=qB (w:=w) s hi hz hx r hb y he;have c:=iI w (.cells (cellsOf L ρ xs).toArray e);obtain⟨hf,l⟩:=ud p;have m:=(p.alloc (.cells (cellsOf L ρ xs).toArray e)).freeze c l;have d:=aA.aaI (p.alloc (.cells (cellsOf L ρ xs).toArray e)) c;refine jW he hd (v:=.slice (some ⟨w.heap.size,0,none⟩) n n) (x:=.v (.slice (some ⟨w.heap.size,0,none⟩) n n)) ?_ m (Step.mk' d (World.grownBy_alloc w _ none) ?_ fun b h=>.inl h) rfl cK fD (uc L) (j w.heap.size _ d (by simp))
 ·simp only[execOp,u,Sem.run_bind,f,Result.andThen_ok,Sem.run_pure]
 ·intro b hb
  by_cases h:b=w.heap.size
  ·exact .inr (.inr (by omega))
  ·simp only[fo h] at hb;exact .inl hb
theorem lU (w:World) (cs:List Value) (e:TypeId) (n sz:Nat) (c:n<=maxLen) (b:cs.length=n*sz) :
  (w.alloc (.cells cs.toArray e)).ownsRow 0 e sz (.slice (some ⟨w.heap.size,0,none⟩) n n) n cs :=
 ⟨b,.inr ⟨w.heap.size,n,cs.toArray,rfl,abr _,iI w _,abh _,c,by simpa using b,by simp[<-b]⟩⟩
theorem SL {t e n:Nat}{ps:Array (Nat×Operand)}{i:TypeInfo}{z:Value}{xs:List X}(u:St F L w) (he:aC L ρ a) (hd:∀k,o.dst=some k->k<a.tmps.size)
  (q:o.op=.buildSlice t n ps) (p:P.underlying t=some (.slice e)) (hi:P.info? e=some i) (s:i.zero=some z)
  (r:gP (ps.toList.map (·.2))=some xs) (m:ps.toList.map (·.1)=List.range n) (hb:n*i.size<=2 ^ 24) (y:n<=2 ^ 24) (b:evalOp P (.mkR e n i.size xs) o.dst F L ρ K):o.wp P a w (bK F L w a K) Q:=by
 simp only[evalOp,aM] at b;split at b
 case h_2=>exact b.elim
 rename_i _ _ k h j;split at b
 case h_2=>exact b.elim
 rename_i _ l;obtain⟨d,c⟩:=qB (w:=w) p hi s r m hb h he;have f:=lU w (cellsOf L ρ xs) e n i.size (by simp only[maxLen];omega) (by rw[qA h,c]);obtain⟨h1,h2,h3⟩:=kJ u l (cs:=(cellsOf L ρ xs).toArray) (t:=e) (e:=.row (.slice (some ⟨w.heap.size,0,none⟩) n n) e i.size n (cellsOf L ρ xs)) rfl f;refine jW he hd (v:=.slice (some ⟨w.heap.size,0,none⟩) n n) (x:=.v (.slice (some ⟨w.heap.size,0,none⟩) n n)) ?_ h1 h2 rfl cK fD h3 (b w.heap.size);simp only[execOp,q,Sem.run_bind,d,Result.andThen_ok,Sem.run_pure]
def placeOf (P:Program) (f:Field):Nat×Nat:=(f.offset,P.cellsOf f.type)
def x7 (f:Field):Sem (Nat×Nat):=do pure (f.offset,<-sizeOf f.type)
theorem Ay {u:Array Field}:∀{ps:List (Nat×Operand)}{l:List (Nat×Nat×X)},nZ P u ps=some l->∀{cells:Array Value}{cs:List Value}(r:Array (Nat×Nat)),aC L ρ a ->
  (∀(j:Nat) (f:Field) (i:TypeInfo),u[j]?=some f->P.info? f.type=some i->r[j]?=some (f.offset,i.size)) ->
  built L ρ cells.toList l=some cs->(∀off n x,(off,n,x)∈l->off+n<=cells.size) ->
  ∃out,Instr.fill (r[·]?) cells (ps.map fun p=>(p.1,a.eval p.2))=some out/\out.toList=cs:=by
 intro ps
 induction ps with
 | nil =>
  intro l h cells cs r he k hb e;simp only[nZ,aa1] at h;subst h;simp only[built,aa1] at hb;exact⟨cells,rfl,hb⟩
 | cons p ps ih =>
  intro l h cells cs r he k hb e;obtain⟨j,y⟩:=p;simp only[nZ] at h;split at h
  case h_2=>cases h
  rename_i f x l' hf hx t;split at h
  case h_2=>cases h
  rename_i i hi;injection h with h
  subst h;simp only[built] at hb;split at hb
  case h_2=>cases hb
  rename_i b;have b:=jY b;have m:=e f.offset i.size x (by simp);have q:=aI hx he;simp only[abe,Instr.fill,k j f i hf hi];have s:(a.eval y).cells.size=i.size:=by rw[q];rw[n8] at b;simpa using b
  rw[fo (by simp[s];omega)];have c:=DH (a.eval y).cells f.offset cells (by omega);have d:(a.eval y).cells.toList=aO (val L ρ x):=by rw[q,n8]
  rw[d] at c;refine ih t r he k (cs:=cs) ?_ ?_
  ·rw[c];exact hb
  ·intro off n z v;rw[<-Array.length_toList,c,kV _ _ _ (by rw[b];simpa using m)];simpa using e off n z (by simp[v])
theorem xh (P:Program) (w:World):∀(b:List Field),(∀f:Field,f∈b->(P.info? f.type).isSome=true) ->
  (b.mapM x7).run P w=.ok (b.map (placeOf P)) w:=by
 intro b
 induction b with
 | nil=>intro _;simp
 | cons f b c =>
  intro h;have h1:=h f (by simp);obtain⟨i,hi⟩:=Option.isSome_iff_exists.1 h1;simp only[List.mapM_cons,x7,Sem.run_bind,sizeOf,typeInfo,run_program,Result.andThen_ok,hi,Sem.run_pure];rw[c (fun g d=>h g (by simp[d]))];simp[placeOf,Program.cellsOf,hi]
theorem Kf {t:Nat}{ps:Array (Nat×Operand)}{b:Array Field}{i:TypeInfo}{zs:List Value}{l:List (Nat×Nat×X)}(hs:St F L w) (he:aC L ρ a) (hd:∀k,o.dst=some k->k<a.tmps.size)
  (ho:o.op=.build t ps) (ht:P.underlying t=some (.struct b)) (hi:P.info? t=some i) (c:UN i=some zs) (hl:nZ P b ps.toList=some l) (d:∀f:Field,f∈b.toList->(P.info? f.type).isSome=true)
  (r:∀off n x,(off,n,x)∈l->off+n<=zs.length) (m:evalOp P (.build zs l) o.dst F L ρ K):o.wp P a w (bK F L w a K) Q:=by
 simp only[evalOp,aM] at m;split at m
 case h_2=>exact m.elim
 rename_i cs q;unfold UN at c;split at c
 case h_2=>cases c
 rename_i z s;injection c with c
 have u:∀(j:Nat) (f:Field) (i:TypeInfo),b[j]?=some f->P.info? f.type=some i->(b.map (placeOf P))[j]?=some (f.offset,i.size):=by
  intro j f i h1 h2;simp[h1,placeOf,Program.cellsOf,h2]
 obtain⟨out,h1,h2⟩:=Ay (a:=a) (cells:=z.cells) (cs:=cs) hl _ he u (by rw[c];exact q) (by intro off n x y;have:=r off n x y;rw[<-c] at this;simpa using this);have e:out=cs.toArray:=by apply Array.ext';simpa using h2
 have h:(b.mapM x7).run P w=.ok (b.map (placeOf P)) w:=by
  rw[Array.mapM_eq_mapM_toList,Sem.run_map,xh P w _ d];simp only[Result.andThen_ok];congr 1;exact Array.ext' (by simp)
 refine cj hs he hd (v:=.agg cs.toArray) (x:=.v (.agg cs.toArray)) ?_ rfl cK fD m;simp only[execOp,ho,Instr.build,Sem.run_bind,zeroValue,typeInfo,run_program,Result.andThen_ok,hi,Sem.run_pure,s,run_underlying ht];rw[show(b.mapM fun(f:Field)=>(do pure (f.offset,<-sizeOf f.type):Sem (Nat×Nat))).run P w=.ok (b.map (placeOf P)) w from h];simp only[Result.andThen_ok];rw[show(ps.map fun(x:Nat×Operand)=>(x.1,a.eval x.2)).toList=ps.toList.map (fun p=>(p.1,a.eval p.2)) by simp,h1,e];simp
theorem A8 {t:Nat}{d:TypeDesc}(b:P.underlying t=some d):(isAgg t).run P w=.ok (fG d) w:=by
 unfold isAgg;simp only[Sem.run_bind,run_underlying b,Result.andThen_ok];cases d<;>rfl
theorem pA {t:Nat}{d:TypeDesc}{i:TypeInfo}(h:P.underlying t=some d) (hi:P.info? t=some i) {c:Addr}{cs:List Value}{n:Nat}
  (f:∀j v,cs[j]?=some v->w.cell? (c.add j)=some v) (b:cs.length=n) (e:n=match fG d with | true=>i.size | false=>1) :
  (Instr.loadAt t (.pointer (some c))).run P w=.ok (iG (fG d) cs) w:=by
 simp only[Instr.loadAt,Instr.sureAddr,Sem.run_bind,Sem.run_pure,Result.andThen_ok,loadVar,A8 h];cases hd:fG d with
 | true =>
  simp only[hd] at e;simp only[abB,Sem.run_bind,sizeOf,typeInfo,run_program,Result.andThen_ok,hi,Sem.run_pure];rw[<-e,<-b,run_loadCells_list w c cs f];rfl
 | false =>
  simp only[hd] at e;subst e
  match cs,b with
  | [v],_ =>
   have:=f 0 v (by simp);rw[show c.add 0=c by simp[Addr.add]] at this;simp[run_load,this,iG]
theorem qC {g:Nat}{t:TypeId}{cs:List Value}(b:t≠0) (h:Own.ok w (.box g t cs)) (n:Nat):w.cell? ⟨g,n,none⟩=cs[n]?:=by
 simp only[Own.ok,jG b] at h;simp[World.cell?,h]
theorem Oc {t:Nat}{y:Operand}{x:X}{d:TypeDesc}{i:TypeInfo}{n:Nat}(hs:St F L w) (he:aC L ρ a) (hd:∀k,o.dst=some k->k<a.tmps.size)
  (ho:o.op=.load t y) (ht:P.underlying t=some d) (hi:P.info? t=some i) (hx:bQ y=some x) (hn:n=match fG d with | true=>i.size | false=>1)
  (q:evalOp P (.load (fG d) n x) o.dst F L ρ K):o.wp P a w (bK F L w a K) Q:=by
 have ec:=aI hx he;have s:∀(l:Option Addr) (j:Nat),l≠none->(kI F L l j n fun cs=>K F L (put o.dst (.v (iG (fG d) cs)) ρ))->a.eval y=conc L (.el l j)->o.wp P a w (bK F L w a K) Q:=by
  rintro l j az ⟨cs,z,hc,q⟩ hy;cases l with
  | none=>exact o5 rfl az
  | some l =>
   have f:∀i v,cs[i]?=some v->w.cell? ((l.add j).add i)=some v:=by
    rcases hc with hc | ⟨k,v,t',sz,m,xs,bb,c,hk,r,e2,hc⟩ | aw | ⟨k,g,t',bs,o',hk,ac,r,hc⟩
    ·obtain⟨bb,e,an,av⟩:=hc.cell hs;injection e with e
     subst e;intro i v hv;obtain⟨b,o',sp⟩:=l;simp only at an;subst an;rw[dI,dI,Nat.add_assoc,<-dI];exact av i v hv
    ·injection r with r
     subst r;have aa:=hs.own k _ hk;simp only[Own.ok] at aa;subst e2;intro i u hu;have hb:=hc i u hu;have h0:=World.ownsRow.cells aa (g:=l.block) rfl (j+i) u hb;rcases aa.2 with⟨e,_⟩ | ⟨g,cap,bl,e,_⟩
     ·cases e
     ·injection e with r e2 e3
      injection r with r
      subst r;rw[dI,dI];rw[dI] at h0;simpa[Nat.add_assoc] using h0
    ·intro i v hv;rw[aw] at z;have:cs=[]:=abO z;subst this;simp at hv
    ·injection r with r
     subst r;intro i u hu;rw[dI,dI,qC ac (hs.own k _ hk)];exact hc i u hu
   refine cj hs he hd (v:=iG (fG d) cs) (x:=.v (iG (fG d) cs)) ?_ rfl cK fD q;simp only[execOp,ho,hy,conc,Sem.run_bind,pA ht hi f z hn,Result.andThen_ok,Sem.run_pure]
 simp only[evalOp,aM] at q;split at q
 ·rename_i k off p;split at q
  case h_2=>exact q.elim
  rename_i g ty cs hk;split at q
  case h_2=>exact q.elim
  rename_i hl;have ac:=xH hl;have hl:=jY (Cn hl);have am:=hs.own k _ hk;have f:∀j v,((cs.drop off).take n)[j]?=some v->w.cell? ((⟨g,off,none⟩:Addr).add j)=some v:=by
   intro j v hv;rw[dI,qC ac am];have hj:j<n:=by
    have:=aa6.1 hv;obtain⟨h,_⟩:=this;omega
   rw[List.getElem?_take_of_lt hj,abS] at hv;exact hv
  refine cj hs he hd (v:=iG (fG d) ((cs.drop off).take n)) (x:=.v (iG (fG d) ((cs.drop off).take n))) ?_ rfl cK fD q;have hy:a.eval y=.pointer (some ⟨g,off,none⟩):=by rw[ec];simp only[val,p,conc,hk]
  simp only[execOp,ho,hy,Sem.run_bind,pA ht hi f hl hn,Result.andThen_ok,Sem.run_pure]
 ·rename_i l j p;exact s l j (rE hx he p) q (by rw[ec];simp only[val,p])
 ·rename_i l p;refine s (some l) 0 (by simp) q ?_;rw[ec];simp only[val,p,conc];simp[Addr.add]
 ·exact q.elim
end
section
variable {P:Program}{F:aA}{L:Loc}{ρ:Env}{a:Act}{w:World}{K:dQ}{o:Oper}{Q:Exit->Act->World->Prop}
theorem Ba {k b:IntKind}(h:qx k b=true):k=b:=by cases k<;>cases b<;>first | rfl | cases h
theorem sV {op:BinOp}{t:TypeId}{x y:Operand}{u v:Value}(h:∀c,u≠.agg c) (h2:u≠.nilIface):(eqGuard op t x y u v).run P w=.ok () w:=by
 have key:(eqGuard op t x y u v).run P w=.ok () w\/True:=.inr trivial;unfold eqGuard;cases op<;>simp only[Bool.not_true,ach,abB,abl,ab6]<;>first
  | rfl
  | (cases u<;>first | rfl | exact o5 rfl (h _) | exact o5 rfl h2)
theorem toList_data (s:ByteArray):s.toList=s.data.toList:=ByteArray.toList_eq s
theorem xI (x y:List UInt8):(x == y)=decide (x=y):=by rw[Bool.eq_iff_iff];simp
theorem SM {t t':TypeId}{op:BinOp}{y z:Operand}{p z':X}(hs:St F L w) (he:aC L ρ a) (hd:∀k,o.dst=some k->k<a.tmps.size)
  (ho:o.op=.binOp op t y z t') (hy:bQ y=some p) (hz:bQ z=some z') (d:evalOp P (.bin op p z') o.dst F L ρ K):o.wp P a w (bK F L w a K) Q:=by
 have ey:=aI hy he;have ez:=aI hz he;have fin:∀v,(binOp op t (val L ρ p) (val L ρ z')).run P w=.ok v w->(∀c,val L ρ p≠.agg c)->val L ρ p≠.nilIface->K F L (put o.dst (.v v) ρ)->o.wp P a w (bK F L w a K) Q:=by
  intro v hr h1 h2 d;refine cj hs he hd (v:=v) (x:=.v v) ?_ rfl cK fD d;simp only[execOp,ho,ey,ez,Sem.run_bind,sV h1 h2,Result.andThen_ok,hr,Sem.run_pure]
 simp only[evalOp,aM] at d;split at d
 ·rename_i k n k' m j h;have b:=dh (L:=L) j;have e:=dh (L:=L) h;split at d
  ·rename_i l;have q:op=.shl\/op=.shr:=by cases op<;>simp_all [J8]
   have h1:(binOp op t (.int k n) (.int k' m)).run P w=(Op.shift op k n k' m).run P w:=by rcases q with rfl | rfl<;>rfl
   rcases q with rfl | rfl
   ·obtain⟨hm,⟨d⟩⟩:=d;refine fin _ ?_ (by rw[b];simp) (by rw[b];simp) d;rw[b,e,h1];simp[Op.shift,show¬m<0 by omega]
   ·obtain⟨hm,d⟩:=d;refine fin _ ?_ (by rw[b];simp) (by rw[b];simp) d;rw[b,e,h1];simp[Op.shift,show¬m<0 by omega]
  ·rename_i l;split at d
   case h_2=>exact d.elim
   rename_i r;have r:=Ba r;subst r;cases op<;>simp only[binI] at d<;>first | (cases l;done) | skip
   ·obtain⟨d⟩:=d;exact fin _ (by rw[b,e];simp[binOp,Op.intArith]) (by rw[b];simp) (by rw[b];simp) d
   ·obtain⟨d⟩:=d;exact fin _ (by rw[b,e];simp[binOp,Op.intArith]) (by rw[b];simp) (by rw[b];simp) d
   ·obtain⟨d⟩:=d;exact fin _ (by rw[b,e];simp[binOp,Op.intArith]) (by rw[b];simp) (by rw[b];simp) d
   ·obtain⟨f,⟨d⟩⟩:=d;exact fin _ (by rw[b,e];simp[binOp,Op.intDiv,f]) (by rw[b];simp) (by rw[b];simp) d
   ·obtain⟨f,d⟩:=d;exact fin _ (by rw[b,e];simp[binOp,Op.intDiv,f]) (by rw[b];simp) (by rw[b];simp) d
   ·exact fin _ (by rw[b,e];simp[binOp,Op.intBits]) (by rw[b];simp) (by rw[b];simp) d
   ·exact fin _ (by rw[b,e];simp[binOp,Op.intBits]) (by rw[b];simp) (by rw[b];simp) d
   ·exact fin _ (by rw[b,e];simp[binOp,Op.intBits]) (by rw[b];simp) (by rw[b];simp) d
   ·exact fin _ (by rw[b,e];simp[binOp,Op.intBits]) (by rw[b];simp) (by rw[b];simp) d
   ·exact fin _ (by rw[b,e];simp[binOp,Op.intCmp];rfl) (by rw[b];simp) (by rw[b];simp) d
   ·exact fin _ (by rw[b,e];simp[binOp,Op.intCmp,bne];rfl) (by rw[b];simp) (by rw[b];simp) d
   ·exact fin _ (by rw[b,e];simp[binOp,Op.intCmp]) (by rw[b];simp) (by rw[b];simp) d
   ·exact fin _ (by rw[b,e];simp[binOp,Op.intCmp]) (by rw[b];simp) (by rw[b];simp) d
   ·exact fin _ (by rw[b,e];simp[binOp,Op.intCmp]) (by rw[b];simp) (by rw[b];simp) d
   ·exact fin _ (by rw[b,e];simp[binOp,Op.intCmp]) (by rw[b];simp) (by rw[b];simp) d
 ·rename_i s u j h;have b:=dh (L:=L) j;have e:=dh (L:=L) h;cases op<;>simp only[binS] at d<;>first | exact d.elim | skip
  ·obtain⟨ae,d⟩:=d;refine fin _ ?_ (by rw[b];simp) (by rw[b];simp) d;rw[b,e];have:¬(((s.size+u.size:Nat):Int)>IntKind.i64.max):=by omega
   simp only[binOp,Op.stringOp,fo this];rfl
  ·exact fin _ (by rw[b,e];simp only[binOp,Op.stringOp,toList_data,xI];rfl) (by rw[b];simp) (by rw[b];simp) d
  ·exact fin _ (by rw[b,e];simp only[binOp,Op.stringOp,toList_data,xI];rfl) (by rw[b];simp) (by rw[b];simp) d
  ·exact fin _ (by rw[b,e];simp only[binOp,Op.stringOp,toList_data,xI];rfl) (by rw[b];simp) (by rw[b];simp) d
  ·exact fin _ (by rw[b,e];simp only[binOp,Op.stringOp,toList_data,xI];rfl) (by rw[b];simp) (by rw[b];simp) d
 ·exact d.elim
theorem Kg {t t':TypeId}{neg:Bool}{y z:Operand}{m j:X}(hs:St F L w) (he:aC L ρ a) (hd:∀k,o.dst=some k->k<a.tmps.size)
  (l:o.op=.binOp (if neg then .neq else .eql) t y z t') (h:P.underlying t=some .bool) (u:bQ y=some m) (hz:bQ z=some j) (d:evalOp P (.eqB neg m j) o.dst F L ρ K):o.wp P a w (bK F L w a K) Q:=by
 have p:=aI u he;have q:=aI hz he;simp only[evalOp,aM] at d;split at d
 case h_2=>exact d.elim
 rename_i b c f e;have s:=dh (L:=L) f;have n:=dh (L:=L) e;refine cj hs he hd (v:=.bool (tX neg (decide (b=c)))) (x:=.v (.bool (tX neg (decide (b=c))))) ?_ rfl cK fD d;have r:∀op:BinOp,(eqGuard op t y z (.bool b) (.bool c)).run P w=.ok () w:=fun op=>sV (by simp) (by simp);have hb:(b == c)=decide (b=c):=by cases b<;>cases c<;>rfl
 cases neg
 ·simp only[execOp,l,p,q,s,n,Sem.run_bind,r,Result.andThen_ok];have:=run_eql_bool (P:=P) w t b c h;rw[hb] at this;simp[this,tX]
 ·simp only[execOp,l,p,q,s,n,Sem.run_bind,r,Result.andThen_ok];have:=run_neq_bool (P:=P) w t b c h;rw[hb] at this;simp[this,tX]
theorem SN {t e:TypeId}(h:P.underlying t=some (.slice e)) (p:Option Addr) (n c b f:Nat):(Op.equal t (.slice p n c) (.slice none b f)).run P w=.ok p.isNone w:=by
 have key:∀d:Nat,(Op.equalIn (d+1) t (.slice p n c) (.slice none b f)).run P w=.ok p.isNone w:=fun d=>by
  cases p<;>simp[Op.equalIn,run_underlying h]
 exact key 9999
theorem Kh {t t':TypeId}{neg:Bool}{y z:Operand}{j f:X}(hs:St F L w) (he:aC L ρ a) (hd:∀k,o.dst=some k->k<a.tmps.size)
  (r:o.op=.binOp (if neg then .neq else .eql) t y z t') (hy:bQ y=some j) (hz:bQ z=some f)
  (u v:Value) (b:Bool) (h:val L ρ j=u) (d:val L ρ f=v) (h1:∀c,u≠.agg c) (h2:u≠.nilIface) (h3:∀k n,u≠.int k n) (h4:∀s,u≠.string s) (h5:∀k n,u≠.float k n) (h6:∀k n m,u≠.complex k n m)
  (e:(Op.equal t u v).run P w=.ok b w) (hK:K F L (put o.dst (.v (.bool (tX neg b))) ρ)):o.wp P a w (bK F L w a K) Q:=by
 have l:=aI hy he;have p:=aI hz he;refine cj hs he hd (v:=.bool (tX neg b)) (x:=.v (.bool (tX neg b))) ?_ rfl cK fD hK;have q:∀op:BinOp,(eqGuard op t y z u v).run P w=.ok () w:=fun op=>sV h1 h2;cases neg
 ·simp only[execOp,r,l,p,h,d,Sem.run_bind,q,Result.andThen_ok];have:binOp .eql t u v=(do pure (.bool (<-Op.equal t u v)):Sem Value):=by
   cases u<;>first | rfl | exact o5 rfl (h3 _ _) | exact o5 rfl (h4 _) | exact o5 rfl (h5 _ _) | exact o5 rfl (h6 _ _ _)
  simp[this,e,tX]
 ·simp only[execOp,r,l,p,h,d,Sem.run_bind,q,Result.andThen_ok];have:binOp .neq t u v=(do pure (.bool (!(<-Op.equal t u v))):Sem Value):=by
   cases u<;>first | rfl | exact o5 rfl (h3 _ _) | exact o5 rfl (h4 _) | exact o5 rfl (h5 _ _) | exact o5 rfl (h6 _ _ _)
  simp[this,e,tX]
theorem Ki {t q e:TypeId}{neg:Bool}{y z:Operand}{j h:X}(u:St F L w) (he:aC L ρ a) (hd:∀k,o.dst=some k->k<a.tmps.size)
  (x:o.op=.binOp (if neg then .neq else .eql) t y z q) (r:P.underlying t=some (.slice e)) (m:bQ y=some j) (s:bQ z=some h) (b:evalOp P (.eqS neg j h) o.dst F L ρ K):o.wp P a w (bK F L w a K) Q:=by
 simp only[evalOp,aM] at b;split at b
 ·rename_i p n c l v f d;exact Kh u he hd x m s (.slice p n c) (.slice none l v) p.isNone (dh f) (dh d) (by simp) (by simp) (by simp) (by simp) (by simp) (by simp) (SN r _ _ _ _ _) b
 ·exact b.elim
theorem IJ {z:Operand}{b:X}(h:bQ z=some b) (k:xZ b=true):z=.const .nilIface:=by
 unfold xZ at k;split at k
 ·cases z with
  | const v=>simp only[bQ,aa1,X.c.injEq] at h;rw[h]
  | tmp n=>cases h
  | func f=>cases h
  | global g=>cases h
 ·cases k
theorem FH {t:TypeId}{b:Array (String×TypeId)}(h:P.underlying t=some (.interface b)):(Op.equal t .nilIface .nilIface).run P w=.ok true w:=by
 have key:∀d:Nat,(Op.equalIn (d+1) t .nilIface .nilIface).run P w=.ok true w:=fun d=>by
  simp[Op.equalIn,run_underlying h]
 exact key 9999
theorem SQ {t ty:TypeId}{b:Array (String×TypeId)}{u:Value}(h:P.underlying t=some (.interface b)):(Op.equal t (.iface ty u) .nilIface).run P w=.ok false w:=by
 have key:∀d:Nat,(Op.equalIn (d+1) t (.iface ty u) .nilIface).run P w=.ok false w:=fun d=>by
  simp[Op.equalIn,run_underlying h]
 exact key 9999
theorem Kj {t t':TypeId}{ms:Array (String×TypeId)}{neg:Bool}{y z:Operand}{j f:X}(q:St F L w) (he:aC L ρ a) (hd:∀k,o.dst=some k->k<a.tmps.size)
  (h:o.op=.binOp (if neg then .neq else .eql) t y z t') (n:P.underlying t=some (.interface ms)) (l:bQ y=some j) (d:bQ z=some f) (hn:xZ f=true) (c:evalOp P (.eqN neg j) o.dst F L ρ K):o.wp P a w (bK F L w a K) Q:=by
 have r:=aI l he;obtain rfl:=IJ d hn;simp only[evalOp,aM] at c;split at c
 ·rename_i b;have p:val L ρ j=.nilIface:=dh b;refine cj q he hd (v:=.bool (tX neg true)) (x:=.v (.bool (tX neg true))) ?_ rfl cK fD c;have hg:∀op:BinOp,(eqGuard op t y (.const .nilIface) .nilIface .nilIface).run P w=.ok () w:=fun op=>by
   cases op<;>simp[eqGuard]
  have s:a.eval (.const .nilIface)=.nilIface:=rfl;have m:=FH (P:=P) (w:=w) n;cases neg
  ·simp only[execOp,h,r,s,p,Sem.run_bind,hg,Result.andThen_ok];have:binOp .eql t .nilIface .nilIface=(do pure (.bool (<-Op.equal t .nilIface .nilIface)):Sem Value):=rfl;simp[this,m,tX]
  ·simp only[execOp,h,r,s,p,Sem.run_bind,hg,Result.andThen_ok];have:binOp .neq t .nilIface .nilIface=(do pure (.bool (!(<-Op.equal t .nilIface .nilIface))):Sem Value):=rfl;simp[this,m,tX]
 ·rename_i ty u b;have e:val L ρ f=.nilIface:=by
   simp only[bQ,aa1] at d;rw[<-d];rfl
  exact Kh q he hd h l d (.iface ty u) .nilIface false (dh b) e (by simp) (by simp) (by simp) (by simp) (by simp) (by simp) (SQ n) c
 ·exact c.elim
theorem DI {l c:List Value}{b r:Bool}(h:jn [] l c b=some r):l=[]/\c=[]/\r=b:=by
 cases l with
 | cons v l=>simp[jn] at h
 | nil =>
  cases c with
  | cons v l=>simp[jn] at h
  | nil=>simp only[jn,aa1] at h;exact⟨rfl,rfl,h.symm⟩
theorem Bb {ks:List Bool}{l c:List Value}{d r:Bool}(h:jn (true::ks) l c d=some r):∃k a e b f,l=.int k a::e/\c=.int k b::f/\jn ks e f (d&&decide (a=b))=some r:=by
 cases l with
 | nil=>simp[jn] at h
 | cons v l =>
  cases c with
  | nil=>cases v<;>simp[jn] at h
  | cons m c =>
   cases v<;>cases m<;>try (simp[jn] at h;done)
   rename_i k a n b;simp only[jn] at h;split at h
   ·rename_i j;have:=Ba j;subst this;exact⟨k,a,l,b,c,rfl,rfl,h⟩
   ·cases h
theorem x9 {ks:List Bool}{l c:List Value}{d r:Bool}(h:jn (false::ks) l c d=some r):∃a e b f,l=.bool a::e/\c=.bool b::f/\jn ks e f (d&&decide (a=b))=some r:=by
 cases l with
 | nil=>simp[jn] at h
 | cons v l =>
  cases c with
  | nil=>cases v<;>simp[jn] at h
  | cons j c =>
   cases v<;>cases j<;>try (simp[jn] at h;done)
   rename_i a b;simp only[jn] at h;exact⟨a,l,b,c,rfl,rfl,h⟩
theorem DJ (k:IntKind):qx k k=true:=by cases k<;>rfl
theorem Kk:∀{ks:List Bool}{l f:List Value}{d r:Bool},jn ks l f d=some r->∃e,(∀c,jn ks l f c=some (c&&e))/\r=(d&&e):=by
 intro ks
 induction ks with
 | nil =>
  intro l f d r h;obtain⟨rfl,rfl,rfl⟩:=DI h;exact⟨true,fun c=>by simp[jn],by simp⟩
 | cons k ks m =>
  intro l f d r h;cases k with
  | true =>
   obtain⟨k,a,p,b,n,rfl,rfl,j⟩:=Bb h;obtain⟨e,h1,h2⟩:=m j;exact⟨decide (a=b)&&e,fun c=>by simp only[jn,DJ,h1,Bool.and_assoc],by rw[h2,Bool.and_assoc]⟩
  | false =>
   obtain⟨a,p,b,n,rfl,rfl,j⟩:=x9 h;obtain⟨e,h1,h2⟩:=m j;exact⟨decide (a=b)&&e,fun c=>by simp only[jn,h1,Bool.and_assoc],by rw[h2,Bool.and_assoc]⟩
theorem yc {t:TypeId}{d:TypeDesc}(b:P.underlying t=some d) (hd:fG d=false) {cs:Array Value}{off:Nat}{v:Value}(h:cs[off]?=some v):(part t cs off).run P w=.ok v w:=by
 simp only[part,Sem.run_bind,A8 b,Result.andThen_ok,hd,abl,ab6,h,Sem.run_pure]
theorem uf {d:Nat}{xs ys:Array Value}:∀{fs:List Field}{k:Nat}{ks:List Bool}{b:Bool},pu P fs k=some ks->jn ks (xs.toList.drop k) (ys.toList.drop k) true=some b->(Op.eqFields (d+1) xs ys fs).run P w=.ok b w
 | [],k,ks,b,h,he=>by
  simp only[pu,aa1] at h;subst h;obtain⟨_,_,rfl⟩:=DI he;simp[Op.eqFields]
 | f::fs,k,ks,b,h,he=>by
  have hcons:∀{zs:Array Value}{v:Value}{l:List Value},zs.toList.drop k=v::l->zs[k]?=some v/\zs.toList.drop (k+1)=l:=by
   intro zs v l e;refine⟨?_,?_⟩
   ·have:=vv (fun q=>q[0]?) e;simp only[abS,Nat.add_zero,abm] at this;simpa using this
   ·rw[<-List.drop_drop,e];rfl
  have fin:∀{u v:Value}{l l':List Value}{ks':List Bool}{r:Bool}{dd:TypeDesc},P.underlying f.type=some dd->fG dd=false->f.offset=k->f.name≠"_"->xs.toList.drop k=u::l->ys.toList.drop k=v::l'->(Op.equalIn (d+1) f.type u v).run P w=.ok r w ->
    pu P fs (k+1)=some ks'->jn ks' l l' r=some b->(Op.eqFields (d+1) xs ys (f::fs)).run P w=.ok b w:=by
   intro u v l l' ks' r dd hu hag ho hnm e1 e2 heq hfl hev;obtain⟨a1,a2⟩:=hcons e1;obtain⟨b1,b2⟩:=hcons e2;simp only[Op.eqFields];rw[eu hnm];simp only[Sem.run_bind,ho,yc hu hag a1,yc hu hag b1,Result.andThen_ok,heq];obtain⟨r0,q1,q2⟩:=Kk hev;cases r with
   | false =>
    simp only[abb] at q2;subst q2;simp
   | true =>
    simp only[aa7] at q2;subst q2;simp only[Bool.not_true,abl,ab6];exact uf hfl (by rw[a2,b2];simpa using q1 true)
  simp only[pu] at h;split at h
  ·rename_i ki hoff hnm hu;split at h
   case h_2=>cases h
   rename_i ks' hks;injection h with h
   subst h;have hoff:=aa5 hoff;have hnm:=ab3 hnm;obtain⟨k1,x,l1,y,l2,e1,e2,he⟩:=Bb he;exact fin hu rfl hoff hnm e1 e2 (run_equalIn_int w d f.type k1 _ x y hu) hks (by rw[show(x == y)=decide (x=y) from rfl];simpa using he)
  ·rename_i hoff hnm hu;split at h
   case h_2=>cases h
   rename_i ks' hks;injection h with h
   subst h;have hoff:=aa5 hoff;have hnm:=ab3 hnm;obtain⟨x,l1,y,l2,e1,e2,he⟩:=x9 he;have hb:(x == y)=decide (x=y):=by cases x<;>cases y<;>rfl
   exact fin hu rfl hoff hnm e1 e2 (run_equalIn_bool' w d f.type x y hu) hks (by rw[hb];simpa using he)
  ·cases h
theorem Kl {t t':TypeId}{h:Array Field}{neg:Bool}{ks:List Bool}{y z:Operand}{q n:X}(hs:St F L w) (he:aC L ρ a) (hd:∀k,o.dst=some k->k<a.tmps.size)
  (p:o.op=.binOp (if neg then .neq else .eql) t y z t') (m:P.underlying t=some (.struct h)) (hk:pu P h.toList 0=some ks) (hp:P.stoodInHeld t=false) (hg:P.eqGuardType P.depth t=false) (hy:bQ y=some q) (hz:bQ z=some n)
  (c:evalOp P (.eqA neg ks q n) o.dst F L ρ K):o.wp P a w (bK F L w a K) Q:=by
 have s:=aI hy he;have u:=aI hz he;simp only[evalOp,aM] at c;split at c
 case h_2=>exact c.elim
 rename_i cs ds l j;split at c
 case h_2=>exact c.elim
 rename_i b hb;have vy:=dh (L:=L) l;have r:=dh (L:=L) j;have e:P.fieldsOf t=h:=by simp only[Program.fieldsOf,m]
 have f:(Op.equalIn 10000 t (.agg cs) (.agg ds)).run P w=.ok b w:=by
  rw[show(10000:Nat)=9999+1 from rfl,run_equalIn_agg w 9999 t cs ds (by rw[e];exact m) hp,e];exact uf (d:=9998) hk (by simpa using hb)
 refine cj hs he hd (v:=.bool (tX neg b)) (x:=.v (.bool (tX neg b))) ?_ rfl cK fD c;cases neg
 ·simp only[execOp,p,s,u,vy,r,Sem.run_bind,run_eqGuard_agg w _ t y z cs ds hg,Result.andThen_ok];simp[run_eql_struct,f,tX]
 ·simp only[execOp,p,s,u,vy,r,Sem.run_bind,run_eqGuard_agg w _ t y z cs ds hg,Result.andThen_ok];simp[run_neq_struct,f,tX]
end
section
variable {P:Program}{F:aA}{L:Loc}{ρ:Env}{a:Act}{w:World}{K:dQ}{o:Oper}{Q:Exit->Act->World->Prop}
theorem U1 {t:TypeId}{op:UnOp}{y:Operand}{j:X}(e:St F L w) (he:aC L ρ a) (hd:∀k,o.dst=some k->k<a.tmps.size)
  (h:o.op=.unOp op t y) (l:bQ y=some j) (d:evalOp P (.un op j) o.dst F L ρ K):o.wp P a w (bK F L w a K) Q:=by
 have f:=aI l he;simp only[evalOp,aM] at d;split at d
 ·rename_i b c;refine cj e he hd (v:=.bool (!b)) (x:=.v (.bool (!b))) ?_ rfl cK fD d;simp[execOp,h,f,dh c,Op.unary]
 ·rename_i k n c;obtain⟨d⟩:=d;refine cj e he hd (v:=.int k (k.wrap (0-n))) (x:=.v (.int k (k.wrap (0-n)))) ?_ rfl cK fD d;simp[execOp,h,f,dh c,Op.unary,Op.intArith]
 ·rename_i k n c;refine cj e he hd ?_ rfl cK fD d;simp[execOp,h,f,dh c,Op.unary,Op.intBits];rfl
 ·exact d.elim
theorem Od {s t:TypeId}{k k0:IntKind}{y:Operand}{d:X}(e:St F L w) (he:aC L ρ a) (hd:∀k,o.dst=some k->k<a.tmps.size)
  (h:o.op=.convert s t y) (h1:P.underlying s=some (.int k0)) (h2:P.underlying t=some (.int k)) (j:bQ y=some d) (b:evalOp P (.conv k d) o.dst F L ρ K):o.wp P a w (bK F L w a K) Q:=by
 have f:=aI j he;simp only[evalOp,aM] at b;split at b
 ·rename_i k1 n c;obtain⟨b⟩:=b;refine cj e he hd (v:=.int k (k.wrap n)) (x:=.v (.int k (k.wrap n))) ?_ rfl cK fD b;simp[execOp,h,f,dh c,convert,run_underlying h1,run_underlying h2,Conv.intToInt]
 ·exact b.elim
theorem Oe {f:FuncId}{e d:Array Operand}{c b:List X}(h:St F L w) (he:aC L ρ a) (hd:∀k,o.dst=some k->k<a.tmps.size)
  (n:o.op=.makeFunc (.func f) e d) (h1:gP e.toList=some c) (h2:gP d.toList=some b) (j:evalOp P (.mkfn f c b) o.dst F L ρ K):o.wp P a w (bK F L w a K) Q:=by
 have m:e.map a.eval=(bE L ρ c).toArray:=by apply Array.ext';simpa using gS h1 he
 have l:d.map a.eval=(bE L ρ b).toArray:=by apply Array.ext';simpa using gS h2 he
 refine cj h he hd ?_ rfl cK fD j;simp[execOp,n,Instr.makeFunc,m,l];rfl
theorem Og {i:Nat}{y:Operand}{d:X}(f:St F L w) (he:aC L ρ a) (hd:∀k,o.dst=some k->k<a.tmps.size)
  (m:o.op=.extract y i) (j:bQ y=some d) (b:evalOp P (.extr d i) o.dst F L ρ K):o.wp P a w (bK F L w a K) Q:=by
 have l:=aI j he;simp only[evalOp,aM] at b;split at b
 case h_2=>exact b.elim
 rename_i e c;split at b
 case h_2=>exact b.elim
 rename_i v h;refine cj f he hd (v:=v) (x:=.v v) ?_ rfl cK fD b;have:e[i]?=some v:=by simpa using h
 simp[execOp,m,l,dh c,Instr.extract,this]
theorem IK {t f:Nat}{y:Operand}{p:X}{z:Array Field}{h:Field}{i:TypeInfo}(q:St F L w) (he:aC L ρ a) (hd:∀k,o.dst=some k->k<a.tmps.size)
  (ho:o.op=.fieldAddr t y f) (ht:P.underlying t=some (.struct z)) (hf:z[f]?=some h) (hi:P.info? h.type=some i) (l:i.size≠0) (n:bQ y=some p)
  (m:evalOp P (.fieldA h.offset p) o.dst F L ρ K):o.wp P a w (bK F L w a K) Q:=by
 have ey:=aI n he;have run:∀d:Addr,val L ρ p=.pointer (some d)->(execOp a.eval o).run P w=.ok (.value (.pointer (some (d.add h.offset)))) w:=by
  intro d hv;simp[execOp,ho,ey,hv,Instr.fieldAt,run_underlying ht,hf,Instr.sureAddr,fieldPlace,sizeOf,typeInfo,hi,l]
 simp only[evalOp,aM] at m;split at m
 ·rename_i k off c;obtain⟨g,ty,cs,s⟩:=qz n he c;refine cj q he hd (v:=.pointer (some ⟨g,off+h.offset,none⟩)) (x:=.own k (off+h.offset)) ?_ (by simp only[conc,s]) (fun k' u e=>by injection e with e1 e2;subst e1;exact⟨g,ty,cs,s⟩) (fun _ _ e=>by cases e) m;rw[run ⟨g,off,none⟩ (by simp only[val,c,conc,s]),dI]
 ·rename_i d j c;have l:=rE n he c;cases d with
  | none=>exact o5 rfl l
  | some d =>
   refine cj q he hd (v:=.pointer (some (d.add (j+h.offset)))) (x:=.el (some d) (j+h.offset)) ?_ rfl (fun _ _ e=>by cases e) (fun r j' e=>by injection e with e1 e2;subst e1;simp) m;rw[run (d.add j) (by simp only[val,c,conc])];congr 4;obtain⟨b,o',sp⟩:=d;unfold Addr.add
   by_cases h1:j=0<;>by_cases h2:h.offset=0<;>simp[h1,h2,Nat.add_assoc]
 ·rename_i d c;refine cj q he hd (v:=.pointer (some (d.add h.offset))) (x:=.el (some d) h.offset) ?_ rfl (fun _ _ e=>by cases e) (fun r j' e=>by injection e with e1 e2;subst e1;simp) m;rw[run d (dh c)]
 ·exact m.elim
theorem Oh {t e:TypeId}{y z:Operand}{p m:X}{i:TypeInfo}(hs:St F L w) (he:aC L ρ a) (hd:∀k,o.dst=some k->k<a.tmps.size)
  (u:o.op=.indexAddr t y z) (s:P.underlying t=some (.slice e)) (hi:P.info? e=some i) (q:bQ y=some p) (hz:bQ z=some m)
  (b:evalOp P (.idxA i.size p m) o.dst F L ρ K):o.wp P a w (bK F L w a K) Q:=by
 have ey:=aI q he;have ez:=aI hz he;simp only[evalOp,aM] at b;split at b
 case h_2=>exact b.elim
 rename_i d n c k j l h;obtain⟨f,h1,h2,b⟩:=b;cases d with
 | none=>exact o5 rfl f
 | some d =>
  refine cj hs he hd (v:=.pointer (some (d.add (j.toNat*i.size)))) (x:=.el (some d) (j.toNat*i.size)) ?_ rfl (fun _ _ e=>by cases e) (fun ac j' e=>by injection e with r e2;subst r;simp) b;simp[execOp,u,ey,ez,dh l,dh h,Instr.indexAt,asIntOf,run_underlying s,h1,h2,sizeOf,typeInfo,hi]
theorem SR {t e:TypeId}{y:Operand}{h:X}{c:Call}(q:St F L w) (he:aC L ρ a) (hd:∀k,o.dst=some k->k<a.tmps.size)
  (s:o.op=.call c) (p:c.callee=.builtin .len) (l:c.args=#[y]) (d:c.argTypes=#[t]) (m:P.underlying t=some (.slice e)) (j:bQ y=some h)
  (b:evalOp P (.len h) o.dst F L ρ K):o.wp P a w (bK F L w a K) Q:=by
 have r:=aI j he;simp only[evalOp,aM] at b;split at b
 ·rename_i u n z f;refine cj q he hd (v:=.int .i64 n) (x:=.v (.int .i64 n)) ?_ rfl cK fD b;simp[execOp,s,resolve,p,l,d,invoke,builtin,Builtin.len_,r,dh f,run_underlying m,goInt]
 ·exact b.elim
theorem Km {L:Loc}{ρ:Env}:∀{xs:List X},bE L ρ xs=(xs.map (ev ρ)).map (conc L)
 | []=>rfl
 | _::xs=>by simp[bE,val,Km (xs:=xs)]
theorem SS (mx:Bool) (k:IntKind):∀(l:List SV) (a0 m:Int),Ry mx a0 l=some m ->
  ((l.map (conc L)).foldlM (if mx then Builtin.max2 else Builtin.min2) (.int k a0)).run P w=.ok (.int k m) w:=by
 intro l
 induction l with
 | nil=>intro a0 m h;simp only[Ry,aa1] at h;subst h;rfl
 | cons x l d =>
  intro a0 m h;unfold Ry at h;split at h
  ·rename_i c;cases c
  ·rename_i f b e c;injection c with h1 h2
   subst h1 h2;have:=d _ _ h;cases mx
   ·simp only[abe,List.foldlM_cons,conc,Sem.run_bind];simp only[abl,ab6] at this ⊢;simp only[Builtin.min2,Sem.run_pure,Result.andThen_ok];exact this
   ·simp only[abe,List.foldlM_cons,conc,Sem.run_bind];simp only[abB] at this ⊢;simp only[Builtin.max2,Sem.run_pure,Result.andThen_ok];exact this
  ·cases h
theorem RA {mx:Bool}{c:Call}{xs:List X}(j:St F L w) (he:aC L ρ a) (hd:∀k,o.dst=some k->k<a.tmps.size)
  (h:o.op=.call c) (f:c.callee=.builtin (if mx then .max else .min)) (q:gP c.args.toList=some xs)
  (d:evalOp P (.mm mx xs) o.dst F L ρ K):o.wp P a w (bK F L w a K) Q:=by
 have b:=gS q he;rw[Km] at b;simp only[evalOp,aM] at d;split at d
 case h_2=>exact d.elim
 rename_i k a0 l n;split at d
 case h_2=>exact d.elim
 rename_i m p;rw[n] at b;have e:=SS (P:=P) (L:=L) (w:=w) mx k l a0 m p;refine cj j he hd (v:=.int k m) (x:=.v (.int k m)) ?_ rfl cK fD d;cases mx
 ·simp only[abl,ab6] at f e;simp only[execOp,h,resolve,f,invoke,builtin,Builtin.min_,Sem.run_bind,Sem.run_pure,Result.andThen_ok,Array.toList_map,b,abe,conc,e]
 ·simp only[abB] at f e;simp only[execOp,h,resolve,f,invoke,builtin,Builtin.max_,Sem.run_bind,Sem.run_pure,Result.andThen_ok,Array.toList_map,b,abe,conc,e]
theorem Oi {t:TypeId}{d:TypeDesc}{y:Operand}{l:X}(m:St F L w) (he:aC L ρ a) (hd:∀k,o.dst=some k->k<a.tmps.size)
  (p:o.op=.makeInterface t y) (h:P.underlying t=some d) (e:∀r,d≠.interface r) (q:bQ y=some l) (c:evalOp P (.mkif t l) o.dst F L ρ K):o.wp P a w (bK F L w a K) Q:=by
 have n:=aI q he;simp only[evalOp,aM] at c;split at c
 ·rename_i v b;refine cj m he hd (v:=.iface t v) (x:=.v (.iface t v)) ?_ rfl cK fD c;simp only[execOp,p,n,dh b,Instr.makeInterface];simp only[Sem.run_bind,Sem.run_map,run_underlying h,Result.andThen_ok];cases d<;>first | exact o5 rfl (e _) | simp
 ·rename_i f j b;refine cj m he hd (v:=.iface t (.pointer (some (f.add j)))) (x:=.v (.iface t (.pointer (some (f.add j))))) ?_ rfl cK fD c;simp only[execOp,p,n,val,b,conc,Instr.makeInterface];simp only[Sem.run_bind,Sem.run_map,run_underlying h,Result.andThen_ok];cases d<;>first | exact o5 rfl (e _) | simp
 ·exact c.elim
theorem SW {t s:TypeId}{d:TypeDesc}{i:TypeInfo}{z:Value}{y:Operand}{n:X}(j:St F L w) (he:aC L ρ a) (hd:∀k,o.dst=some k->k<a.tmps.size)
  (m:o.op=.typeAssert y s t true) (h:P.underlying t=some d) (f:∀ms,d≠.interface ms) (hi:P.info? t=some i) (p:i.zero=some z) (q:bQ y=some n) (c:evalOp P (.tas t z n) o.dst F L ρ K):o.wp P a w (bK F L w a K) Q:=by
 have l:=aI q he;simp only[evalOp,aM] at c;split at c
 ·rename_i b;refine cj j he hd (v:=.tuple #[z,.bool false]) (x:=.v (.tuple #[z,.bool false])) ?_ rfl cK fD c;simp only[execOp,m,l,dh b,Instr.typeAssert];simp only[Sem.run_bind,Sem.run_map,run_underlying h,Result.andThen_ok];cases d<;>first | exact o5 rfl (f _) | simp[zeroValue,typeInfo,hi,p]
 ·rename_i r u b;split at c
  ·rename_i hb;have hb:=aa5 hb;refine cj j he hd (v:=.tuple #[u,.bool true]) (x:=.v (.tuple #[u,.bool true])) ?_ rfl cK fD c;simp only[execOp,m,l,dh b,Instr.typeAssert];simp only[Sem.run_bind,Sem.run_map,run_underlying h,Result.andThen_ok];cases d<;>first | exact o5 rfl (f _) | simp[hb]
  ·rename_i hb;have hb:r≠t:=fun e=>by rw[e,Nat.beq_refl] at hb;cases hb
   refine cj j he hd (v:=.tuple #[z,.bool false]) (x:=.v (.tuple #[z,.bool false])) ?_ rfl cK fD c;simp only[execOp,m,l,dh b,Instr.typeAssert];simp only[Sem.run_bind,Sem.run_map,run_underlying h,Result.andThen_ok];cases d<;>first | exact o5 rfl (f _) | simp[zeroValue,typeInfo,hi,p,hb]
 ·exact c.elim
theorem GX:∀{l:List (TypeId×String)}{t:TypeId}{b:String},UZ l t b=true->(t,b)∈l
 | [],_,_,h=>by cases h
 | (t,b)::l,d,c,h=>by
  simp only[UZ] at h;split at h
  ·rename_i h1 h2;rw[<-aa5 h1,<-abJ h2];exact List.mem_cons_self ..
  ·exact abz _ (GX h)
theorem Bc {t:TypeId}{n:String}{f:FuncId}(h:tW P t n=some f):∃i m b d,P.info? t=some i/\i.methods.find? (·.name == n)=some m/\m.path.toList=[]/\m.func=some (f,b)/\P.underlying t=some d /\
  ((∃e,d=.pointer e/\b=true)\/((∀e,d≠.pointer e)/\b=false)):=by
 simp only[tW] at h;split at h
 case h_2=>cases h
 rename_i i hi;split at h
 case h_2=>cases h
 rename_i m k;split at h
 case h_2=>cases h
 rename_i f' b l hf;split at h
 ·rename_i e j;injection h with h;subst h
  exact⟨i,m,_,_,hi,k,l,hf,j,.inl ⟨_,rfl,rfl⟩⟩
 ·cases h
 ·rename_i d c j;injection h with h;subst h
  exact⟨i,m,_,_,hi,k,l,hf,j,.inr ⟨fun e he=>c e he,rfl⟩⟩
 ·cases h
theorem Bd (P:Program):∃n,P.types.size+Made.depth=n+1:=⟨P.types.size+99,by simp[Made.depth]⟩
theorem IL {t:TypeId}{b:String}{f:FuncId}(h:tW P t b=some f) (v:Value) (w:World):(method (P.types.size+Made.depth) t v b).run P w=.ok (f,v) w:=by
 obtain⟨i,m,j,d,h1,h2,h3,h4,h5,h6⟩:=Bc h;obtain⟨n,c⟩:=Bd P;rw[c];simp only[method,Sem.run_bind,typeInfo,run_program,Result.andThen_ok,h1,Sem.run_pure,h2,h3,follow,h4,receiverAt,run_underlying h5];rcases h6 with⟨e,rfl,rfl⟩ | ⟨h6,rfl⟩
 ·simp only[Place.get,Sem.run_pure,Result.andThen_ok]
 ·cases d<;>first | exact o5 rfl (h6 _) | simp only[Place.get,Sem.run_pure,Result.andThen_ok]
theorem IQ {t:TypeId}{b:String}{f:FuncId}(h:tW P t b=some f) (v:Value) (w:World):(nilAhead (P.types.size+Made.depth) t v b).run P w=.ok (some false) w:=by
 obtain⟨i,m,j,d,h1,h2,h3,h4,h5,h6⟩:=Bc h;obtain⟨n,c⟩:=Bd P;rw[c];simp only[nilAhead,Sem.run_bind,typeInfo,run_program,Result.andThen_ok,h1,Sem.run_pure,h2,h3,followBlind,h4];rcases h6 with⟨e,rfl,rfl⟩ | ⟨h6,rfl⟩
 ·rfl
 ·simp only[Sem.run_bind,run_underlying h5,Result.andThen_ok];cases d<;>first | exact o5 rfl (h6 _) | rfl
theorem Oj {t:TypeId}{b:String}{e d:Array Operand}(f:St F L w) (he:aC L ρ a) (hd:∀k,o.dst=some k->k<a.tmps.size)
  (m:o.op=.makeFunc (.methodOf t b) e d) (h1:e.toList=[]) (h2:d.toList=[]) (h:evalOp P (.mov (.c (.func (.methodOf t b) #[] #[]))) o.dst F L ρ K):o.wp P a w (bK F L w a K) Q:=by
 have l:e=#[]:=by apply Array.ext';exact h1
 have j:d=#[]:=by apply Array.ext';exact h2
 refine cj f he hd (v:=.func (.methodOf t b) #[] #[]) (x:=.v (.func (.methodOf t b) #[] #[])) ?_ rfl cK fD h;simp[execOp,m,Instr.makeFunc,l,j]
theorem DK {t:TypeId}{g k:Nat}{d:TypeDesc}{i:TypeInfo}(l:St F L w) (he:aC L ρ a) (hd:∀k,o.dst=some k->k<a.tmps.size)
  (s:o.op=.load t (.global g)) (q:P.underlying t=some d) (hi:P.info? t=some i) (c:fG d=false) (y:xE g=some k) (e:evalOp P (.gload g) o.dst F L ρ K):o.wp P a w (bK F L w a K) Q:=by
 simp only[evalOp,aM] at e;obtain⟨v,ty,fr,p,e⟩:=e;have r:=l.frz _ _ p;refine cj l he hd (v:=v) (x:=.v v) ?_ rfl cK fD e;have m:a.eval (.global g)=.pointer (some ⟨g,0,none⟩):=rfl;have b:∀(j:Nat) (u:Value),[v][j]?=some u->w.cell? ((⟨g,0,none⟩:Addr).add j)=some u:=by
  intro j u f;cases j with
  | zero =>
   simp only[abm,aa1] at f;subst f;rw[dI];simp[World.cell?,r]
  | succ j=>simp at f
 have h:=pA q hi b (n:=1) rfl (by rw[c]);rw[c] at h;simp only[execOp,s,m,Sem.run_bind,h,Result.andThen_ok,Sem.run_pure,iG]
theorem Ko {y:Operand}{y':X}(p:St F L w) (he:aC L ρ a) (hd:∀k,o.dst=some k->k<a.tmps.size)
  (r:o.op=.nilCheck y) (hy:bQ y=some y') (l:Ru P=true) (c:evalOp P (.nilck y') o.dst F L ρ K):o.wp P a w (bK F L w a K) Q:=by
 have q:=aI hy he;simp only[evalOp,aM] at c;split at c
 ·rename_i k off b;obtain⟨g,ty,cs,hg⟩:=qz hy he b;refine cj p he hd (v:=.pointer (some ⟨g,off,none⟩)) (x:=.own k off) ?_ (by simp only[conc,hg]) (fun k' ac e=>by injection e with e1 e2;subst e1;exact⟨g,ty,cs,hg⟩) (fun _ _ e=>by cases e) c;simp[execOp,r,q,val,b,conc,hg]
 ·rename_i d j b;obtain⟨s,c⟩:=c;cases d with
  | none=>exact o5 rfl s
  | some d =>
   refine cj p he hd (v:=.pointer (some (d.add j))) (x:=.el (some d) j) ?_ rfl (fun _ _ e=>by cases e) (fun an j' e=>by injection e with e1 e2;subst e1;simp) c;simp[execOp,r,q,val,b,conc]
 ·rename_i d b;refine cj p he hd (v:=.pointer (some d)) (x:=.v (.pointer (some d))) ?_ rfl cK fD c;simp[execOp,r,q,dh b]
 ·rename_i f h n b;refine cj p he hd (v:=.func (.func f) h n) (x:=.v (.func (.func f) h n)) ?_ rfl cK fD c;simp[execOp,r,q,dh b]
 ·rename_i nm h n b;split at c
  case h_2=>exact c.elim
  rename_i t u z;obtain⟨hm,c⟩:=c;have h1:=abg.1 l _ (GX hm);obtain⟨f,hf⟩:=Option.isSome_iff_exists.1 h1;have m:h[0]?=some (.iface t u):=by rw[<-Array.getElem?_toList,z];rfl
  refine cj p he hd (v:=.func (.method nm) h n) (x:=.v (.func (.method nm) h n)) ?_ rfl cK fD c;have hn:=IQ (P:=P) hf u w;simp only[execOp,r,q,dh b,m,Sem.run_bind,run_program,Result.andThen_ok,Sem.run_pure,hn];rfl
 ·exact c.elim
theorem DL:∀{l:List Value},kE l=true->∀u∈l,u.oneCell'=true
 | [],_,u,b=>by cases b
 | v::l,h,u,b=>by
  simp only[kE] at h;split at h
  ·rename_i h1;rcases abd.1 b with rfl | b
   ·exact h1
   ·exact DL h u b
  ·cases h
theorem DN {t:TypeId}{i:TypeInfo}(hi:P.info? t=some i) {g off:Nat}{v:Value}{b:Array Value}{ty:TypeId}(f:w.heap[g]?=some (.cells b ty (0,0)))
  (e:v.cells.size=i.size) (c:off+v.cells.size<=b.size) (h1:∀u∈v.cells.toList,u.oneCell'=true) :
  (Instr.storeAt t (.pointer (some ⟨g,off,none⟩)) v).run P w=.ok () (w.setRow g (bY b.toList off v.cells.toList).toArray):=by
 have d:=run_storeCells_at P g off ty v.cells.toList 0 b w f (by simpa using c) h1;simp only[Nat.add_zero] at d;simp only[Instr.storeAt,Instr.sureAddr,storeVar,Sem.run_bind,Sem.run_pure,Result.andThen_ok,sizeOf,typeInfo,run_program,hi];rw[fo (by omega)];rw[d];rfl
theorem ug (w:World) (g:Nat) (cs:Array Value):w.grownBy (w.setRow g cs) (some g) :=
 ⟨rfl,rfl,rfl,by simp[World.setRow],fun k _ b=>setRow_other w g k cs (fun e=>b (by rw[e]))⟩
theorem Kq {t:TypeId}{y z:Operand}{y' z':X}{i:TypeInfo}(hs:St F L w) (he:aC L ρ a) (hd:∀k,o.dst=some k->k<a.tmps.size)
  (ho:o.op=.store t y z) (hi:P.info? t=some i) (ca:i.size≠0) (hy:bQ y=some y') (hz:bQ z=some z')
  (p:evalOp P (.store i.size y' z') o.dst F L ρ K):o.wp P a w (bK F L w a K) Q:=by
 have ey:=aI hy he;have ez:=aI hz he;have ao:aO (val L ρ z')=(a.eval z).cells.toList:=by rw[ez,n8]
 have turn:∀(k:Nat) (g:Nat) (oo o':Own) (f:Array Value) (ty:TypeId) (off:Nat),L.get k=some oo->oo.blk=some g->o'.blk=some g->w.heap[g]?=some (.cells f ty (0,0)) ->
   (a.eval z).cells.size=i.size->off+(a.eval z).cells.size<=f.size->(∀u∈(a.eval z).cells.toList,u.oneCell'=true)->a.eval y=.pointer (some ⟨g,off,none⟩) ->
   o'.ok (w.setRow g (bY f.toList off (a.eval z).cells.toList).toArray)->(∀g' ty' cs',oo=.box g' ty' cs'->∃ae,o'=.box g' ty' ae) ->
   K F (L.set k o') (put o.dst (.v undef) ρ)->o.wp P a w (bK F L w a K) Q:=by
  intro k g oo o' f ty off hk hb bc hg bj d h1 al bs s p;have q:=ug w g (bY f.toList off (a.eval z).cells.toList).toArray;have bv:St F (L.set k o') (w.setRow g (bY f.toList off (a.eval z).cells.toList).toArray) :=
   hs.turn hk bs (fun b av bb=>q.block b av (fun e=>bb (by rw[hb,e]))) (fun g' ba=>.inl (by rw[hb];rw[bc] at ba;exact ba))
  refine DG he hd (w':=w.setRow g (bY f.toList off (a.eval z).cells.toList).toArray) ?_ bv ?_ ?_ p
  ·simp[execOp,ho,al,DN hi hg bj d h1]
  ·refine⟨aA.le_refl F,rfl,rfl,rfl,q.size,fun b av hn=>q.block b av (fun e=>hn ⟨k,oo,hk,by rw[hb,e]⟩),fun b h=>.inl h,fun b h=>?_⟩;rcases Loc.aaA h with h | h
   ·rw[bc] at h;exact .inl ⟨k,oo,hk,by rw[hb];exact h⟩
   ·exact .inl h
  ·intro j g' ty' cs' e;rw[Loc.aap];split
   ·rename_i hj;subst hj;rw[hk] at e;injection e with e
    obtain⟨ae,h⟩:=s g' ty' cs' e;exact⟨ae,by rw[h]⟩
   ·exact⟨cs',e⟩
 have l:∀(ad:Option Addr) (j:Nat),ad≠none->a.eval y=conc L (.el ad j)->iD (aO (val L ρ z')) i.size=true->kE (aO (val L ρ z'))=true ->
   (rD L ad j (aO (val L ρ z')) fun L'=>K F L' (put o.dst (.v undef) ρ))->o.wp P a w (bK F L w a K) Q:=by
  rintro ad j bb al x h1 ⟨k,v,ty,sz,m,xs,ce,c,hk,rfl,rfl,d,be,p⟩;have x:=jY x;rw[ao] at x be d p;have ar:(a.eval z).cells.size=i.size:=by simpa using x
  have r:=hs.own k _ hk;simp only[Own.ok] at r;obtain⟨hx,r⟩:=r;rcases r with⟨e,_⟩ | ⟨g,cap,f,e,bt,hg,bi,bm,ag,ac⟩
  ·cases e
  ·injection e with e1 e2 e3
   injection e1 with e1
   subst e1 e3;have cd:m*sz<=f.size:=by rw[ag];exact Nat.mul_le_mul_right _ bi
   rw[<-ac] at d;have an:j+(a.eval z).cells.size<=m*sz:=by simp at d;omega
   refine turn k g _ (.row (.slice (some ⟨g,0,none⟩) m c) ty sz m (bY xs j (a.eval z).cells.toList)) f ty j hk rfl rfl hg ar (by omega) be (by rw[al];simp only[conc];rw[dI];simp) ?_ (fun g' ty' cs' e=>by cases e) p;refine⟨?_,.inr ⟨g,c,_,rfl,bt,setRow_heap w g f _ ty _ hg,bi,bm,?_,?_⟩⟩
   ·rw[kV _ _ _ (by rw[hx];simpa using an)];exact hx
   ·have:(bY f.toList j (a.eval z).cells.toList).length=f.size:=by rw[kV _ _ _ (by simp;omega)];simp
    simp[this,ag]
   ·rw[List.toList_toArray,<-ac];apply ab5;intro n;have bp:j+(a.eval z).cells.toList.length<=f.toList.length:=by simp;omega
    rw[pz (by simp;omega)]
    by_cases hn:n<m*sz
    ·rw[List.getElem?_take_of_lt hn,pz bp,List.getElem?_take_of_lt hn]
    ·rw[abE (by simp;omega)];have h1:¬n<j:=by omega
     have h2:¬n<j+(a.eval z).cells.toList.length:=by simp;omega
     rw[fo h1,fo h2,abE (by simp;omega)]
 simp only[evalOp,aM] at p;split at p
 ·rename_i x h1 aa;rename_i k off;have x:=jY x;have h1:=DL h1;rw[ao] at x h1;split at p
  case h_2=>exact p.elim
  rename_i g ty cs hk;split at p
  case h_2=>exact p.elim
  rename_i d;have bd:=xH d;have d:=jY (Cn d);have s:w.heap[g]?=some (.cells cs.toArray ty (0,0)):=by rw[<-jG bd];exact hs.own k _ hk
  have bo:off+i.size<=cs.length:=by simp at d;omega
  rw[ao] at p;have ar:(a.eval z).cells.size=i.size:=by simpa using x
  refine turn k g _ (.box g ty (bY cs off (a.eval z).cells.toList)) cs.toArray ty off hk rfl rfl s ar (by simp;omega) h1 (by rw[ey];simp only[val,aa,conc,hk]) ?_ (fun g' ty' cs' e=>by injection e with e1 e2 e3;subst e1 e2;exact⟨_,rfl⟩) p;show _=_;rw[jG bd];exact setRow_heap w g cs.toArray _ ty _ s
 ·rename_i x h1 aa;exact l _ _ (rE hy he aa) (by rw[ey];simp only[val,aa]) x h1 p
 ·rename_i x h1 aa;rename_i ad;refine l (some ad) 0 (by simp) (by rw[ey];simp only[val,aa,conc];simp[Addr.add]) x h1 p
 ·exact p.elim
end
section
variable {P:Program}(w:World)
end
section
variable {P:Program}{F:aA}{L:Loc}{ρ:Env}{a:Act}{w:World}{K:dQ}{o:Oper}{Q:Exit->Act->World->Prop}
theorem Be {b:Option Operand}{c:Option X}(h:tZ b=some c) (he:aC L ρ a) {d i:Int}(hi:nX ρ d c=some i) :
  (b=none/\i=d)\/∃y k,b=some y/\a.eval y=.int k i:=by
 cases b with
 | none=>simp only[tZ,aa1] at h;subst h;simp only[nX,aa1] at hi;exact .inl ⟨rfl,hi.symm⟩
 | some y =>
  simp only[tZ] at h;split at h
  case h_2=>cases h
  rename_i x f;injection h with h
  subst h;simp only[nX] at hi;split at hi
  case h_2=>cases hi
  rename_i k j e;injection hi with hi
  subst hi;exact .inr ⟨y,k,rfl,by rw[aI f he,dh e]⟩
theorem jZ {k:IntKind}{i:Int}{y:Nat}{code:BoundsCode}(h0:0<=i) (h1:i<=y):(Instr.sliceBound (.int k i) y code).run P w=.ok i.toNat w:=by
 simp[Instr.sliceBound,asIntOf,h0,h1]
theorem xj {b:Bool}{n c:Nat}{lo hi:Option Operand}{d e:Option X}{l h:Int}(p:tZ lo=some d) (q:tZ hi=some e) (he:aC L ρ a)
  (el:nX ρ 0 d=some l) (m:nX ρ n e=some h) (h1:0<=l) (h2:l<=h) (h3:h<=c) :
  (Instr.sliceBounds b n c (lo.map a.eval) (hi.map a.eval) none).run P w=.ok (l.toNat,h.toNat,c) w:=by
 unfold Instr.sliceBounds;rcases Be p he el with⟨rfl,rfl⟩ | ⟨y,k,rfl,f⟩<;>rcases Be q he m with⟨rfl,rfl⟩ | ⟨z,r,rfl,j⟩
 ·simp
 ·simp[j,jZ (P:=P) (w:=w) (show 0<=h by omega) h3]
 ·simp[f,jZ (P:=P) (w:=w) h1 h2]
 ·have h4:l<=(h.toNat:Nat):=by omega
  simp[f,j,jZ (P:=P) (w:=w) (show 0<=h by omega) h3,jZ (P:=P) (w:=w) h1 h4]
theorem SX {t e:TypeId}{y:Operand}{lo up:Option Operand}{q:X}{f j:Option X}{i:TypeInfo}(hs:St F L w) (he:aC L ρ a) (hd:∀k,o.dst=some k->k<a.tmps.size)
  (ho:o.op=.slice t y lo up none) (z:P.underlying t=some (.slice e)) (hi:P.info? e=some i) (r:bQ y=some q) (u:tZ lo=some f) (hh:tZ up=some j)
  (d:evalOp P (.slc i.size q f j) o.dst F L ρ K):o.wp P a w (bK F L w a K) Q:=by
 have ey:=aI r he;simp only[evalOp,aM] at d;split at d
 case h_2=>exact d.elim
 rename_i p n c m;split at d
 case h_2=>exact d.elim
 rename_i l h el s;obtain⟨h1,h2,h3,d⟩:=d;refine cj hs he hd (v:=sU p c l.toNat h.toNat i.size) (x:=.v (sU p c l.toNat h.toNat i.size)) ?_ rfl cK fD d;have hb:=xj (P:=P) (w:=w) (b:=true) u hh he el s h1 h2 h3;simp[execOp,ho,ey,dh m,Instr.sliceAt,Instr.slice,run_underlying z,hb,sizeOf,typeInfo,hi,sU]
theorem yd (z:Array Value) (n:Nat) (h:0<z.size):(madeCells z (n*z.size)).toList=(List.replicate n z.toList).flatten:=by
 induction n with
 | zero=>simp[madeCells]
 | succ n f =>
  rw[List.replicate_succ',List.flatten_append,<-f];apply ab5;intro j;have d:(madeCells z (n*z.size)).toList.length=n*z.size:=by simp[madeCells]
  have b:∀m j,j<m->(madeCells z m).toList[j]?=some (z[j % z.size]!):=by
   intro m j c;simp[madeCells,c]
  have e:(n+1)*z.size=n*z.size+z.size:=Nat.succ_mul _ _
  by_cases h1:j<n*z.size
  ·rw[abV (by omega),b _ _ (by omega),b _ _ h1]
  ·rw[abW (by omega),d]
   by_cases h2:j<(n+1)*z.size
   ·rw[b _ _ h2];have h3:j-n*z.size<z.size:=by omega
    have h4:j % z.size=j-n*z.size:=by
     have:j=(j-n*z.size)+z.size*n:=by rw[Nat.mul_comm z.size n];omega
     rw[this,Nat.add_mul_mod_self_left,Nat.mod_eq_of_lt h3,Nat.mul_comm z.size n];omega
    simp[h3,h4]
   ·rw[abE (by simp[madeCells];omega),abE (by simp;omega)]
theorem Kr {t e:TypeId}{y z:Operand}{y' z':X}{i:TypeInfo}{b:Value}(hs:St F L w) (he:aC L ρ a) (hd:∀k,o.dst=some k->k<a.tmps.size)
  (ho:o.op=.makeSlice t y z) (ht:P.underlying t=some (.slice e)) (hi:P.info? e=some i) (ag:i.zero=some b) (s:b.cells.size=i.size) (an:0<i.size) (hy:bQ y=some y') (hz:bQ z=some z')
  (f:evalOp P (.makeS e i.size i.bytes b.cells.toList y' z') o.dst F L ρ K):o.wp P a w (bK F L w a K) Q:=by
 have ey:=aI hy he;have ez:=aI hz he;simp only[evalOp,aM] at f;split at f
 case h_2=>exact f.elim
 rename_i k1 n k2 m k ac aa ar;split at f
 case h_2=>exact f.elim
 rename_i _ hk;obtain⟨h0,p,hb,l,f⟩:=f;have f:=f w.heap.size;obtain⟨r,rfl⟩:=Int.eq_ofNat_of_zero_le h0;obtain⟨q,rfl⟩:=Int.eq_ofNat_of_zero_le (Int.le_trans h0 p);simp only[Int.toNat_natCast] at hb l f;have ab:r<=q:=by omega
 have j:(i.bytes:Int)*(q:Int)<=281474976710656:=by
  have h:((i.bytes*q:Nat):Int)<=281474976710656:=by rw[Nat.mul_comm];omega
  rwa [Int.natCast_mul] at h
 have ae:(q:Int)<=9223372036854775807:=by
  have h:=l;simp[maxLen] at h;omega
 have hr:=run_make (P:=P) w t e i b ht hi ag k1 k2 r q (by omega) p j ae;simp only[Int.toNat_natCast] at hr;have d:=yd b.cells q (by omega);rw[s] at d;have c:∀m:Nat,(List.replicate m b.cells.toList).flatten.length=m*i.size:=by
  intro m;simp[s]
 have ad:(List.replicate r b.cells.toList).flatten=(List.replicate q b.cells.toList).flatten.take (r*i.size):=by
  have e1:q=r+(q-r):=by omega
  conv=>rhs;rw[e1]
  rw[<-List.replicate_append_replicate,List.flatten_append,List.take_append_of_le_length (by rw[c];exact abh _),abA (by rw[c];exact abh _)]
 have u:(w.alloc (.cells (madeCells b.cells (q*i.size)) e)).ownsRow 0 e i.size (.slice (some ⟨w.heap.size,0,none⟩) r q) r (List.replicate r b.cells.toList).flatten:=by
  refine⟨c r,.inr ⟨w.heap.size,q,madeCells b.cells (q*i.size),rfl,abr _,iI w _,ab,l,size_madeCells _ _,?_⟩⟩;rw[ad,<-d]
 obtain⟨h1,h2,h3⟩:=kJ hs hk (cs:=madeCells b.cells (q*i.size)) (t:=e) (e:=.row (.slice (some ⟨w.heap.size,0,none⟩) r q) e i.size r (List.replicate r b.cells.toList).flatten) rfl u;refine jW he hd (v:=.slice (some ⟨w.heap.size,0,none⟩) r q) (x:=.v (.slice (some ⟨w.heap.size,0,none⟩) r q)) ?_ h1 h2 rfl cK fD h3 f;simp only[execOp,ho,ey,ez,dh ac,dh aa,Sem.run_bind,hr,Result.andThen_ok,Sem.run_pure]
theorem Ks (x:St F L w) {k:Nat}{e:TypeId}{sz n t:Nat}{s v:Value}{xs f:List Value}{w':World}
  (m:L.get k=some (.row s e sz n xs)\/(L.get k=none/\s=.slice none 0 0)) (p:w'.ownsRow 0 e sz v t f) (d:w.grownBy w' s.ownBlock)
  (q:v.ownBlock=s.ownBlock\/v.ownBlock=some w.heap.size) :
  St F (L.set k (.row v e sz t f)) w'/\Step F L w F (L.set k (.row v e sz t f)) w'/\(∀j g ty cs,L.get j=some (.box g ty cs)->∃cs',(L.set k (.row v e sz t f)).get j=some (.box g ty cs')):=by
 have l:∀j g ty cs,L.get j=some (.box g ty cs)->∃cs',(L.set k (.row v e sz t f)).get j=some (.box g ty cs'):=by
  intro j g ty cs ej;rw[Loc.aap];split
  ·rename_i hj;subst hj;rcases m with h | ⟨h,_⟩<;>rw[h] at ej<;>cases ej
  ·exact⟨cs,ej⟩
 rcases m with u | ⟨u,rfl⟩
 ·refine⟨x.turn u p (fun b hb z=>d.block b hb (fun e=>z (by simpa[Own.blk] using e.symm))) (fun g c=>?_),⟨aA.le_refl F,d.os,d.tape,d.output,d.size,fun b hb hn=>d.block b hb (fun e=>hn ⟨k,_,u,e.symm⟩),fun b h=>.inl h,fun b h=>?_⟩,l⟩
  ·rcases q with h | h
   ·exact .inl (by simp only[Own.blk] at c ⊢;rw[<-h];exact c)
   ·simp only[Own.blk] at c;rw[h] at c;injection c with c;exact .inr (by omega)
  ·rcases Loc.aaA h with h | h
   ·simp only[Own.blk] at h;rcases q with r | r
    ·exact .inl ⟨k,_,u,by simp only[Own.blk];rw[<-r];exact h⟩
    ·rw[r] at h;injection h with h;exact .inr (by omega)
   ·exact .inl h
 ·have y:∀g,v.ownBlock=some g->w.heap.size<=g:=by
   intro g h;rcases q with r | r
   ·rw[r] at h;cases h
   ·rw[r] at h;injection h with h;omega
  have aa:St F L w':=x.keep fun b hb=>d.block b hb (by simp[Value.ownBlock]);refine⟨aa.put u p fun g c=>⟨?_,fun ho=>?_⟩,⟨aA.le_refl F,d.os,d.tape,d.output,d.size,fun b hb hn=>d.block b hb (by simp[Value.ownBlock]),fun b h=>.inl h,fun b h=>?_⟩,l⟩
  ·cases hF:F g with
   | none=>rfl
   | some _=>have h1:=x.aaK (b:=g) (by rw[hF];simp);have h2:=y g c;omega
  ·have h1:=x.aaN ho;have h2:=y g c;omega
  ·rcases Loc.aaA h with h | h
   ·exact .inr (y b h)
   ·exact .inl h
theorem DP {e:TypeId}{sz n:Nat}{v:Value}{xs:List Value}(h:w.ownsRow 0 e sz v n xs):∃a c,v=.slice a n c/\(a=none->n=0):=by
 rcases h.2 with⟨rfl,rfl⟩ | ⟨g,cap,b,rfl,_⟩
 ·exact⟨none,0,rfl,fun _=>rfl⟩
 ·exact⟨_,cap,rfl,fun e=>(by cases e)⟩
theorem sW {t ty e:TypeId}{i:TypeInfo}(h:P.underlying t=some (.slice e)) (hi:P.info? e=some i) {s:Value}{n:Nat}{xs:List Value}(b:w.ownsRow 0 e i.size s n xs) (d:Option Addr) (c:Nat) :
  ∃w',(Builtin.append_ #[t,t] ty #[s,.slice d 0 c]).run P w=.ok s w'/\w'=w:=by
 refine⟨w,?_,rfl⟩;have hf:(Builtin.firstCells i.size 0 (.slice d 0 c)).run P w=.ok #[] w:=by
  cases d<;>simp[Builtin.firstCells,loadCells,loadCellsFrom]
 rcases b.2 with⟨rfl,rfl⟩ | ⟨g,cap,j,rfl,_,_,f,_⟩
 ·simp[Builtin.append_,run_underlying h,sizeOf,typeInfo,hi,Builtin.lenOf,hf]
 ·simp[Builtin.append_,run_underlying h,sizeOf,typeInfo,hi,Builtin.lenOf,hf,f,storeCells]
theorem SY {t e:TypeId}{y z:Operand}{y' z':X}{i:TypeInfo}{zv:Value}{c:Call}(hs:St F L w) (he:aC L ρ a) (hd:∀k,o.dst=some k->k<a.tmps.size)
  (ho:o.op=.call c) (hc:c.callee=.builtin .append) (ha:c.args=#[y,z]) (cb:c.argTypes=#[t,t]) (ht:P.underlying t=some (.slice e)) (hi:P.info? e=some i) (bv:i.zero=some zv) (bs:zv.cells.size=i.size) (bb:0<i.size)
  (hy:bQ y=some y') (hz:bQ z=some z') (hK:evalOp P (.app e i.size i.bytes zv.cells.toList y' z') o.dst F L ρ K):o.wp P a w (bK F L w a K) Q:=by
 have ey:=aI hy he;have ez:=aI hz he;simp only[evalOp,aM] at hK;split at hK
 case h_2=>exact hK.elim
 rename_i s x ce bp;obtain⟨kd,n,xs,m,f,bl,⟨ad,cx,rfl,al,aE⟩,h1,bu,bt,hK⟩:=hK;have ao:m≠0->∃d,ad=some d/\∀j u,f[j]?=some u->w.cell? (d.add j)=some u:=by
  intro hm;rcases aE with q | ⟨ar,_⟩ | ⟨k,v,ty,cp,m',ys,d,c',hk,rfl,rfl,q⟩
  ·obtain⟨d,e',cf,ab⟩:=q.cell hs;refine⟨d,e',fun j u hu=>?_⟩;have:=ab j u hu
   rwa [Nat.zero_add] at this
  ·exact o5 ar hm
  ·refine⟨d,rfl,fun j u hu=>?_⟩;have r:=hs.own k _ hk;simp only[Own.ok] at r;have h0:=World.ownsRow.cells r (g:=d.block) rfl j u (q j u hu);rcases r.2 with⟨e',_⟩ | ⟨g,cap,aw,e',_⟩
   ·cases e'
   ·injection e' with e1 e2 e3
    injection e1 with e1
    subst e1;exact h0
 have bi:(L.get kd=some (.row s e i.size n xs)\/(L.get kd=none/\n=0/\xs=[]/\s=.slice none 0 0))\/(L.get kd=none/\∃ad,s=.slice (some ad) n n/\0<m/\xs.length=n*i.size/\(dY F (some ad) 0 xs\/(n=0/\xs=[]))):=by
  rcases bl with h | h | h
  ·exact .inl (.inl h)
  ·exact .inl (.inr h)
  ·exact .inr h
 rcases bi with ba | ⟨bz,ca,rfl,ar,cr,cw⟩
 case inr =>
  obtain⟨d,rfl,p⟩:=ao (by omega);have cM:∀j u,xs[j]?=some u->w.cell? (ca.add j)=some u:=by
   intro j u hu;rcases cw with q | ⟨_,rfl⟩
   ·obtain⟨dn,e',cf,ab⟩:=q.cell hs;injection e' with e'
    subst e';have:=ab j u hu
    rwa [Nat.zero_add] at this
   ·simp at hu
  obtain⟨v,w',r,l,hg⟩:=run_append_arg_grows (P:=P) w t o.type e i zv i.size i.bytes ht hi bv rfl rfl bs bb ca n n xs cr cM d m cx f al p (by omega) bu bt;have ac:w'.ownsRow 0 e i.size v (n+m) (xs++f):=by
   refine⟨l.1,?_⟩;rcases l.2 with h | ⟨g,cap,aw,e1,e2,e3⟩
   ·exact .inl h
   ·exact .inr ⟨g,cap,aw,e1,abr _,e3⟩
  have bj:v.ownBlock=none\/(∃g,v.ownBlock=some g/\w.heap.size<=g):=by
   rcases l.2 with⟨h,_⟩ | ⟨g,cap,aw,e1,e2,e3⟩
   ·rw[h];exact .inl rfl
   ·rw[e1];exact .inr ⟨g,rfl,e2⟩
  have hv:∀g,v.ownBlock=some g->w.heap.size<=g:=by
   intro g h;rcases bj with h' | ⟨g',h',h2⟩
   ·rw[h'] at h;cases h
   ·rw[h'] at h;injection h with h;omega
  have cF:St F L w':=hs.keep fun b hb=>hg.block b hb (by simp);have da:St F (L.set kd (.row v e i.size (n+m) (xs++f))) w':=cF.put bz ac fun g bm=>⟨by
   cases hF:F g with
   | none=>rfl
   | some _=>have h1:=hs.aaK (b:=g) (by rw[hF];simp);have h2:=hv g bm;omega,fun ho=>by have h1:=hs.aaN ho;have h2:=hv g bm;omega⟩
  have bd:Step F L w F (L.set kd (.row v e i.size (n+m) (xs++f))) w':=⟨aA.le_refl F,hg.os,hg.tape,hg.output,hg.size,fun b hb hn=>hg.block b hb (by simp),fun b h=>.inl h,fun b h=>by
   rcases Loc.aaA h with h | h
   ·exact .inr (hv b h)
   ·exact .inl h⟩
  have cd:∀j g ty cs,L.get j=some (.box g ty cs)->∃cs',(L.set kd (.row v e i.size (n+m) (xs++f))).get j=some (.box g ty cs'):=by
   intro j g ty cs ej;rw[Loc.aap,fo (by rintro rfl;rw[bz] at ej;cases ej)];exact⟨cs,ej⟩
  refine jW he hd (v:=v) (x:=.v v) ?_ da bd rfl cK fD cd (hK v (DP ac));simp[execOp,ho,resolve,hc,ha,cb,invoke,builtin,ey,ez,dh ce,dh bp,r]
 have ag:w.ownsRow 0 e i.size s n xs:=by
  rcases ba with h | ⟨_,rfl,rfl,rfl⟩
  ·exact hs.own kd _ h
  ·exact World.ownsRow_nil w 0 e i.size
 have bk:L.get kd=some (.row s e i.size n xs)\/(L.get kd=none/\s=.slice none 0 0):=by
  rcases ba with h | ⟨h,_,_,h'⟩
  ·exact .inl h
  ·exact .inr ⟨h,h'⟩
 have fin:∀(v:Value) (w':World),(Builtin.append_ #[t,t] o.type #[s,.slice ad m cx]).run P w=.ok v w'->w'.ownsRow 0 e i.size v (n+m) (xs++f)->w.grownBy w' s.ownBlock->(v.ownBlock=s.ownBlock\/v.ownBlock=some w.heap.size)->o.wp P a w (bK F L w a K) Q:=by
  intro v w' r l hg bj;obtain⟨g1,g2,g3⟩:=Ks hs bk l hg bj;refine jW he hd (v:=v) (x:=.v v) ?_ g1 g2 rfl cK fD g3 (hK v (DP l));simp[execOp,ho,resolve,hc,ha,cb,invoke,builtin,ey,ez,dh ce,dh bp,r]
 by_cases hm:m=0
 ·subst hm;have hn:f=[]:=abO (by simpa using al);subst hn;obtain⟨w',r,rfl⟩:=sW (P:=P) (ty:=o.type) ht hi ag ad cx;exact fin s w' r (by simpa using ag) (World.grownBy.refl _ _) (.inl rfl)
 ·have p:∃d,ad=some d/\∀j u,f[j]?=some u->w.cell? (d.add j)=some u:=by
   rcases aE with q | ⟨ar,_⟩ | ⟨k,v,ty,cp,m',ys,d,c',hk,rfl,rfl,q⟩
   ·obtain⟨d,e',cf,ab⟩:=q.cell hs;refine⟨d,e',fun j u hu=>?_⟩;have:=ab j u hu
    rwa [Nat.zero_add] at this
   ·exact o5 ar hm
   ·refine⟨d,rfl,fun j u hu=>?_⟩;have r:=hs.own k _ hk;simp only[Own.ok] at r;have h0:=World.ownsRow.cells r (g:=d.block) rfl j u (q j u hu);rcases r.2 with⟨e',_⟩ | ⟨g,cap,aw,e',_⟩
    ·cases e'
    ·injection e' with e1 e2 e3
     injection e1 with e1
     subst e1;exact h0
  obtain⟨d,rfl,p⟩:=p;obtain⟨v,w',r,h2,h3,_,h5⟩:=run_append_own_at (P:=P) w 0 t o.type e i zv i.size i.bytes ht hi bv rfl rfl bs bb s n xs ag d m cx f al p h1 bu bt (abr _);exact fin v w' r h2 h3 h5
end
section
variable {P:Program}{F:aA}{L:Loc}{ρ:Env}{a:Act}{w:World}{K:dQ}{o:Oper}{Q:Exit->Act->World->Prop}
theorem wF:∀(l:List Own) (k j:Nat),Loc.get (tV k l) j=if k<=j then l[j-k]? else none
 | [],k,j=>by simp[tV,Loc.get]
 | o::l,k,j=>by
  simp only[tV,Loc.get];cases h:Nat.beq k j with
  | true=>have:=aa5 h;subst this;simp
  | false =>
   have b:=gO h;simp only[wF l (k+1) j]
   by_cases h1:k<=j
   ·rw[eu (by omega),eu h1,show j-k=(j-(k+1))+1 by omega,abv]
   ·rw[fo (by omega),fo h1]
theorem aJ (l:List Own) (j:Nat):Loc.get (inp l) j=if 1000<=j then l[j-1000]? else none:=wF l 1000 j
theorem cP:∀{L:Loc}{ks:List Nat}{l:List Own},L.sub ks=some l->l.length=ks.length/\∀(i:Nat) (k:Nat),ks[i]?=some k->L.get k=l[i]?
 | L,[],l,h=>by simp only[Loc.sub,aa1] at h;subst h;simp
 | L,k::ks,l,h=>by
  simp only[Loc.sub] at h;split at h
  case h_2=>cases h
  rename_i o e h1 h2;injection h with h
  subst h;obtain⟨d,b⟩:=cP h2;refine⟨by simp[d],fun i c hi=>?_⟩;cases i with
  | zero=>simp at hi;subst hi;simpa using h1
  | succ i=>simp at hi;simpa using b i c hi
theorem fH:∀(ks:List Nat) (L:Loc) (j:Nat),(L.aas ks).get j=if j∈ks then none else L.get j
 | [],L,j=>by simp[Loc.aas]
 | k::ks,L,j=>by
  simp only[Loc.aas,fH ks,Loc.aau,abd]
  by_cases h1:j=k<;>by_cases h2:j∈ks<;>simp[h1,h2]
theorem dB:∀(ko:List Nat) (l:List Own) (L:Loc) (j:Nat),ko.Nodup->ko.length=l.length ->
  ((L.puts ko l).get j=L.get j/\j∉ko)\/∃i,ko[i]?=some j/\(L.puts ko l).get j=l[i]?/\i<l.length
 | [],l,L,j,_,h=>by
  refine .inl ⟨?_,by simp⟩;cases l<;>rfl
 | k::ko,[],L,j,_,h=>by simp at h
 | k::ko,o::l,L,j,c,h=>by
  simp only[abo,Nat.add_right_cancel_iff] at h;rw[List.nodup_cons] at c;simp only[Loc.puts];rcases dB ko l (L.set k o) j c.2 h with⟨h1,h2⟩ | ⟨i,h1,h2,h3⟩
  ·rw[Loc.aap] at h1
   by_cases b:j=k
   ·subst b;rw[eu rfl] at h1;exact .inr ⟨0,by simp,by simpa using h1,by simp⟩
   ·rw[fo b] at h1;exact .inl ⟨h1,by simp[b,h2]⟩
  ·exact .inr ⟨i+1,by simpa using h1,by simpa using h2,by simp;omega⟩
theorem Bf {l:List Nat}(h:l.Nodup) {i j:Nat}{k:Nat}(hi:l[i]?=some k) (b:l[j]?=some k):i=j:=by
 induction l generalizing i j with
 | nil=>simp at hi
 | cons x l c =>
  rw[List.nodup_cons] at h;cases i with
  | zero =>
   cases j with
   | zero=>rfl
   | succ j =>
    simp at hi b;subst hi;exact o5 (aa8 b) h.1
  | succ i =>
   cases j with
   | zero =>
    simp at hi b;subst b;exact o5 (aa8 hi) h.1
   | succ j =>
    simp at hi b;rw[c h.2 hi b]
theorem St.handed (c:St F L w) {ks:List Nat}{l:List Own}(b:L.sub ks=some l) (r:ks.Nodup):St F (inp l) w:=by
 obtain⟨y,u⟩:=cP b;have key:∀j p,Loc.get (inp l) j=some p->∃k,1000<=j/\ks[j-1000]?=some k/\L.get k=some p:=by
  intro j p e;rw[aJ] at e;split at e
  case isFalse=>cases e
  rename_i h1;have s:j-1000<l.length:=(aa6.1 e).1;have m:ks[j-1000]?=some (ks[j-1000]'(by omega)):=aa4 (by omega);exact⟨_,h1,m,by rw[u _ _ m];exact e⟩
 refine⟨c.frz,fun j p e=>?_,fun j p g e hb=>?_,fun j x p n g e t hb f=>?_,c.glob⟩
 ·obtain⟨k,_,_,h⟩:=key j p e;exact c.own k p h
 ·obtain⟨k,_,_,h⟩:=key j p e;exact c.off k p g h hb
 ·obtain⟨k,h1,h2,h3⟩:=key j p e;obtain⟨v,q,h2',d⟩:=key x n t;have:=c.sep k v p n g h3 d hb f;subst this;have:=Bf r h2 h2';omega
theorem gF (t:St F L w) {ks ko:List Nat}{l lo:List Own}(y:L.sub ks=some l) (hn:ks.Nodup) (s:ko.Nodup) (am:∀k,k∈ko->k∈ks\/L.get k=none)
  {F':aA}{w':World}(q:St F' (inp lo) w') (d:Step F (inp l) w F' (inp lo) w') (ab:ko.length=lo.length) :
  St F' ((L.aas ks).puts ko lo) w'/\Step F L w F' ((L.aas ks).puts ko lo) w':=by
 obtain⟨hl,hg⟩:=cP y;have m:∀b,(inp l).owns b->∃k o,k∈ks/\L.get k=some o/\o.blk=some b:=by
  rintro b ⟨j,p,e,hb⟩;rw[aJ] at e;split at e
  case isFalse=>cases e
  have ao:j-1000<l.length:=(aa6.1 e).1;have hk:ks[j-1000]?=some (ks[j-1000]'(by omega)):=aa4 (by omega);exact⟨_,p,aa8 hk,by rw[hg _ _ hk];exact e,hb⟩
 have f:∀k p b,k∉ks->L.get k=some p->p.blk=some b->¬(inp l).owns b:=by
  intro k p b hk e hb ho;obtain⟨u,o,ae,e',c⟩:=m b ho;exact hk (by rw[t.sep k u p o b e e' hb c];exact ae)
 have get:∀k p,((L.aas ks).puts ko lo).get k=some p->(k∉ks/\k∉ko/\L.get k=some p)\/∃i,ko[i]?=some k/\Loc.get (inp lo) (1000+i)=some p:=by
  intro k p e;rcases dB ko lo (L.aas ks) k s ab with⟨h1,h2⟩ | ⟨i,h1,h2,h3⟩
  ·rw[h1,fH] at e;split at e
   ·cases e
   ·rename_i h3;exact .inl ⟨h3,h2,e⟩
  ·rw[h2] at e;exact .inr ⟨i,h1,by rw[aJ,eu (by omega),show 1000+i-1000=i by omega];exact e⟩
 refine⟨⟨q.frz,fun k p e=>?_,fun k p b e hb=>?_,fun k u p r b e e' hb c=>?_,q.glob⟩,⟨d.le,d.os,d.tape,d.output,d.size,fun b hb s=>?_,fun b hb=>?_,fun b hb=>?_⟩⟩
 ·rcases get k p e with⟨h1,_,h2⟩ | ⟨i,_,h2⟩
  ·exact Own.aaH (t.own k p h2) fun g v=>d.same g (Own.aaE (t.own k p h2) v) (f k p g h1 h2 v)
  ·exact q.own _ p h2
 ·rcases get k p e with⟨h1,_,h2⟩ | ⟨i,_,h2⟩
  ·cases hF:F' b with
   | none=>rfl
   | some _ =>
    rcases d.frz b (by rw[hF];simp) with h3 | h3 | h3
    ·exact o5 (t.off k p b h2 hb) h3
    ·exact o5 h3 (f k p b h1 h2 hb)
    ·have:=Own.aaE (t.own k p h2) hb;omega
  ·exact q.off _ p b h2 hb
 ·have n:∀k p i r,k∉ks->L.get k=some p->Loc.get (inp lo) (1000+i)=some r->p.blk=some b->r.blk=some b->False:=by
   intro k p i r h1 h2 h3 h4 h5;rcases d.own b ⟨_,r,h3,h5⟩ with h6 | h6
   ·exact f k p b h1 h2 h4 h6
   ·have:=Own.aaE (t.own k p h2) h4;omega
  rcases get k p e with⟨h1,_,h2⟩ | ⟨i,hi,h2⟩<;>rcases get u r e' with⟨ad,_,h2'⟩ | ⟨i',x,h2'⟩
  ·exact t.sep k u p r b h2 h2' hb c
  ·exact(n k p i' r h1 h2 h2' hb c).elim
  ·exact(n u r i p ad h2' h2 c hb).elim
  ·have:=q.sep _ _ p r b h2 h2' hb c;have:i=i':=by omega
   subst this;rw[hi] at x;injection x
 ·refine d.same b hb fun ho=>?_;obtain⟨k,o,_,e,c⟩:=m b ho;exact s ⟨k,o,e,c⟩
 ·rcases d.frz b hb with h | h | h
  ·exact .inl h
  ·obtain⟨k,o,_,e,c⟩:=m b h;exact .inr (.inl ⟨k,o,e,c⟩)
  ·exact .inr (.inr h)
 ·obtain⟨k,p,e,c⟩:=hb;rcases get k p e with⟨h1,_,h2⟩ | ⟨i,_,h2⟩
  ·exact .inl ⟨k,p,h2,c⟩
  ·rcases d.own b ⟨_,p,h2,c⟩ with h | h
   ·obtain⟨u,o,_,e',z⟩:=m b h;exact .inl ⟨u,o,e',z⟩
   ·exact .inr h
theorem xJ {f:Nat}{args:List Value}(hs:St F L w) (he:aC L ρ a) (hd:∀k,o.dst=some k->k<a.tmps.size)
  (hrun:(∃fn,P.funcs[f]?=some fn/\fn.body.isSome=true/\(fn.name == "runtime.NumGoroutine")=false)->(execOp a.eval o).run P w=.ok (.enter f args.toArray) w)
  (hK:eJ P f args F L fun F' L' v=>K F' L' (put o.dst (.v v) ρ)):o.wp P a w (bK F L w a K) Q:=by
 obtain⟨ks,ko,l,R,hsub,hn,hno,hko,hc,hK⟩:=hK;unfold Oper.wp;rw[hrun hc.ent];rw[Oper.upon_enter];refine(hc.run w (hs.handed hsub hn)).mono ?_;rintro e w' ⟨v,F',lo,rfl,hs',hst,hR⟩;obtain⟨hlen,hbox,hK⟩:=hK v F' lo hst.le hR;obtain⟨h1,h2⟩:=gF hs hsub hn hno hko hs' hst hlen;refine⟨F',_,_,h1,he.put hd (x:=.v v) rfl cK fD ?_,jV _ _ _,gT _ _ _,h2,hK⟩;intro k g ty cs e
 by_cases hk:k∈ks
 ·exact hbox k g ty cs hk e
 ·rcases dB ko lo (L.aas ks) k hno hlen with⟨h1,h2⟩ | ⟨i,h1,h2,h3⟩
  ·rw[h1,fH,fo hk];exact⟨cs,e⟩
  ·rcases hko k (aa8 h1) with h | h
   ·exact o5 h hk
   ·rw[h] at e;cases e
theorem iS {f:Nat}{args:Array Value}(h:∃fn,P.funcs[f]?=some fn/\fn.body.isSome=true/\(fn.name == "runtime.NumGoroutine")=false):(callFunc f args).run P w=.ok (.enter f args) w:=by
 obtain⟨fn,h1,h2,h3⟩:=h;have h4:fn.body≠none:=by intro hb;rw[hb] at h2;cases h2
 have h5:fn.name≠"runtime.NumGoroutine":=by simpa using h3
 simp[callFunc,h1,h4,h5]
theorem Ol {f:Nat}{args:List X}{c:Call}(h:St F L w) (he:aC L ρ a) (hd:∀k,o.dst=some k->k<a.tmps.size)
  (n:o.op=.call c) (l:c.callee=.value (.func f)) (m:gP c.args.toList=some args) (j:evalOp P (.call f args) o.dst F L ρ K):o.wp P a w (bK F L w a K) Q:=by
 refine xJ h he hd (fun d=>?_) j;have e:=gS m he;have b:c.args.map a.eval=(bE L ρ args).toArray:=by apply Array.ext';simpa using e
 simp[execOp,n,resolve,l,Deferred.ofValue,Act.eval,invoke,b,iS d]
theorem mF {t:TypeId}{nm:String}{u:Value}{f:Nat}{args:Array Value}(hf:tW P t nm=some f) (h:∃fn,P.funcs[f]?=some fn/\fn.body.isSome=true/\(fn.name == "runtime.NumGoroutine")=false) :
  (callMethod (.iface t u) nm args).run P w=.ok (.enter f (#[u]++args)) w:=by
 have:=IL (P:=P) hf u w;simp only[callMethod,Sem.run_bind,run_program,Result.andThen_ok,this];exact iS h
theorem Kt {V:SV}{v:Value}{args:List Value}{f:Nat}{fi ca:List Value}(hf:sS P V=some (f,fi,ca)) (hv:∀x,V=.v x->v=x) (h:∃fn,P.funcs[f]?=some fn/\fn.body.isSome=true/\(fn.name == "runtime.NumGoroutine")=false) :
  (do let d <-Deferred.ofValue v args.toArray;invoke d.target d.args:Sem Next).run P w=.ok (.enter f (fi++args++ca).toArray) w:=by
 unfold sS at hf;split at hf
 ·rename_i f' fi' ca';injection hf with hf
  injection hf with e1 e2
  injection e2 with e2 e3
  subst e1 e2 e3;rw[hv _ rfl];have hall:fi'++(args.toArray++ca')=(fi'.toList++args++ca'.toList).toArray:=by apply Array.ext';simp
  simp[Deferred.ofValue,invoke];rw[iS h];simp
 ·rename_i nm fi' ca';split at hf
  case h_2=>cases hf
  rename_i t u hfi;split at hf
  case h_2=>cases hf
  rename_i f' hm;injection hf with hf
  injection hf with e1 e2
  injection e2 with e2 e3
  subst e1 e2 e3;have hfi':fi'=#[.iface t u]:=by apply Array.ext';exact hfi
  rw[hv _ rfl,hfi'];have hx:(#[Value.iface t u]++args.toArray).extract 1 (#[Value.iface t u]++args.toArray).size=args.toArray:=by apply Array.ext';simp
  have h0:(#[Value.iface t u]++args.toArray)[0]?=some (.iface t u):=by simp
  have:=mF (w:=w) (u:=u) (args:=args.toArray) hm h;simp only[Deferred.ofValue,Sem.run_bind,Sem.run_pure,Result.andThen_ok,invoke,h0,hx,this];simp
 ·cases hf
theorem Ku {y:Operand}{r:X}{args:List X}{c:Call}(hs:St F L w) (he:aC L ρ a) (hd:∀k,o.dst=some k->k<a.tmps.size)
  (ho:o.op=.call c) (hc:c.callee=.value y) (hy:bQ y=some r) (ha:gP c.args.toList=some args) (m:evalOp P (.callV r args) o.dst F L ρ K):o.wp P a w (bK F L w a K) Q:=by
 have ey:=aI hy he;have s:=gS ha he;have d:c.args.map a.eval=(bE L ρ args).toArray:=by apply Array.ext';simpa using s
 have l:∀x,ev ρ r=.v x->a.eval y=x:=fun x e=>by rw[ey,dh e]
 simp only[evalOp] at m;split at m
 ·rename_i f fi ca hf;refine xJ hs he hd (fun j=>?_) m;have:=Kt (w:=w) (args:=bE L ρ args) hf l j;simp only[execOp,ho,resolve,hc,d];exact this
 ·split at m
  case h_2=>exact m.elim
  rename_i f q hf;unfold AY at hf;split at hf
  case h_2=>cases hf
  rename_i t nm ca t' u h z b;split at hf
  case h_2=>cases hf
  rename_i ms hu;split at hf
  case h_2=>cases hf
  rename_i f' hm;injection hf with hf
  injection hf with e1 e2
  subst e1 e2;refine xJ hs he hd (fun j=>?_) m;have h0:(#[]++(bE L ρ args).toArray)[0]?=some (.iface t' u):=by rw[b];simp
  have hx:(#[]++(bE L ρ args).toArray).extract 1 (#[]++(bE L ρ args).toArray).size=h.toArray:=by rw[b];apply Array.ext';simp
  have:=mF (w:=w) (u:=u) (args:=h.toArray) hm j;simp only[execOp,ho,resolve,hc,d,l _ z,Deferred.ofValue,Sem.run_bind,Sem.run_pure,Result.andThen_ok,invoke];have n:((⟨[]⟩:Array Value)++(bE L ρ args).toArray)[0]?=some (.iface t' u):=h0;simp only[n,Sem.run_bind,run_underlying hu,Result.andThen_ok];have p:((⟨[]⟩:Array Value)++(bE L ρ args).toArray).extract 1 ((⟨[]⟩:Array Value)++(bE L ρ args).toArray).size=h.toArray:=hx;simp only[p,this];simp
theorem SZ {n:Nat}{y:String}{args:List X}{c:Call}(hs:St F L w) (he:aC L ρ a) (hd:∀k,o.dst=some k->k<a.tmps.size)
  (ho:o.op=.call c) (hc:c.callee=.invoke (.tmp n) y) (ha:gP c.args.toList=some args) (h:evalOp P (.callV (.mt y n) args) o.dst F L ρ K):o.wp P a w (bK F L w a K) Q:=by
 have q:=gS ha he;have d:c.args.map a.eval=(bE L ρ args).toArray:=by apply Array.ext';simpa using q
 simp only[evalOp,ev] at h;split at h
 ·rename_i f fi ca hf;refine xJ hs he hd (fun e=>?_) h;cases l:ρ n with
  | own k off=>rw[l] at hf;cases hf
  | el b j=>rw[l] at hf;cases hf
  | v x =>
   rw[l] at hf;have hx:a.eval (.tmp n)=x:=by
    have:=he.eq n;rw[l] at this;exact this
   simp only[UY,sS] at hf;split at hf
   case h_2=>cases hf
   rename_i t u m;split at hf
   case h_2=>cases hf
   rename_i f' z;injection hf with hf
   injection hf with e1 e2
   injection e2 with e2 e3
   subst e1 e2 e3;have s:x=.iface t u:=by simpa using m
   subst s;have r:(#[Value.iface t u]++(bE L ρ args).toArray).extract 1 (#[Value.iface t u]++(bE L ρ args).toArray).size=(bE L ρ args).toArray:=by apply Array.ext';simp
   have h0:(#[Value.iface t u]++(bE L ρ args).toArray)[0]?=some (.iface t u):=by simp
   have:=mF (w:=w) (u:=u) (args:=(bE L ρ args).toArray) z e;simp only[execOp,ho,resolve,hc,d,hx,Sem.run_bind,Sem.run_pure,Result.andThen_ok,invoke,h0,r,this];simp
 ·split at h
  case h_2=>exact h.elim
  rename_i f p hf;exfalso
  revert hf
  cases ρ n<;>simp[UY,AY,undef]
end
open Go.ChangeMaps (setBlock)
theorem Bg {cs:List Value}(h:lS cs=true):iF cs=.map (bh cs 0).toArray cs.length:=by
 unfold iF;split
 ·simp[lS] at h
 ·rfl
theorem mG:∀(v:Value) (i:Nat),(gB v i).born=i:=by
 intro v i;unfold gB;split<;>rfl
theorem qD:∀{cs:List Value}{i j:Nat},(bh cs i)[j]?=(cs[j]?).map fun v=>gB v (i+j)
 | [],_,_=>by simp[bh]
 | c::cs,i,0=>by simp[bh]
 | c::cs,i,j+1=>by
  simp only[bh,abv,qD (cs:=cs)];rw[show i+1+j=i+(j+1) by omega]
def kindOf:Bool->TypeDesc
 | false=>.int .i64
 | true=>.string
theorem GY (s t:ByteArray):(s == t)=decide (s.data.toList=t.data.toList):=by
 have:(s == t)=(s.data == t.data):=rfl;rw[this,Bool.eq_iff_iff];simp[Array.toList_inj]
theorem ye {str:Bool}{a b:Value}{r:Bool}(h:fL str a b=some r):Instr.sameNow (kindOf str) a b=some r:=by
 unfold fL at h;split at h
 ·injection h with h;subst h;simp[kindOf,Instr.sameNow,beq_dec']
 ·injection h with h
  subst h;rename_i s t;simp only[kindOf,Instr.sameNow,GY]
 ·cases h
where beq_dec':∀{a b:Int},(a == b)=decide (a=b):=by intro a b;rw[Bool.eq_iff_iff];simp
theorem Om {str:Bool}{a b:Value}(h:fL str a b=some true):a=b:=by
 unfold fL at h;split at h
 ·simp only[aa1,abf] at h;rw[h]
 ·simp only[aa1,abf] at h;rename_i s t;cases s;cases t;simp only[Value.string.injEq,ByteArray.mk.injEq];exact Array.ext' h
 ·cases h
theorem Oo {str:Bool}{a b:Value}{r:Bool}(h:fL str a b=some r):∀n,Instr.sameBits n a a=true:=by
 intro n;unfold fL at h;split at h
 ·cases n<;>simp[Instr.sameBits]
 ·cases n<;>simp[Instr.sameBits,GY]
 ·cases h
theorem n9 {str:Bool}{key:Value}:∀{cs:List Value}{i:Nat}{o:Option (Nat×Value)},mC str key cs i=some o->Instr.findNow (kindOf str) key (bh cs i) i=some o
 | [],i,o,h=>by simp only[mC] at h;simpa[bh,Instr.findNow] using h
 | c::cs,i,o,h=>by
  unfold mC at h;split at h
  ·rename_i b;cases b
  ·rename_i k v l j b;injection b with e1 e2
   subst e1 e2;simp only[bh,gB,Instr.findNow];split at h
   ·rename_i d;rw[ye d];exact h
   ·rename_i d;rw[ye d];exact n9 h
   ·cases h
  ·cases h
theorem Bh {str:Bool}{key val:Value}(f:fL str key key=some true):∀{cs cs':List Value}{i:Nat},xX str key val cs=some cs' ->
  (∃j v,mC str key cs i=some (some (i+j,v))/\j<cs.length/\((bh cs i)[j]?.map (·.key))=some key/\bh cs' i=(bh cs i).modify j (fun e=>{e with key:=key,val:=val})/\cs'.length=cs.length) \/
  (mC str key cs i=some none/\cs'=cs++[.agg #[key,val]])
 | [],cs',i,h=>by
  simp only[xX,aa1] at h;subst h;exact .inr ⟨rfl,rfl⟩
 | c::cs,cs',i,h=>by
  unfold xX at h;split at h
  ·rename_i b;cases b
  ·rename_i k v l b;injection b with e1 e2
   subst e1 e2;split at h
   ·rename_i d;injection h with h
    subst h;refine .inl ⟨0,v,by simp only[mC,d,Nat.add_zero],by simp,?_,?_,rfl⟩
    ·simp[bh,gB,(Om d).symm]
    ·simp[bh,gB]
   ·rename_i d;split at h
    case h_2=>cases h
    rename_i n m;injection h with h
    subst h;rcases Bh f (i:=i+1) m with⟨j,u,h1,h2,h3,h4,h5⟩ | ⟨h1,h2⟩
    ·refine .inl ⟨j+1,u,?_,by simp;omega,by simpa[bh] using h3,by simp[bh,h4],by simp[h5]⟩;simp only[mC,d];rw[h1,show i+1+j=i+(j+1) by omega]
    ·refine .inr ⟨?_,by rw[h2];rfl⟩;simp only[mC,d];exact h1
   ·cases h
  ·cases h
theorem FI {str:Bool}{key val:Value}{cs cs':List Value}(h:xX str key val cs=some cs'):lS cs'=true:=by
 unfold xX at h;split at h
 ·injection h with h;subst h;rfl
 ·split at h
  ·injection h with h;subst h;rfl
  ·split at h
   ·injection h with h;subst h;rfl
   ·cases h
  ·cases h
 ·cases h
section
variable {P:Program}{F:aA}{L:Loc}{ρ:Env}{a:Act}{w:World}{K:dQ}{o:Oper}{Q:Exit->Act->World->Prop}
theorem yg (c:St F L w) {k g:Nat}{cs:List Value}(b:L.get k=some (.box g 0 cs)) (d:lS cs=true):w.heap[g]?=some (.map (bh cs 0).toArray cs.length):=by
 have h:=c.own k _ b;simp only[Own.ok,nP] at h;rw[Bg d] at h;exact h
theorem Oq {str:Bool}{key:TypeId}{kv:Value}(b:P.underlying key=some (kindOf str)) (c:fL str kv kv=some true) (e:Bool):(Instr.checkKey e 10000 key kv).run P w=.ok () w:=by
 rw[show(10000:Nat)=9999+1 from rfl,Instr.checkKey];simp only[Sem.run_bind,run_underlying b,Result.andThen_ok];cases str<;>simp[kindOf,Sem.run_pure]
theorem FJ {str:Bool}{key:TypeId}{kv:Value}(b:P.underlying key=some (kindOf str)) (e:Bool):(Instr.checkKey e 10000 key kv).run P w=.ok () w:=by
 rw[show(10000:Nat)=9999+1 from rfl,Instr.checkKey];simp only[Sem.run_bind,run_underlying b,Result.andThen_ok];cases str<;>simp[kindOf,Sem.run_pure]
theorem uh {str:Bool}{key:TypeId}{kv:Value}{es:List MapEntry}{o:Option (Nat×Value)}(b:P.underlying key=some (kindOf str)) (h:Instr.findNow (kindOf str) kv es 0=some o):(Instr.findKey key kv es).run P w=.ok o w:=by
 simp only[Instr.findKey,Sem.run_bind,run_underlying b,Result.andThen_ok,h,Sem.run_pure]
theorem Kv {t:TypeId}(f:St F L w) (he:aC L ρ a) (hd:∀k,o.dst=some k->k<a.tmps.size) (h:o.op=.makeMap t none)
  (b:evalOp P .mkmap o.dst F L ρ K):o.wp P a w (bK F L w a K) Q:=by
 simp only[evalOp] at b;split at b
 case h_2=>exact b.elim
 rename_i _ k c;split at b
 case h_2=>exact b.elim
 rename_i _ d;have b:=b w.heap.size;obtain⟨h1,h2,h3⟩:=mE f d (ob:=.map #[] 0) (e:=.box w.heap.size 0 []) rfl (by show _=_;rw[iI];rfl);refine jW he hd (v:=.map (some w.heap.size)) (x:=.v (.map (some w.heap.size))) ?_ h1 h2 rfl cK fD h3 b;simp[execOp,h,run_makeMap]
theorem DQ {str ok:Bool}{t key e:TypeId}{y z:Operand}{u m:X}{j:TypeInfo}{q:Value}(n:St F L w) (he:aC L ρ a) (hd:∀k,o.dst=some k->k<a.tmps.size)
  (s:o.op=.lookup t y z ok) (r:P.underlying t=some (.map key e)) (b:P.underlying key=some (kindOf str)) (hi:P.info? e=some j) (hz:j.zero=some q) (hy:bQ y=some u) (l:bQ z=some m)
  (c:evalOp P (.mlook str ok q u m) o.dst F L ρ K):o.wp P a w (bK F L w a K) Q:=by
 have x:=aI hy he;have ez:=aI l he;simp only[evalOp,aM] at c;split at c
 case h_2=>exact c.elim
 rename_i g p;obtain⟨k,cs,hk,h,c⟩:=c;have hg:=yg n hk h;have d:(getObj g).run P w=.ok (.map (bh cs 0).toArray cs.length) w:=by simp[getObj,Sem.run,hg]
 have f:=FJ (w:=w) (kv:=val L ρ m) b (bh cs 0).toArray.isEmpty;rcases c.out with⟨i,v,h1,h2⟩ | ⟨h1,h2⟩
 ·have hf:=uh (P:=P) (w:=w) b (n9 h1);refine cj n he hd ?_ rfl cK fD h2;simp only[execOp,s,x,ez,dh p,Instr.lookup,Sem.run_bind,run_underlying r,Result.andThen_ok,d,Sem.run_pure,f,hf];cases ok<;>simp[Sem.run_pure,conc]
 ·have hf:=uh (P:=P) (w:=w) b (n9 h1);refine cj n he hd ?_ rfl cK fD h2;simp only[execOp,s,x,ez,dh p,Instr.lookup,Sem.run_bind,run_underlying r,Result.andThen_ok,d,Sem.run_pure,f,hf];cases ok<;>simp[Sem.run_pure,zeroValue,typeInfo,run_program,hi,hz,conc]
theorem GZ (r:St F L w) {k g:Nat}{cs cs':List Value}(d:L.get k=some (.box g 0 cs)):St F (L.set k (.box g 0 cs')) (setBlock w g (iF cs'))/\Step F L w F (L.set k (.box g 0 cs')) (setBlock w g (iF cs')) /\
  (∀j f ty xs,L.get j=some (.box f ty xs)->∃q,(L.set k (.box g 0 cs')).get j=some (.box f ty q)):=by
 have p:g<w.heap.size:=Own.aaE (r.own k _ d) rfl;have c:∀b,b≠g->(setBlock w g (iF cs')).heap[b]?=w.heap[b]?:=fun b hb=>by
  show(w.heap.setIfInBounds g (iF cs'))[b]?=_;rw[Array.getElem?_setIfInBounds,fo (fun e=>hb e.symm)]
 have m:w.heap.size<=(setBlock w g (iF cs')).heap.size:=by show _<=(w.heap.setIfInBounds g (iF cs')).size;simp
 refine⟨r.turn d ?_ (fun b hb n=>c b fun e=>n (by rw[e];rfl)) (fun f l=>.inl l),⟨aA.le_refl F,rfl,rfl,rfl,m,fun b hb s=>c b fun e=>s ⟨k,_,d,by rw[e];rfl⟩,fun b h=>.inl h,fun b h=>?_⟩,fun j f ty xs e=>?_⟩
 ·show(w.heap.setIfInBounds g (iF cs'))[g]?=_;rw[Array.getElem?_setIfInBounds,eu rfl,eu p];rfl
 ·rcases Loc.aaA h with h | h
  ·exact .inl ⟨k,_,d,h⟩
  ·exact .inl h
 ·rw[Loc.aap];split
  ·rename_i t;subst t;rw[d] at e;injection e with e
   injection e with e1 e2 e3
   subst e1 e2;exact⟨_,rfl⟩
  ·exact⟨xs,e⟩
theorem Az {str:Bool}{t key e:TypeId}{g:Nat}{kv p:Value}{cs cs':List Value}(q:P.underlying t=some (.map key e)) (b:P.underlying key=some (kindOf str))
  (r:w.heap[g]?=some (.map (bh cs 0).toArray cs.length)) (d:fL str kv kv=some true) (h:xX str kv p cs=some cs') :
  (Instr.mapUpdate t (.map (some g)) kv p).run P w=.ok () (setBlock w g (iF cs')):=by
 have k:(getObj g).run P w=.ok (.map (bh cs 0).toArray cs.length) w:=by simp[getObj,Sem.run,r]
 have f:∀o',(setObj g o').run P w=.ok () (setBlock w g o'):=fun o'=>by simp[setObj,Sem.run,r,setBlock]
 have m:=Oq (P:=P) (w:=w) (str:=str) (kv:=kv) b d false;rw[Bg (FI h)];rcases Bh d (i:=0) h with⟨j,v,h1,h2,h3,h4,h5⟩ | ⟨h1,h2⟩
 ·have hf:=uh (P:=P) (w:=w) b (n9 h1);have n:(((bh cs 0).toArray[0+j]?).map (·.key)).getD kv=kv:=by
   rw[Nat.zero_add];simp only[List.getElem?_toArray];rw[h3];rfl
  simp only[Instr.mapUpdate,Sem.run_bind,run_underlying q,Result.andThen_ok,k,m,hf,n,Instr.keyThatStays,Oo d,abB,Sem.run_pure,f];rw[h4,h5,Nat.zero_add];congr 3;apply Array.ext';simp
 ·have hf:=uh (P:=P) (w:=w) b (n9 h1);simp only[Instr.mapUpdate,Sem.run_bind,run_underlying q,Result.andThen_ok,k,m,hf,f];subst h2;congr 3
  ·apply Array.ext';have:∀(l:List Value) (i:Nat),bh (l++[.agg #[kv,p]]) i=bh l i++[{key:=kv,val:=p,born:=i+l.length}]:=by
    intro l
    induction l with
    | nil=>intro i;simp[bh,gB]
    | cons c l s=>intro i;simp only[abj,bh,s,abo];rw[show i+1+l.length=i+(l.length+1) by omega]
   simp[this]
  ·simp
theorem xK {str:Bool}{t key e:TypeId}{y z u:Operand}{n m q:X}(p:St F L w) (he:aC L ρ a) (hd:∀k,o.dst=some k->k<a.tmps.size)
  (d:o.op=.mapUpdate t y z u\/o.op=.insert t y z u) (ht:P.underlying t=some (.map key e)) (f:P.underlying key=some (kindOf str)) (v:bQ y=some n) (hz:bQ z=some m) (hu:bQ u=some q)
  (b:evalOp P (.mupd str n m q) o.dst F L ρ K):o.wp P a w (bK F L w a K) Q:=by
 have ey:=aI v he;have ez:=aI hz he;have s:=aI hu he;simp only[evalOp] at b;split at b
 case h_2=>exact b.elim
 rename_i g r;obtain⟨k,cs,l,h,b⟩:=b;obtain⟨j,cs',c,b⟩:=b;have hg:=yg p l h;obtain⟨h1,h2,h3⟩:=GZ p l (cs':=cs');refine DG he hd (w':=setBlock w g (iF cs')) ?_ h1 h2 h3 b;have x:=Az (w:=w) ht f hg j c;rcases d with d | d<;>simp[execOp,d,ey,ez,s,dh r,x]
theorem IU {t key e:TypeId}{y:Operand}{h:X}(l:St F L w) (he:aC L ρ a) (hd:∀k,o.dst=some k->k<a.tmps.size)
  (u:o.op=.range t y) (q:P.underlying t=some (.map key e)) (p:bQ y=some h) (b:evalOp P (.mrange h) o.dst F L ρ K):o.wp P a w (bK F L w a K) Q:=by
 have r:=aI p he;simp only[evalOp] at b;split at b
 case h_2=>exact b.elim
 rename_i _ g k n j;split at b
 case h_2=>exact b.elim
 rename_i _ m;obtain⟨z,cs,f,d,b⟩:=b;have s:=yg l f d;have c:(getObj g).run P w=.ok (.map (bh cs 0).toArray cs.length) w:=by simp[getObj,Sem.run,s]
 have b:=b w.heap.size;obtain⟨h1,h2,h3⟩:=mE l m (ob:=.mapIter (some g) cs.length #[] cs.length) (e:=.box w.heap.size 0 [.tuple #[.map (some g),.int .i64 cs.length]]) rfl (by show _=_;rw[iI];simp[nP,iF]);refine jW he hd (v:=.pointer (some ⟨w.heap.size,0,none⟩)) (x:=.own k 0) ?_ h1 h2 ?_ ?_ (fun _ _ e=>by cases e) h3 b
 ·simp[execOp,u,Instr.range,r,dh n,run_underlying q,c]
 ·simp only[conc,Loc.aap,abB]
 ·rintro k' off e;injection e with e1 e2
  subst e1;exact⟨_,_,_,by rw[Loc.aap,eu rfl]⟩
theorem Kw {y:Operand}{y':X}(hs:St F L w) (he:aC L ρ a) (hd:∀k,o.dst=some k->k<a.tmps.size)
  (ho:o.op=.next y false) (hy:bQ y=some y') (r:evalOp P (.mnext y') o.dst F L ρ K):o.wp P a w (bK F L w a K) Q:=by
 have ey:=aI hy he;simp only[evalOp] at r;split at r
 case h_2=>exact r.elim
 rename_i k hm;split at r
 case h_2=>exact r.elim
 rename_i gi g n b hk;obtain⟨km,cs,an,ag,aa,q,u⟩:=r.out;have hg:=yg hs an ag;have ar:w.heap[gi]?=some (.mapIter (some g) n (b.map iZ).toArray n):=by
  have h:=hs.own k _ hk;simp only[Own.ok,nP,iF] at h;exact h
 have s:a.eval y=.pointer (some ⟨gi,0,none⟩):=by rw[ey];simp only[val,hm,conc,hk]
 have t:∀x∈(bh cs 0).toArray.toList,x.born<n:=by
  intro x hx;simp only[List.toList_toArray] at hx;obtain⟨j,f⟩:=abw.1 hx;rw[qD] at f;cases m:cs[j]? with
  | none=>rw[m] at f;cases f
  | some v =>
   rw[m] at f;simp only[abI,aa1] at f;rw[<-f,mG];have:=(aa6.1 m).1;omega
 rcases run_next_at (P:=P) w o.type gi g n n (b.map iZ).toArray (bh cs 0).toArray cs.length ar hg t (abh _) with⟨h0,d⟩ | ⟨e,l,w1,ab,d⟩
 ·refine cj hs he hd (v:=.tuple #[.bool false]) (x:=.v (.tuple #[.bool false])) ?_ rfl cK fD (u fun j f=>?_)
  ·simp only[execOp,ho,s,Sem.run_bind,d,Result.andThen_ok,Sem.run_pure]
  ·have m:∃v,cs[j]?=some v:=⟨cs[j]'(by omega),aa4 (by omega)⟩;obtain⟨v,m⟩:=m;have al:(bh cs 0)[j]?=some (gB v (0+j)):=by rw[qD,m];rfl
   have p:gB v (0+j)∈bh cs 0:=aa8 al;apply Classical.byContradiction;intro c;have h1:gB v (0+j)∈(leftOf (bh cs 0).toArray (b.map iZ).toArray).toList:=by
    unfold leftOf;simp only[Array.toList_filter,List.mem_filter,p,true_and];rw[mG];simpa using c
   have h2:(leftOf (bh cs 0).toArray (b.map iZ).toArray)=#[]:=Array.eq_empty_of_size_eq_zero h0;rw[h2] at h1;cases h1
 ·unfold leftOf at l;simp only[Array.toList_filter,List.mem_filter] at l;obtain⟨p,c⟩:=l;obtain⟨j,f⟩:=abw.1 p;rw[qD] at f;cases m:cs[j]? with
  | none=>rw[m] at f;cases f
  | some v =>
   rw[m] at f;simp only[abI,aa1,Nat.zero_add] at f;subst f;rw[mG] at d c;have ao:j∉b.map iZ:=by simpa using c
   have ae:=q j v m ao;have am:St F L w1:=by rcases ab with rfl | rfl;exact hs;exact hs.drew
   obtain⟨h1,h2,h3⟩:=GZ am hk (cs':=.tuple #[.map (some g),.int .i64 n]::(b++[.int .i64 j]));have av:Step F L w F L w1:=by
    rcases ab with rfl | rfl
    ·exact Step.refl _ _ _
    ·exact⟨aA.le_refl F,rfl,rfl,rfl,abh _,fun _ _ _=>rfl,fun _ h=>.inl h,fun _ h=>.inl h⟩
   have z:iF (.tuple #[.map (some g),.int .i64 n]::(b++[.int .i64 j]))=.mapIter (some g) n ((b.map iZ).toArray.push j) cs.length:=by
    simp[iF,iZ,aa]
   rw[z] at h1 h2;refine jW he hd (v:=.tuple #[.bool true,(gB v j).key,(gB v j).val]) (x:=.v (.tuple #[.bool true,(gB v j).key,(gB v j).val])) ?_ h1 (av.trans h2) rfl cK fD h3 ae;simp only[execOp,ho,s,Sem.run_bind,d,Result.andThen_ok,Sem.run_pure]
theorem IW {y:Operand}{y':X}(hs:St F L w) (he:aC L ρ a) (hd:∀k,o.dst=some k->k<a.tmps.size)
  (ho:o.op=.entry y) (hy:bQ y=some y') (p:evalOp P (.mentry y') o.dst F L ρ K):o.wp P a w (bK F L w a K) Q:=by
 have ey:=aI hy he;simp only[evalOp] at p;split at p
 case h_2=>exact p.elim
 rename_i k hm;split at p
 case h_2=>exact p.elim
 rename_i gi g n d hk;obtain⟨km,cs,j,e,ae,ab,t,b,hj,ad⟩:=p.out;have hg:=yg hs ae ab;have z:w.heap[gi]?=some (.mapIter (some g) n (d.map iZ).toArray n):=by
  have h:=hs.own k _ hk;simp only[Own.ok,nP,iF] at h;exact h
 have aa:a.eval y=.pointer (some ⟨gi,0,none⟩):=by rw[ey];simp only[val,hm,conc,hk]
 have f:∃l,d=l++[.int .i64 (.ofNat j)]:=by
  have q:d≠[]:=by rintro rfl;simp at b
  refine⟨d.dropLast,?_⟩;rw[List.getLast?_eq_some_getLast q] at b;injection b with b
  rw[<-b];exact(List.dropLast_concat_getLast q).symm
 obtain⟨l,rfl⟩:=f;have r:(bh cs 0)[j]?=some (gB e j):=by rw[qD,hj];simp
 have m:(gB e j).born=j:=mG e j;have ac:((bh cs 0).toArray.toList.map (·.born)).Nodup:=by
  have:∀(cs:List Value) (i:Nat),(bh cs i).map (·.born)=List.range' i cs.length:=by
   intro cs
   induction cs with
   | nil=>intro i;rfl
   | cons c cs ih=>intro i;simp[bh,mG,ih,List.range'_succ]
  simp only[List.toList_toArray,this];exact List.nodup_range' ..
 have s:((l++[Value.int .i64 (.ofNat j)]).map iZ).toArray=(l.map iZ).toArray.push (gB e j).born:=by
  rw[m];simp[iZ]
 rw[s,<-t] at z;have u:=run_entry_at (P:=P) w gi g cs.length (l.map iZ).toArray (bh cs 0).toArray cs.length (gB e j) z hg (by simpa using aa8 r) ac;refine cj hs he hd (v:=.tuple #[(gB e j).key,(gB e j).val]) (x:=.v (.tuple #[(gB e j).key,(gB e j).val])) ?_ rfl cK fD ad;simp only[execOp,ho,aa,Sem.run_bind,u,Result.andThen_ok,Sem.run_pure]
end
section
variable {P:Program}{F:aA}{L:Loc}{ρ:Env}{a:Act}{w:World}{K:dQ}{o:Oper}{Q:Exit->Act->World->Prop}
theorem FK {zs:List Value}{l:List (Nat×Nat×X)}(h:(l.all fun p=>Nat.ble (p.1+p.2.1) zs.length)=true):∀off n x,(off,n,x)∈l->off+n<=zs.length:=by
 intro off n x b;have:=abg.1 h _ b;exact abq this
set_option maxHeartbeats 1000000 in
theorem fV {own:Bool}{s:eI}(p:St F L w) (he:aC L ρ a) (hd:∀k,o.dst=some k->k<a.tmps.size) (j:iH P own o.op=some s)
  (l:evalOp P s o.dst F L ρ K):o.wp P a w (bK F L w a K) Q:=by
 cases m:o.op<;>rw[m] at j<;>simp only[iH] at j<;>try (cases j;done)
 case move y =>
  split at j
  case h_2=>cases j
  rename_i x hx;injection j with j;subst j
  exact Kc p he hd (.inl m) hx l
 case assign y =>
  split at j
  case h_2=>cases j
  rename_i x hx;injection j with j;subst j
  exact Kc p he hd (.inr m) hx l
 case pick c y z =>
  split at j
  case h_2=>cases j
  rename_i h1 h2 h3;injection j with j;subst j
  exact N9 p he hd m h1 h2 h3 l
 case box t y =>
  split at j
  case h_2=>cases j
  rename_i h1 aa;have aa:=ab3 aa;injection j with j
  cases own
  ·subst j;exact SJ p he hd m h1 aa l
  ·subst j;exact Ob p he hd m h1 l
 case alloc t =>
  split at j
  case h_2=>cases j
  rename_i h1 aa;have aa:=ab3 aa;split at j
  case h_2=>cases j
  rename_i h2;injection j with j;subst j
  exact Ke p he hd m h1 h2 aa l
 case buildSlice t n ps =>
  split at j
  case h_2=>cases j
  rename_i h1 h2;split at j
  case h_2=>cases j
  rename_i h3;split at j
  case h_2=>cases j
  rename_i h4 h5 h6;have h4:=abJ h4;have h5:=abJ h5;injection j with j
  cases own
  ·subst j;exact SK p he hd m h1 h3 h6 h2 h4 h5.1 l
  ·subst j;exact SL p he hd m h1 h3 h6 h2 h4 h5.1 h5.2 l
 case build t ps =>
  split at j
  case h_2=>cases j
  rename_i h1 h2;split at j
  case h_2=>cases j
  rename_i h3 h4;split at j
  case h_2=>cases j
  rename_i h5 h6;injection j with j;subst j
  exact Kf p he hd m h1 h2 h3 h4 (fun f hf=>abg.1 h5 f hf) (FK h6) l
 case load t y =>
  split at j
  ·rename_i d i x h1 h2 h3;injection j with j
   refine Oc (d:=d) (i:=i) (n:=match fG d with | true=>i.size | false=>1) p he hd m h1 h2 h3 rfl ?_;cases av:fG d<;>simp only[av] at j ⊢<;>subst j<;>exact l
  ·rename_i h1 h2 h3;cases y with
   | global g =>
    simp only[AZ] at j;split at j
    ·rename_i h4;injection j with j;subst j
     exact DK p he hd m h1 h2 rfl h4 l
    ·cases j
   | tmp n=>cases j
   | const v=>cases j
   | func f=>cases j
  ·rename_i h1 h2 h3;split at j
   case h_2=>injection j with j;subst j;exact False.elim l
   rename_i h4;injection j with j;subst j
   cases y with
   | global g =>
    simp only[AZ] at h4;split at h4
    ·rename_i h5;injection h4 with h4;subst h4
     exact DK p he hd m h1 h2 rfl h5 l
    ·cases h4
   | tmp n=>cases h4
   | const v=>cases h4
   | func f=>cases h4
  ·injection j with j;subst j
   exact False.elim l
  ·cases j
 case lookup t y z ok =>
  split at j
  ·cases j
  ·split at j
   case h_2=>cases j
   rename_i h1 h2 h3;split at j
   case h_3=>cases j
   ·rename_i h4 h5;split at j
    case h_2=>cases j
    rename_i h6;injection j with j;subst j
    exact DQ (str:=false) p he hd m h1 h4 h5 h6 h2 h3 l
   ·rename_i h4 h5;split at j
    case h_2=>cases j
    rename_i h6;injection j with j;subst j
    exact DQ (str:=true) p he hd m h1 h4 h5 h6 h2 h3 l
 case makeMap t r =>
  cases r with
  | none =>
   simp only[iH,aa1] at j;subst j;exact Kv p he hd m l
  | some r=>simp only[iH] at j;cases j
 case mapUpdate t y z u =>
  split at j
  case h_2=>cases j
  rename_i h1 h2 h3 h4;split at j
  case h_3=>cases j
  ·rename_i h5;injection j with j;subst j
   exact xK (str:=false) p he hd (.inl m) h1 h5 h2 h3 h4 l
  ·rename_i h5;injection j with j;subst j
   exact xK (str:=true) p he hd (.inl m) h1 h5 h2 h3 h4 l
 case insert t y z u =>
  split at j
  case h_2=>cases j
  rename_i h1 h2 h3 h4;split at j
  case h_3=>cases j
  ·rename_i h5;injection j with j;subst j
   exact xK (str:=false) p he hd (.inr m) h1 h5 h2 h3 h4 l
  ·rename_i h5;injection j with j;subst j
   exact xK (str:=true) p he hd (.inr m) h1 h5 h2 h3 h4 l
 case range t y =>
  split at j
  case h_2=>cases j
  rename_i h1 h2;injection j with j;subst j
  exact IU p he hd m h1 h2 l
 case entry y =>
  split at j
  case h_2=>cases j
  rename_i h1;injection j with j;subst j
  exact IW p he hd m h1 l
 case next y b =>
  cases b with
  | true=>simp only[iH] at j;cases j
  | false =>
   simp only[iH] at j;split at j
   case h_2=>cases j
   rename_i h1;injection j with j;subst j
   exact Kw p he hd m h1 l
 case store t y z =>
  split at j
  case h_2=>cases j
  rename_i h1 h2 h3;split at j
  case h_1=>cases j
  rename_i h4;have h4:=ab3 h4;injection j with j;subst j
  exact Kq p he hd m h1 h4 h2 h3 l
 case makeInterface t y =>
  split at j
  ·cases j
  ·rename_i d x h1 h2 h3;injection j with j;subst j
   exact Oi p he hd m h2 h1 h3 l
  ·cases j
 case typeAssert y xt t ok =>
  cases ok with
  | false=>cases j
  | true =>
   simp only[] at j;split at j
   ·cases j
   ·rename_i d i x h4 h1 h2 h3;split at j
    case h_2=>cases j
    rename_i h5;injection j with j;subst j
    exact SW p he hd m h1 h4 h2 h5 h3 l
   ·cases j
 case panic y =>
  split at j
  case h_2=>cases j
  injection j with j;subst j
  exact l.elim
 case nilCheck y =>
  split at j
  case h_2=>cases j
  rename_i h1 h2;injection j with j;subst j
  exact Ko p he hd m h1 h2 l
 case binOp op t y z t' =>
  split at j
  case h_2=>cases j
  rename_i d x1 x2 h1 h2 h3;split at j<;>first
   | (cases j;done)
   | (injection j with j;subst j;first
     | exact Kg (neg:=false) p he hd m h1 h2 h3 l
     | exact Kg (neg:=true) p he hd m h1 h2 h3 l
     | exact Ki (neg:=false) p he hd m h1 h2 h3 l
     | exact Ki (neg:=true) p he hd m h1 h2 h3 l
     | exact SM p he hd m h2 h3 l)
   | (split at j
      case h_2=>cases j
      rename_i k1 k2 k3;injection j with j;subst j
      first
       | exact Kl (neg:=false) p he hd m h1 k1 k2 k3 h2 h3 l
       | exact Kl (neg:=true) p he hd m h1 k1 k2 k3 h2 h3 l)
   | (split at j
      case h_2=>cases j
      rename_i k1;injection j with j;subst j
      first
       | exact Kj (neg:=false) p he hd m h1 h2 h3 k1 l
       | exact Kj (neg:=true) p he hd m h1 h2 h3 k1 l)
 case unOp op t y =>
  split at j
  case h_2=>cases j
  rename_i h1;injection j with j;subst j
  exact U1 p he hd m h1 l
 case convert s t y =>
  split at j
  case h_2=>cases j
  rename_i h1 h2 h3;injection j with j;subst j
  exact Od p he hd m h1 h2 h3 l
 case makeFunc fn fi ca =>
  cases fn<;>simp only[] at j<;>try (cases j;done)
  ·split at j
   case h_2=>cases j
   rename_i h1 h2;injection j with j;subst j
   exact Oe p he hd m h1 h2 l
  ·split at j
   case h_2=>cases j
   rename_i h1 h2;injection j with j;subst j
   exact Oj p he hd m h1 h2 l
 case makeSlice t y z =>
  split at j
  case h_2=>cases j
  rename_i h1 h2 h3;split at j
  case h_2=>cases j
  rename_i h4;split at j
  case h_2=>cases j
  rename_i h5;split at j
  case h_2=>cases j
  rename_i h6 h7;injection j with j;subst j
  exact Kr p he hd m h1 h4 h5 (abJ h6) (abJ h7) h2 h3 l
 case slice t y lo up mx =>
  cases mx<;>simp only[] at j<;>try (cases j;done)
  split at j
  case h_2=>cases j
  ·rename_i h1 h2 h3 h4;split at j
   case h_2=>cases j
   rename_i h5;injection j with j;subst j
   exact SX p he hd m h1 h5 h2 h3 h4 l
 case fieldAddr t y f =>
  split at j
  case h_2=>cases j
  rename_i h1 h2;split at j
  case h_2=>cases j
  rename_i h3;split at j
  case h_2=>cases j
  rename_i h4;split at j
  case h_1=>cases j
  rename_i h5;injection j with j;subst j
  exact IK p he hd m h1 h3 h4 (ab3 h5) h2 l
 case indexAddr t y z =>
  split at j
  case h_2=>cases j
  rename_i h1 h2 h3;split at j
  case h_2=>cases j
  rename_i h4;injection j with j;subst j
  exact Oh p he hd m h1 h4 h2 h3 l
 case extract y i =>
  split at j
  case h_2=>cases j
  rename_i h1;injection j with j;subst j
  exact Og p he hd m h1 l
 case call c =>
  split at j
  case h_1=>cases j
  rename_i args q;split at j
  ·rename_i f hc;split at j
   case h_2=>cases j
   split at j
   case h_2=>cases j
   injection j with j;subst j
   exact Ol p he hd m hc q l
  ·rename_i y hc;split at j
   case h_2=>cases j
   rename_i h1;injection j with j;subst j
   exact Ku p he hd m hc h1 q l
  ·rename_i n nm hc;injection j with j;subst j
   exact SZ p he hd m hc q l
  ·cases j
  ·rename_i b hc;have one:∀{x:X},args=[x]->∃y,c.args=#[y]/\bQ y=some x:=by
    intro x e;subst e
    match ad:c.args.toList,q with
    | [],h=>simp[gP] at h
    | [y],h =>
     refine⟨y,by apply Array.ext';simpa using ad,?_⟩;simp only[gP] at h;split at h
     case h_2=>cases h
     rename_i h1 h2;injection h with h
     injection h with h _
     rw[h1,h]
    | y::z::r,h =>
     simp only[gP] at h;split at h
     case h_2=>cases h
     rename_i h1 h2;injection h with h
     injection h with _ h
     subst h;split at h2
     ·injection h2 with h2;cases h2
     ·cases h2
   have two:∀{x x':X},args=[x,x']->∃y y',c.args=#[y,y']/\bQ y=some x/\bQ y'=some x':=by
    intro x x' e;subst e
    match ad:c.args.toList,q with
    | [],h=>simp[gP] at h
    | [y],h =>
     simp only[gP] at h;split at h
     case h_2=>cases h
     rename_i h1 h2;injection h2 with h2
     injection h with h
     injection h with _ h
     rw[h] at h2;cases h2
    | [y,y'],h =>
     refine⟨y,y',by apply Array.ext';simpa using ad,?_⟩;simp only[gP] at h;split at h
     case h_2=>cases h
     rename_i h1 h2;injection h with h
     injection h with h h'
     split at h2
     case h_2=>cases h2
     rename_i h3 h4;injection h2 with h2
     rw[<-h2] at h';injection h' with h' _
     exact⟨by rw[h1,h],by rw[h3,h']⟩
    | y::z::u::r,h =>
     simp only[gP] at h;split at h
     case h_2=>cases h
     rename_i h1 h2;injection h with h
     injection h with _ h
     subst h;split at h2
     case h_2=>cases h2
     rename_i h3 h4;injection h2 with h2
     injection h2 with _ h2
     subst h2;split at h4
     ·injection h4 with h4;cases h4
     ·cases h4
   have aw:∀{t:TypeId},c.argTypes.toList=[t]->c.argTypes=#[t]:=fun e=>by apply Array.ext';simpa using e
   have aE:∀{t t':TypeId},c.argTypes.toList=[t,t']->c.argTypes=#[t,t']:=fun e=>by apply Array.ext';simpa using e
   split at j
   ·rename_i x t ac;obtain⟨y,ha,hy⟩:=one rfl;split at j
    ·rename_i h1;injection j with j;subst j
     exact SR p he hd m hc ha (aw ac) h1 hy l
    ·cases j
   ·injection j with j;subst j
    exact RA (mx:=true) p he hd m hc q l
   ·injection j with j;subst j
    exact RA (mx:=false) p he hd m hc q l
   ·rename_i x x' t t' ac;obtain⟨y,y',ha,hy,az⟩:=two rfl;split at j
    ·rename_i h1 h2;split at j
     case h_2=>cases j
     rename_i h3;split at j
     case h_2=>cases j
     rename_i h4;split at j
     case h_2=>cases j
     rename_i h5 h6 h7;have h5:=abJ h5;subst h5;injection j with j;subst j
     exact SY p he hd m hc ha (aE ac) h1 h3 h4 (abJ h6) (abJ h7) hy az l
    ·cases j
   ·cases j
end
structure cJ where
 n:Nat
 own:List Nat:=[]
 frz:List (Nat×Nat×List Nat):=[]
 ord:List (Nat×List Nat×List (List Nat)):=[]
 co:List Nat:=[]
 pan:List (Nat×Nat):=[]
 bx:List Nat:=[]
 fl:List Nat:=[]
 px:List Nat:=[]
 bk:List (Nat×Nat):=[]
def wG:List (Nat×Nat)->Nat->Nat->Bool
 | [],_,_=>false
 | (r,i)::l,b,c=>match Nat.beq r b&&Nat.beq i c with | true=>true | false=>wG l b c
def nQ (b:Bool) (d:Option Nat) (s:eI) (g:Option (Nat×Bool)):ak:=match b with | true=>.pc d s g | false=>.op d s g
def cJ.owned (A:cJ):Option Nat->Bool
 | some d=>fU A.own d
 | none=>false
def cJ.isO (A:cJ):Option Nat->Bool
 | some d=>fU A.co d
 | none=>fU A.co 999999
def cJ.isX (A:cJ):Option Nat->Bool
 | some d=>fU A.px d
 | none=>fU A.px 999999
def Kx:List (Nat×Nat×List Nat)->Nat->Nat->List Nat
 | [],_,_=>[]
 | (r,i,ks)::l,b,c=>match Nat.beq r b&&Nat.beq i c with | true=>ks | false=>Kx l b c
def Ky:List (Nat×List Nat×List (List Nat))->Nat->Option (List Nat×List (List Nat))
 | [],_=>none
 | (r,is)::l,b=>match Nat.beq r b with | true=>some is | false=>Ky l b
def DR (l:List (Nat×List Nat×List (List Nat))) (r:Nat):List Nat:=match Ky l r with | some (is,_)=>is | none=>[]
def iJ (c:Array Oper):Option (Nat×Bool)->Option (Option (Nat×Bool))
 | none=>some none
 | some (j,b)=>match(c[j]?).bind (·.dst) with
  | some d=>some (some (d,b))
  | none=>none
def RB (n:Nat):Option Nat->Bool
 | none=>true
 | some d=>Nat.blt d n
def qE (P:Program) (A:cJ) (r:Nat) (b:Array Oper):List Nat->Option (List ak)
 | []=>some []
 | i::is=>match b[i]? with
  | none=>none
  | some o=>match iJ b o.guard,iH P (A.owned o.dst) o.op,RB A.n o.dst,qE P A r b is with
   | some g,some s,true,some c=>some ((Kx A.frz r i).map .frz++nQ (wG A.pan r i) o.dst s g::c)
   | _,_,_,_=>none
section
variable {P:Program}{F:aA}{L:Loc}{ρ:Env}{a:Act}{w:World}{K:dQ}{Q:Exit->Act->World->Prop}
def eZ (n:Nat) (F:aA) (L:Loc) (w:World) (a:Act) (asg:List Nat) (K:dQ) (a':Act) (w':World):Prop :=
 ∃F' L' ρ',St F' L' w'/\aC L' ρ' a'/\a'.tmps.size=n/\a'.defers=a.defers/\Step F L w F' L' w'/\(∀j,j∉asg->a'.tmps.getD j undef=a.tmps.getD j undef)/\K F' L' ρ'
theorem rF {k:Nat}{KK:aA->Loc->Prop}(hs:St F L w) (he:aC L ρ a) (h:Rz F L k KK):∃F' L',St F' L' w/\aC L' ρ a/\Step F L w F' L' w/\KK F' L':=by
 obtain⟨v,t,sz,n,xs,z,hK⟩:=h;have d:=hs.own k _ z;simp only[Own.ok] at d;have r:=hs.part (Loc.aaM L k);have m:aC (L.del k) ρ a:=by
  have hb:∀j g ty cs,L.get j=some (.box g ty cs)->(L.del k).get j=some (.box g ty cs):=by
   intro j g ty cs e;rw[Loc.aau];split
   ·rename_i hj;subst hj;rw[z] at e;cases e
   ·exact e
  refine⟨fun j=>?_,fun j s off e=>?_,he.el⟩
  ·rw[he.eq j];cases e:ρ j with
   | v x=>rfl
   | el x y=>rfl
   | own s off =>
    obtain⟨g,ty,cs,c⟩:=he.own j s off e;simp only[conc,c,hb s g ty cs c]
  ·obtain⟨g,ty,cs,c⟩:=he.own j s off e;exact⟨g,ty,cs,hb s g ty cs c⟩
 have ae:∀g,v.ownBlock=some g->¬(L.del k).owns g:=by
  rintro g c ⟨j,p,e,hb⟩;rw[Loc.aau] at e;split at e
  ·cases e
  ·rename_i hj;exact hj (hs.sep j k p _ g e z hb c)
 obtain⟨hx,f⟩:=d;rcases f with⟨rfl,rfl⟩ | ⟨g,cap,ac,rfl,ao,c,ad,an,am,l⟩
 ·refine⟨F,L.del k,r,m,⟨aA.le_refl F,rfl,rfl,rfl,abh _,fun _ _ _=>rfl,fun b h=>.inl h,fun b h=>.inl (Loc.aaJ h)⟩,hK F (aA.le_refl F) (.inl ⟨rfl,rfl,abO (by simpa using hx)⟩)⟩
 ·have q:=aA.aaI hs c;refine⟨_,L.del k,r.freeze c (ae g rfl),m,⟨q,rfl,rfl,rfl,abh _,fun _ _ _=>rfl,fun b h=>?_,fun b h=>.inl (Loc.aaJ h)⟩,hK _ q (.inr ⟨⟨g,0,none⟩,cap,rfl,⟨_,ac,t,(0,0),rfl,eu rfl,rfl,fun i u hu=>?_⟩,ad⟩)⟩
  ·by_cases o:b=g
   ·subst o;exact .inr (.inl ⟨k,_,z,rfl⟩)
   ·simp only[fo o] at h;exact .inl h
  ·rw[<-l,abY] at hu;split at hu
   ·simpa using hu
   ·cases hu
theorem sZ {k g:Nat}{t:TypeId}{cs:List Value}(n:St F L w) (he:aC L ρ a) (m:L.get k=some (.box g t cs)) :
  ∃F',F.le F'/\F' g=some (nP t cs)/\St F' (L.del k) w/\aC (L.del k) (xY k g ρ) a/\Step F L w F' (L.del k) w:=by
 have u:=n.own k _ m;simp only[Own.ok] at u;have r:=n.part (Loc.aaM L k);have f:=aA.aaI n u;have q:¬(L.del k).owns g:=by
  rintro⟨j,p,e,hb⟩;rw[Loc.aau] at e;split at e
  ·cases e
  ·rename_i hj;exact hj (n.sep j k p _ g e m hb rfl)
 refine⟨_,f,eu rfl,r.freeze u q,⟨fun j=>?_,fun j z off e=>?_,fun j ad i e=>?_⟩,⟨f,rfl,rfl,rfl,abh _,fun _ _ _=>rfl,fun b h=>?_,fun b h=>.inl (Loc.aaJ h)⟩⟩
 ·rw[he.eq j];simp only[xY];cases e:ρ j with
  | v x=>rfl
  | el x y=>rfl
  | own z off =>
   simp only[];cases hb:Nat.beq z k with
   | true =>
    have:=aa5 hb;subst this;simp only[conc,m]
   | false =>
    have c:z≠k:=fun e=>by rw[e] at hb;simp at hb
    simp only[conc];rw[Loc.aau,fo c]
 ·simp only[xY] at e;split at e
  ·rename_i o l s;cases hb:Nat.beq o k with
   | true=>rw[hb] at e;cases e
   | false =>
    rw[hb] at e;injection e with e3 e4
    subst e3;have c:o≠k:=fun e=>by rw[e] at hb;simp at hb
    rw[Loc.aau,fo c];exact he.own j o l s
  ·cases e
  ·cases e
 ·simp only[xY] at e;split at e
  ·split at e<;>cases e
  ·cases e
  ·rename_i a2 i2 s;injection e with h1 h2
   subst h1;exact he.el j _ _ s
 ·by_cases d:b=g
  ·subst d;exact .inr (.inl ⟨k,_,m,rfl⟩)
  ·simp only[fo d] at h;exact .inl h
theorem rG {s:Nat}{b:Bool}(h:a.tmps.getD s undef=.bool b):a.tmps[s]?=some (.bool b):=by
 rw[abp] at h;cases e:a.tmps[s]? with
 | none=>rw[e] at h;simp[undef] at h
 | some v=>rw[e] at h;simp at h;rw[h]
theorem lg {ρ:Env}{s:Nat}{v:Value}(h:ρ s=.v v):put (some s) (.v v) ρ=ρ:=by
 funext t
 rw[put_eq];simp only[];split
 ·rename_i h1;subst h1;exact h.symm
 ·rfl
def dstsOf (b:Array Oper):List Nat->List Nat
 | []=>[]
 | i::is=>match(b[i]?).bind (·.dst) with | some d=>d::dstsOf b is | none=>dstsOf b is
theorem kK {d:Option Nat}{v:Value}{j:Nat}(h:d≠some j):(a.put d v).tmps.getD j undef=a.tmps.getD j undef:=by
 cases d with
 | none=>rfl
 | some k =>
  simp only[Act.put,abp,Array.getElem?_setIfInBounds];rw[fo (by intro e;exact h (by rw[e]))]
theorem qF {o:Oper}{asg:List Nat}{KK:Act->World->Prop}(b:o.wp P a w KK Q) :
  o.wp P a w (fun a' w'=>KK a' w'/\∀j,o.dst≠some j->a'.tmps.getD j undef=a.tmps.getD j undef) Q:=by
 unfold Oper.wp at b ⊢;generalize(execOp a.eval o).run P w=r at b ⊢;cases r with
 | ok d w' =>
  cases d<;>simp only[Oper.upon] at b ⊢<;>first
   | exact⟨b,fun j h=>kK h⟩
   | exact Calls.mono b (fun e c he=>by cases e<;>first | exact⟨he,fun j h=>kK h⟩ | exact he)
   | exact Rows.mono b (fun v c he=>⟨he,fun j h=>kK h⟩)
 | halt x w'=>cases x<;>simp only[Oper.upon] at b ⊢<;>exact b
theorem vG {c:Code}(I:Nat->Act->World->Prop) (u:∃n,I n a w)
  (q:∀n a w,I n a w->c.wp P (Exit.then (fun a' w'=>∃m,m<n/\I m a' w') Q) a w):(Code.loop c).wp P Q a w:=by
 intro b k cs;have key:∀n a w,I n a w->∃e a' w',Q e a' w'/\Arrives P (lone (b.at a (.code c::.inLoop c::k)) cs w) b k cs e a' w':=by
  intro n
  induction n using Nat.strongRecOn with
  | _ n ih =>
   intro a w y;obtain⟨e,f,h,o,d⟩:=q n a w y b (.inLoop c::k) cs;cases e with
   | normal =>
    obtain⟨m,z,p⟩:=o;obtain⟨v,t,s,r,j⟩:=ih m z f h p;exact⟨v,t,s,r,.of_steps (Steps.trans d (.one step_inLoop)) j⟩
   | exit id=>exact⟨_,f,h,o,.pass (x:=.inLoop c) rfl (fun _ _=>.inl (by simp)) d⟩
   | goto l=>exact⟨_,f,h,o,.pass (x:=.inLoop c) rfl (fun _ _=>.inl (by simp)) d⟩
   | ret=>exact⟨_,f,h,o,.pass (x:=.inLoop c) rfl (fun _ _=>.inl (by simp)) d⟩
   | panic ch=>exact⟨_,f,h,o,.pass (x:=.inLoop c) rfl (fun _ _=>.inl (by simp)) d⟩
   | outgrown=>exact⟨_,f,h,o,.pass (x:=.inLoop c) rfl (fun _ _=>.inl (by simp)) d⟩
 obtain⟨n,y⟩:=u;obtain⟨e,a',w',o,d⟩:=key n a w y;exact⟨e,a',w',o,.of_steps (.one step_loop) d⟩
theorem rH:∀{L L':Loc},L.keeps L'->∀{k g t cs},L.get k=some (.box g t cs)->∃cs',L'.get k=some (.box g t cs')
 | [],L',_,k,g,t,cs,e=>by cases e
 | (j,.box d c cs')::l,L',h,k,g,t,cs,e=>by
  simp only[Loc.keeps] at h;simp only[Loc.get] at e;split at e
  ·rename_i b;have:=aa5 b;subst this;injection e with e
   injection e with e1 e2 e3
   subst e1 e2;exact h.1
  ·exact rH h.2 e
 | (j,.row ..)::l,L',h,k,g,t,cs,e=>by
  simp only[Loc.keeps] at h;simp only[Loc.get] at e;split at e
  ·cases e
  ·exact rH h e
theorem mB {L:Loc}:∀{L':Loc},L.gives L'->∀{k o},L'.get k=some o->L.get k=some o\/(L.get k=none/\∃t sz,o=.row (.slice none 0 0) t sz 0 [])
 | [],_,k,o,e=>by cases e
 | (j,p)::l,h,k,o,e=>by
  simp only[Loc.gives] at h;simp only[Loc.get] at e;split at e
  ·rename_i b;have:=aa5 b;subst this;injection e with e
   subst e;exact h.1
  ·exact mB h.2 e
theorem St.gives {L':Loc}(b:St F L w) (h:L.gives L'):St F L' w:=by
 refine⟨b.frz,fun k o e=>?_,fun k o g e hb=>?_,fun k l o o' g e j hb c=>?_,b.glob⟩
 ·rcases mB h e with h1 | ⟨_,t,sz,rfl⟩
  ·exact b.own k o h1
  ·exact World.ownsRow_nil w 0 t sz
 ·rcases mB h e with h1 | ⟨_,t,sz,rfl⟩
  ·exact b.off k o g h1 hb
  ·cases hb
 ·rcases mB h e with h1 | ⟨_,t,sz,rfl⟩<;>rcases mB h j with d | ⟨_,m,f,rfl⟩
  ·exact b.sep k l o o' g h1 d hb c
  ·cases c
  ·cases hb
  ·cases hb
theorem s5 {L':Loc}(h:L.gives L'):Step F L w F L' w :=
 ⟨aA.le_refl F,rfl,rfl,rfl,abh _,fun _ _ _=>rfl,fun b h=>.inl h,fun b ⟨k,o,e,hb⟩=>by
  rcases mB h e with h1 | ⟨_,t,sz,rfl⟩
  ·exact .inl ⟨k,o,h1,hb⟩
  ·cases hb⟩
theorem di:∀{l:List Nat}{k:Nat},fU l k=true↔k∈l
 | [],k=>by simp[fU]
 | j::l,k=>by
  simp only[fU];split
  ·rename_i h;have:=aa5 h;subst this;simp
  ·rename_i h;have:=gO h;rw[di];simp only[abd];constructor
   ·exact .inr
   ·rintro(h | h)
    ·exact o5 h.symm this
    ·exact h
theorem pB:∀(c:List Nat) (b:List Value) (ρ:Env) (j:Nat),(puts c (b.map .v) ρ j=ρ j)\/∃v,puts c (b.map .v) ρ j=.v v
 | [],b,ρ,j=>.inl rfl
 | k::c,[],ρ,j=>.inl rfl
 | k::c,v::b,ρ,j=>by
  simp only[abe,puts,put_eq];split
  ·exact .inr ⟨v,rfl⟩
  ·exact pB c b ρ j
theorem yh {L:Loc}:∀(d:List Nat) (c:List Value) (ρ b:Env) {a:Act},(∀t,a.tmps.getD t undef=conc L (ρ t))->holds d (c.map .v) ρ->∀j,(∃v,puts d (c.map .v) b j=.v v/\a.tmps.getD j undef=v)\/puts d (c.map .v) b j=b j
 | [],c,ρ,b,a,he,h,j=>.inr rfl
 | k::d,[],ρ,b,a,he,h,j=>.inr rfl
 | k::d,v::c,ρ,b,a,he,h,j=>by
  simp only[abe,holds] at h;simp only[abe,puts,put_eq];split
  ·rename_i e;subst e;exact .inl ⟨v,rfl,by rw[he,h.1];rfl⟩
  ·exact yh d c ρ b he h.2 j
end
def bI:eI->List X
 | .mov x | .nilck x | .conv _ x | .un _ x | .eqN _ x | .fieldA _ x | .extr x _ | .len x | .loadD _ _ x | .boxD _ x | .loadK _ _ _ x | .loadF _ _ x | .loadR _ _ x | .makeSV _ _ _ _ x=>[x]
 | .mlook _ _ _ x i=>[x,i]
 | .pick c a b=>[c,a,b]
 | .bin _ x y | .eqB _ x y | .eqS _ x y | .eqA _ _ x y | .idxA _ x y=>[x,y]
 | .build _ ps=>ps.map (·.2.2)
 | .mkfn _ a b=>a++b
 | .slc _ x lo hi=>x::(lo.toList++hi.toList)
 | .mm _ l | .mkFD _ _ _ l=>l
 | .callD _ l=>l
 | .callVD f l=>f::l
 | .allocD _ _=>[]
 | .appD _ _ _ _ s x=>[s,x]
 | .storeD _ a x=>[a,x]
 | .storeK _ _ a x=>[a,x]
 | _=>[]
def dm:eI->Bool
 | .mov _ | .nilck _ | .conv _ _ | .un _ _ | .fieldA _ _ | .extr _ _ | .len _ | .loadD _ _ _ | .pick _ _ _
 | .bin _ _ _ | .eqB _ _ _ | .eqS _ _ _ | .eqN _ _ | .eqA _ _ _ _ | .idxA _ _ _ | .build _ _ | .mkfn _ _ _ | .slc _ _ _ _ | .mm _ _ | .loadK _ _ _ _ | .loadF _ _ _ | .gload _ | .loadR _ _ _ | .mlook _ _ _ _ _=>true
 | _=>false
def Kz:eI->Bool
 | .loadR _ _ _ | .mlook _ _ _ _ _=>true
 | _=>false
def iw:eI->Bool
 | .callD _ _ | .callVD _ _=>true
 | _=>false
def eU:eI->Bool
 | .mkFD _ _ _ _ | .boxD _ _ | .allocD _ _ | .makeSD _ _ _ _ | .makeSV _ _ _ _ _=>true
 | _=>false
def qk:eI->Bool
 | .appD _ _ _ _ _ _=>true
 | _=>false
def iU:eI->Bool
 | .storeD _ _ _=>true
 | .storeK _ _ _ _=>true
 | _=>false
def DS:eI->Bool
 | .mov _ | .nilck _ | .conv _ _ | .un _ _ | .fieldA _ _ | .extr _ _ | .len _ | .pick _ _ _
 | .bin _ _ _ | .eqB _ _ _ | .eqS _ _ _ | .eqN _ _ | .eqA _ _ _ _ | .idxA _ _ _ | .slc _ _ _ _ | .mm _ _=>true
 | _=>false
theorem DT {o:eI}(h:DS o=true):dm o=true:=by cases o<;>first | rfl | cases h
theorem Bj {o:eI}(h:DS o=true) {F F':aA}{L L':Loc}{ρ:Env}{V:SV->Prop}(a:aM o F L ρ V):aM o F' L' ρ V:=by
 cases o<;>first | (cases h;done) | exact a
def drawn:eI->Option eI
 | .load a n x=>some (.loadD a n x)
 | .call f l=>some (.callD f l)
 | .callV f l=>some (.callVD f l)
 | .box t x=>some (.boxD t x)
 | .alloc t z=>some (.allocD t z)
 | .mkF e n sz l=>some (.mkFD e n sz l)
 | .app e sz b z s x=>some (.appD e sz b z s x)
 | .store n a x=>some (.storeD n a x)
 | .boxD _ _ | .allocD _ _ | .mkFD _ _ _ _ | .callD _ _ | .callVD _ _ | .loadD _ _ _ | .appD _ _ _ _ _ _ | .storeD _ _ _ | .boxF _ _ | .callO _ _ | .callVO _ _ | .appX _ _ _ _ _ _ | .makeSD _ _ _ _ | .makeSV _ _ _ _ _ | .loadK _ _ _ _ | .storeK _ _ _ _ | .storeX _ _ _ | .makeS _ _ _ _ _ _ | .loadF _ _ _ | .loadR _ _ _ | .mkmap | .mupd _ _ _ _ | .mrange _ | .mnext _ | .mentry _=>none
 | o=>some o
def Co:X->Option Int
 | .c (.int _ n)=>some n
 | _=>none
def S0 (b:Nat) (n m:Int):Bool:=Nat.ble (n.toNat*b) 140737488355328&&Nat.ble n.toNat 9223372036854775807&&(match n,m with | .ofNat a,.ofNat b=>Nat.beq a b | _,_=>false)
def pD (bx:List Nat):eI->Option eI
 | .makeS e sz b zs l c=>match Co l,Co c with
  | some n,some m=>match S0 b n m with
   | true=>some (.makeSD e sz n.toNat zs)
   | false=>none
  | _,_=>match l,c with
   | .t i,.t j=>match Nat.beq i j with
    | true=>some (.makeSV e sz b zs (.t i))
    | false=>none
   | _,_=>none
 | .mkR e 0 sz []=>some (.makeSD e sz 0 (List.replicate sz undef))
 | .load a n (.t i)=>match fU bx i with | true=>some (.loadK i a n (.t i)) | false=>some (.loadD a n (.t i))
 | .store n (.t i) x=>match fU bx i with | true=>some (.storeK i n (.t i) x) | false=>some (.storeD n (.t i) x)
 | o=>drawn o
def RD:List (Nat×Nat)->Nat->Option Nat
 | [],_=>none
 | (i,k)::l,j=>match Nat.beq i j with | true=>some k | false=>RD l j
def vH (fl:List Nat) (bk:List (Nat×Nat)) (bx:List Nat):eI->Option eI
 | .load a n (.t i)=>match fU fl i with
  | true=>some (.loadF a n (.t i))
  | false=>match RD bk i with
   | some key=>match Nat.beq key 999999 with
    | true=>some (.loadR a n (.t i))
    | false=>some (.loadK key a n (.t i))
   | none=>pD bx (.load a n (.t i))
 | o=>pD bx o
def yj:eI->Option eI
 | .call f l=>some (.callO f l)
 | .callV f l=>some (.callVO f l)
 | .app e sz b z s x=>some (.appX e sz b z s x)
 | .store n a x=>some (.storeX n a x)
 | .mupd str x i v=>some (.mupd str x i v)
 | _=>none
section
variable {P:Program}{F:aA}{L:Loc}{ρ:Env}{K:dQ}
theorem cA {o:eI}(h:dm o=true) (d:Option Nat):evalOp P o d F L ρ K=aM o F L ρ fun v=>K F L (put d v ρ):=by
 cases o<;>first | rfl | cases h
structure One (T:(SV->Prop)->Prop):Prop where
 ex:∀V,T V->∃v,T (fun u=>u=v)/\V v
 mono:∀V V':SV->Prop,(∀v,V v->V' v)->T V->T V'
theorem One.ret (v:SV):One fun V=>V v:=⟨fun V h=>⟨v,rfl,h⟩,fun V V' h k=>h v k⟩
theorem One.no:One fun _=>False:=⟨fun V h=>h.elim,fun V V' h k=>k⟩
theorem One.and {p:Prop}{T:(SV->Prop)->Prop}(h:One T):One fun V=>p/\T V :=
 ⟨fun V ⟨a,b⟩=>let⟨v,h1,h2⟩:=h.ex V b;⟨v,⟨a,h1⟩,h2⟩,fun V V' c ⟨a,b⟩=>⟨a,h.mono V V' c b⟩⟩
theorem One.fit {k:IntKind}{n:Int}{T:Int->(SV->Prop)->Prop}(h:∀m,One (T m)):One fun V=>Fit k n fun m=>T m V :=
 ⟨fun V ⟨a⟩=>let⟨v,h1,h2⟩:=(h _).ex V a;⟨v,⟨h1⟩,h2⟩,fun V V' b ⟨a⟩=>⟨(h _).mono V V' b a⟩⟩
theorem One.nz {n:Int}{T:(SV->Prop)->Prop}(h:One T):One fun V=>SG n (T V) :=
 ⟨fun V ⟨a,b⟩=>let⟨v,h1,h2⟩:=h.ex V b;⟨v,⟨a,h1⟩,h2⟩,fun V V' c ⟨a,b⟩=>⟨a,h.mono V V' c b⟩⟩
theorem One.idx {a:Option Addr}{i n:Int}{T:(SV->Prop)->Prop}(h:One T):One fun V=>J6 a i n (T V) :=
 ⟨fun V ⟨b,e,d,c⟩=>let⟨v,h1,h2⟩:=h.ex V c;⟨v,⟨b,e,d,h1⟩,h2⟩,fun V V' f ⟨b,e,d,c⟩=>⟨b,e,d,h.mono V V' f c⟩⟩
theorem One.slc {l h:Int}{c:Nat}{T:Nat->Nat->(SV->Prop)->Prop}(f:∀l h,One (T l h)):One fun V=>Rv l h c fun l h=>T l h V :=
 ⟨fun V ⟨a,e,d,b⟩=>let⟨v,h1,h2⟩:=(f _ _).ex V b;⟨v,⟨a,e,d,h1⟩,h2⟩,fun V V' j ⟨a,e,d,b⟩=>⟨a,e,d,(f _ _).mono V V' j b⟩⟩
theorem One.loadD {a:Option Addr}{j n:Nat}{T:List Value->(SV->Prop)->Prop}(h:∀cs,One (T cs)):One fun V=>ju F a j n fun cs=>T cs V :=
 ⟨fun V ⟨cs,b,d,c⟩=>let⟨v,h1,h2⟩:=(h _).ex V c;⟨v,⟨cs,b,d,h1⟩,h2⟩,fun V V' e ⟨cs,b,d,c⟩=>⟨cs,b,d,(h _).mono V V' e c⟩⟩
theorem One.aaU {a:Option Addr}{j n:Nat}{T:List Value->(SV->Prop)->Prop}(h:∀cs,One (T cs)):One fun V=>kI F L a j n fun cs=>T cs V :=
 ⟨fun V ⟨cs,b,d,c⟩=>let⟨v,h1,h2⟩:=(h _).ex V c;⟨v,⟨cs,b,d,h1⟩,h2⟩,fun V V' e ⟨cs,b,d,c⟩=>⟨cs,b,d,(h _).mono V V' e c⟩⟩
theorem One.aaX {g:Nat}{T:Nat->List Value->(SV->Prop)->Prop}(h:∀k cs,One (T k cs)):One fun V=>DC L g fun k cs=>T k cs V :=
 ⟨fun V ⟨k,cs,a,c,b⟩=>let⟨v,h1,h2⟩:=(h _ _).ex V b;⟨v,⟨k,cs,a,c,h1⟩,h2⟩,fun V V' d ⟨k,cs,a,c,b⟩=>⟨k,cs,a,c,(h _ _).mono V V' d b⟩⟩
theorem One.mlk {str:Bool}{cs:List Value}{key:Value}{ok:Bool}{z:Value}:One fun V=>GV str cs key ok z fun v=>V (.v v) :=
 ⟨fun V h=>by
  rcases h.out with⟨i,v,h1,h2⟩ | ⟨h1,h2⟩
  ·exact⟨_,⟨.inl ⟨i,v,h1,rfl⟩⟩,h2⟩
  ·exact⟨_,⟨.inr ⟨h1,rfl⟩⟩,h2⟩,fun V V' a h=>⟨h.out.imp (fun⟨i,v,h1,h2⟩=>⟨i,v,h1,a _ h2⟩) fun⟨h1,h2⟩=>⟨h1,a _ h2⟩⟩⟩
theorem One.gl {g:Nat}{T:Value->(SV->Prop)->Prop}(h:∀v,One (T v)):One fun V=>U0 F g fun v=>T v V :=
 ⟨fun V ⟨u,t,fr,a,b⟩=>let⟨v,h1,h2⟩:=(h _).ex V b;⟨v,⟨u,t,fr,a,h1⟩,h2⟩,fun V V' c ⟨u,t,fr,a,b⟩=>⟨u,t,fr,a,(h _).mono V V' c b⟩⟩
theorem One.bytes {cs:List Value}{T:List UInt8->(SV->Prop)->Prop}(h:∀bs,One (T bs)):One fun V=>N8 cs fun bs=>T bs V :=
 ⟨fun V ⟨bs,a,b⟩=>let⟨v,h1,h2⟩:=(h _).ex V b;⟨v,⟨bs,a,h1⟩,h2⟩,fun V V' c ⟨bs,a,b⟩=>⟨bs,a,(h _).mono V V' c b⟩⟩
theorem One.binI {op:BinOp}{k:IntKind}{a b:Int}:One fun V=>binI op k a b fun v=>V (.v v):=by
 cases op<;>simp only[Fr.binI]<;>first
  | exact One.no
  | exact One.ret _
  | exact One.fit fun _=>One.ret _
  | exact One.nz (One.fit fun _=>One.ret _)
  | exact One.nz (One.ret _)
theorem One.shI {op:BinOp}{k:IntKind}{a b:Int}:One fun V=>shI op k a b fun v=>V (.v v):=by
 cases op<;>simp only[Fr.shI]<;>first
  | exact One.no
  | exact One.and (One.fit fun _=>One.ret _)
  | exact One.and (One.ret _)
theorem One.binS {op:BinOp}{a b:ByteArray}:One fun V=>binS op a b fun v=>V (.v v):=by
 cases op<;>simp only[Fr.binS]<;>first
  | exact One.no
  | exact One.ret _
  | exact One.and (One.ret _)
theorem fI {o:eI}(h:dm o=true):One (aM o F L ρ):=by
 cases o<;>first | (cases h;done) | skip
 case mov x=>exact One.ret _
 case pick c a b =>
  show One fun V=>aM _ F L ρ V;simp only[aM];cases e:ev ρ c with
  | v x =>
    cases x<;>try exact One.no
    rename_i b;cases b<;>exact One.ret _
  | own k off=>exact One.no
  | el a j=>exact One.no
 case build zs ps =>
  show One fun V=>aM _ F L ρ V;simp only[aM];cases e:built L ρ zs ps with
  | none=>exact One.no
  | some cs=>exact One.ret _
 case loadD ag n x =>
  show One fun V=>aM _ F L ρ V;simp only[aM];cases e:ev ρ x with
  | own k off =>
   simp only[];cases m:L.get k with
   | none=>exact One.no
   | some p =>
    cases p with
    | row=>exact One.no
    | box g t cs =>
     simp only[];cases q:jA t ((cs.drop off).take n) n
     ·exact One.no
     ·exact One.ret _
  | el a j=>exact One.loadD fun _=>One.ret _
  | v x =>
   cases x<;>try exact One.no
   rename_i a;cases a
   ·exact One.no
   ·exact One.loadD fun _=>One.ret _
 case gload g =>
  show One fun V=>aM _ F L ρ V;simp only[aM];exact One.gl fun _=>One.ret _
 case loadR ag n x =>
  show One fun V=>aM _ F L ρ V;simp only[aM];cases e:ev ρ x with
  | own k off =>
   simp only[];cases m:L.get k with
   | none=>exact One.no
   | some p =>
    cases p with
    | row=>exact One.no
    | box g t cs =>
     simp only[];cases q:jA t ((cs.drop off).take n) n
     ·exact One.no
     ·exact One.ret _
  | el a j=>exact One.aaU fun _=>One.ret _
  | v x =>
   cases x<;>try exact One.no
   rename_i a;cases a
   ·exact One.no
   ·exact One.aaU fun _=>One.ret _
 case mlook str ok z0 x i =>
  show One fun V=>aM _ F L ρ V;simp only[aM];cases e:ev ρ x with
  | own k off=>exact One.no
  | el a j=>exact One.no
  | v x =>
   cases x<;>try exact One.no
   rename_i a;cases a
   ·exact One.no
   ·exact One.aaX fun k cs=>One.mlk
 case loadF ag n x =>
  show One fun V=>aM _ F L ρ V;simp only[aM];cases e:ev ρ x with
  | own k off=>exact One.no
  | el a j=>exact One.loadD fun _=>One.ret _
  | v x =>
   cases x<;>try exact One.no
   rename_i a;cases a
   ·exact One.no
   ·exact One.loadD fun _=>One.ret _
 case loadK key ag n x =>
  show One fun V=>aM _ F L ρ V;simp only[aM];cases e:ev ρ x with
  | own k off =>
   simp only[];cases e1:Nat.beq k key with
   | false=>exact One.no
   | true =>
    simp only[];cases m:L.get k with
    | none=>exact One.no
    | some p =>
     cases p with
     | row=>exact One.no
     | box g t cs =>
      simp only[];cases q:jA t ((cs.drop off).take n) n
      ·exact One.no
      ·exact One.ret _
  | el a j=>exact One.no
  | v x=>exact One.no
 case nilck x =>
  show One fun V=>aM _ F L ρ V;simp only[aM];cases e:ev ρ x with
  | own k off=>exact One.ret _
  | el a j=>exact One.and (One.ret _)
  | v x =>
   cases x<;>try exact One.no
   ·rename_i a;cases a
    ·exact One.no
    ·exact One.ret _
   ·rename_i f a b;cases f<;>first
     | exact One.no
     | exact One.ret _
     | (simp only[]
        split
        ·exact One.and (One.ret _)
        ·exact One.no)
 case bin op x y =>
  show One fun V=>aM _ F L ρ V;simp only[aM];cases e:ev ρ x with
  | own k off=>exact One.no
  | el a j=>exact One.no
  | v u =>
   cases m:ev ρ y with
   | own k off=>cases u<;>exact One.no
   | el a j=>cases u<;>exact One.no
   | v d =>
    cases u<;>cases d<;>try exact One.no
    ·simp only[];cases J8 op
     ·simp only[];rename_i k n z n';cases qx k z
      ·exact One.no
      ·exact One.binI
     ·exact One.shI
    ·exact One.binS
 case eqB ng x y =>
  show One fun V=>aM _ F L ρ V;simp only[aM];cases e:ev ρ x with
  | own k off=>exact One.no
  | el a j=>exact One.no
  | v u =>
   cases m:ev ρ y with
   | own k off=>cases u<;>exact One.no
   | el a j=>cases u<;>exact One.no
   | v d=>cases u<;>cases d<;>first | exact One.no | exact One.ret _
 case eqS ng x y =>
  show One fun V=>aM _ F L ρ V;simp only[aM];cases e:ev ρ x with
  | own k off=>exact One.no
  | el a j=>exact One.no
  | v u =>
   cases m:ev ρ y with
   | own k off=>cases u<;>exact One.no
   | el a j=>cases u<;>exact One.no
   | v d =>
    cases u<;>cases d<;>try exact One.no
    rename_i a1 l1 c1 s l2 c2;cases s<;>first | exact One.no | exact One.ret _
 case eqN ng x =>
  show One fun V=>aM _ F L ρ V;simp only[aM];cases e:ev ρ x with
  | own k off=>exact One.no
  | el a j=>exact One.no
  | v u=>cases u<;>first | exact One.no | exact One.ret _
 case eqA ng ks x y =>
  show One fun V=>aM _ F L ρ V;simp only[aM];cases e:ev ρ x with
  | own k off=>exact One.no
  | el a j=>exact One.no
  | v u =>
   cases m:ev ρ y with
   | own k off=>cases u<;>exact One.no
   | el a j=>cases u<;>exact One.no
   | v d =>
    cases u<;>cases d<;>try exact One.no
    rename_i cs ds;simp only[];cases jn ks cs.toList ds.toList true<;>first | exact One.no | exact One.ret _
 case un op x =>
  show One fun V=>aM _ F L ρ V;simp only[aM];cases op<;>cases e:ev ρ x<;>first
   | exact One.no
   | (rename_i u;cases u<;>first | exact One.no | exact One.ret _ | exact One.fit fun _=>One.ret _)
 case conv k x =>
  show One fun V=>aM _ F L ρ V;simp only[aM];cases e:ev ρ x<;>first
   | exact One.no
   | (rename_i u;cases u<;>first | exact One.no | exact One.fit fun _=>One.ret _)
 case mkfn f a b=>exact One.ret _
 case slc sz x lo hi =>
  show One fun V=>aM _ F L ρ V;simp only[aM];cases e:ev ρ x<;>try exact One.no
  rename_i u;cases u<;>try exact One.no
  rename_i a n c;simp only[];cases nX ρ 0 lo<;>cases nX ρ n hi<;>first | exact One.no | exact One.slc fun _ _=>One.ret _
 case fieldA off x =>
  show One fun V=>aM _ F L ρ V;simp only[aM];cases e:ev ρ x with
  | own k off=>exact One.ret _
  | el a j=>exact One.ret _
  | v u =>
   cases u<;>try exact One.no
   rename_i p;cases p<;>first | exact One.no | exact One.ret _
 case idxA sz x i =>
  show One fun V=>aM _ F L ρ V;simp only[aM];cases e:ev ρ x with
  | own k off=>exact One.no
  | el a j=>exact One.no
  | v u =>
   cases m:ev ρ i with
   | own k off=>cases u<;>exact One.no
   | el a j=>cases u<;>exact One.no
   | v d=>cases u<;>cases d<;>first | exact One.no | exact One.idx (One.ret _)
 case extr x i =>
  show One fun V=>aM _ F L ρ V;simp only[aM];cases e:ev ρ x<;>try exact One.no
  rename_i u;cases u<;>try exact One.no
  rename_i w;simp only[];cases w.toList[i]?<;>first | exact One.no | exact One.ret _
 case len x =>
  show One fun V=>aM _ F L ρ V;simp only[aM];cases e:ev ρ x<;>try exact One.no
  rename_i u;cases u<;>first | exact One.no | exact One.ret _
 case mm mx l =>
  show One fun V=>aM _ F L ρ V;simp only[aM];cases e:l.map (ev ρ) with
  | nil=>exact One.no
  | cons u r =>
   cases u<;>try exact One.no
   rename_i u;cases u<;>try exact One.no
   rename_i k a0;simp only[];cases Ry mx a0 r<;>first | exact One.no | exact One.ret _
end
theorem s6 {P:Program}{s s':eI}{d:Option Nat}{F:aA}{L:Loc}{ρ:Env}{K:dQ}(h:drawn s=some s') (y:(dm s'||iw s'||eU s'||qk s'||iU s')=true) (ab:iw s'=false) (f:evalOp P s' d F L ρ K):evalOp P s d F L ρ (fun F' L' ρ'=>Real F' L'->K F' L' ρ'):=by
 have load:∀{a:Option Addr}{j n:Nat}{KK KK':List Value->Prop},ju F a j n KK->(∀cs,KK cs->KK' cs)->kI F L a j n KK':=by
  rintro a j n KK KK' ⟨cs,h1,h2,h3⟩ h4;exact⟨cs,h1,by rcases h2 with h2 | h2;exact .inl h2;exact .inr (.inr (.inl h2)),h4 _ h3⟩
 have app:∀{e sz b:Nat}{sv xv:Value}{KK KK':Loc->Value->Prop},qw F L d e sz b sv xv KK->(∀L' v,(Real F L'->KK L' v)->KK' L' v)->GU F L e sz b sv xv KK':=by
  rintro e sz b sv xv KK KK' ⟨kd,n,xs,m,q,h1,⟨ad,c,h2,h3,h4⟩,h5,h6,h7,h8⟩ hk;refine⟨kd,n,xs,m,q,?_,⟨ad,c,h2,h3,?_⟩,h5,h6,h7,fun v w=>hk _ _ (h8 v w)⟩
  ·rcases h1 with h1 | ⟨_,h1⟩ | ⟨_,h1⟩
   ·exact .inl h1
   ·exact .inr (.inl h1)
   ·exact .inr (.inr h1)
  ·rcases h4 with h4 | h4
   ·exact .inl h4
   ·exact .inr (.inl h4)
 by_cases u:dm s'=true
 ·have p:=u;have h1:∀V V':SV->Prop,(∀v,V v->V' v)->aM s' F L ρ V->aM s F L ρ V':=by
   intro V V' hV o;have o:=(fI p).mono V V' hV o;cases s<;>simp only[drawn,aa1,reduceCtorEq] at h<;>subst h<;>first
    | exact o
    | (simp only[aM] at o ⊢
       split at o
       ·exact o
       ·exact load o fun _ h=>h
       ·exact load o fun _ h=>h
       ·exact o)
    | (simp only[aM] at o ⊢
       split at o
       ·exact load o fun _ h=>h
       ·exact o)
    | (exfalso;revert u;simp[dm];done)
  rw[cA p] at f;have h2:=h1 _ (fun v=>Real F L->K F L (put d v ρ)) (fun v w _=>w) f;cases s<;>simp only[drawn,aa1,reduceCtorEq] at h<;>subst h<;>first
   | exact h2
   | (exfalso;revert u;simp[dm];done)
 ·by_cases r:iU s'=true
  ·cases s<;>simp only[drawn,aa1,reduceCtorEq] at h<;>subst h<;>first | (cases r;done) | skip
   rename_i n a x;have l:(match iD (aO (val L ρ x)) n,kE (aO (val L ρ x)),ev ρ a with
    | true,true,.own k off=>match L.get k with
     | some (.box g t cs)=>match jA t ((cs.drop off).take n) n with
      | true=>K F (L.set k (.box g t (bY cs off (aO (val L ρ x))))) (put d (.v undef) ρ)
      | false=>False
     | _=>False
    | _,_,_=>False):=f
   clear f
   split at l
   case h_2=>exact l.elim
   rename_i e1 e2 e3;split at l
   case h_2=>exact l.elim
   rename_i e4;split at l
   case h_2=>exact l.elim
   rename_i e5;simp only[evalOp,e1,e2,e3,e4,e5];exact fun _=>l
  cases s<;>simp only[drawn,aa1,reduceCtorEq] at h<;>subst h<;>first
   | (exfalso;revert u y r;simp[dm,iw,eU,qk,iU];done)
   | (cases ab;done)
   | (simp only[evalOp] at f ⊢
      split at f
      ·exact app f fun _ _ h=>h
      ·exact f)
   | (simp only[evalOp] at f ⊢
      split at f
      ·split at f
       ·exact f
       ·exact f
      ·exact f)
   | (simp only[evalOp] at f ⊢
      split at f
      ·exact fun g F' z hg hr=>f g F' z hg hr
      ·exact f)
section
variable {P:Program}{F:aA}{L:Loc}{ρ:Env}{K:dQ}
def Alike (o:eI) (L L':Loc) (ρ ρ':Env):Prop:=∀x∈bI o,ev ρ' x=ev ρ x/\∀k off,ev ρ x=.own k off->L'.get k=L.get k
theorem Alike.val {o:eI}{L L':Loc}{ρ ρ':Env}(h:Alike o L L' ρ ρ') {x:X}(b:x∈bI o):Fr.val L' ρ' x=Fr.val L ρ x:=by
 obtain⟨h1,h2⟩:=h x b;simp only[Fr.val,h1];cases e:ev ρ x with
 | v u=>rfl
 | el a j=>rfl
 | own k off=>simp only[conc,h2 k off e]
theorem dJ {L L':Loc}{ρ ρ':Env}:∀{xs:List X},(∀x∈xs,Fr.val L' ρ' x=Fr.val L ρ x)->bE L' ρ' xs=bE L ρ xs
 | [],_=>rfl
 | x::xs,h=>by simp only[bE,h x (by simp),dJ (xs:=xs) (fun y a=>h y (abz _ a))]
theorem cB {L L':Loc}{ρ ρ':Env}:∀{xs:List X},(∀x∈xs,Fr.val L' ρ' x=Fr.val L ρ x)->cellsOf L' ρ' xs=cellsOf L ρ xs
 | [],_=>rfl
 | x::xs,h=>by simp only[cellsOf,h x (by simp),cB (xs:=xs) (fun y a=>h y (abz _ a))]
theorem nH {L L':Loc}{ρ ρ':Env}{sz:Nat}:∀{xs:List X},(∀x∈xs,Fr.val L' ρ' x=Fr.val L ρ x)->gC L' ρ' sz xs=gC L ρ sz xs
 | [],_=>rfl
 | x::xs,h=>by simp only[gC,h x (by simp),nH (xs:=xs) (fun y a=>h y (abz _ a))]
theorem qG {L L':Loc}{ρ ρ':Env}:∀{ps:List (Nat×Nat×X)}{zs:List Value},(∀p∈ps,Fr.val L' ρ' p.2.2=Fr.val L ρ p.2.2)->built L' ρ' zs ps=built L ρ zs ps
 | [],zs,_=>rfl
 | (off,n,x)::ps,zs,h=>by
  have h1:=h (off,n,x) (by simp);simp only at h1;simp only[built,h1];split
  ·exact qG (fun p a=>h p (by simp[a]))
  ·rfl
theorem ju.up {F F':aA}(b:F.le F') {a:Option Addr}{j n:Nat}{K:List Value->Prop}(h:ju F a j n K):ju F' a j n K:=by
 obtain⟨cs,h1,h2,h3⟩:=h;exact⟨cs,h1,by rcases h2 with h2 | h2;exact .inl (h2.mono b);exact .inr h2,h3⟩
theorem kI.upF {F F':aA}(b:F.le F') {L:Loc}{a:Option Addr}{j n:Nat}{K:List Value->Prop}(h:kI F L a j n K):kI F' L a j n K:=by
 obtain⟨cs,h1,h2,h3⟩:=h;exact⟨cs,h1,by rcases h2 with h2 | h2;exact .inl (h2.mono b);exact .inr h2,h3⟩
theorem yp {ρ ρ':Env}{d:Int}{x:Option X}(h:∀y∈x.toList,ev ρ' y=ev ρ y):nX ρ' d x=nX ρ d x:=by
 cases x with
 | none=>rfl
 | some y=>simp only[nX,h y (by simp)]
theorem rI {o:eI}(v:dm o=true) {F F':aA}{L L':Loc}{ρ ρ':Env}(r:F.le F') (H:Alike o L L' ρ ρ') {V:SV->Prop}(h:aM o F L ρ V) (s:Kz o=false\/L'=L:=by exact .inr rfl):aM o F' L' ρ' V:=by
 cases o<;>first | (cases v;done) | skip
 case build zs ps =>
  have e:=qG (ps:=ps) (zs:=zs) (L:=L) (L':=L') (ρ:=ρ) (ρ':=ρ') (fun p hp=>H.val (abx.2 ⟨p,hp,rfl⟩));simp only[aM,e] at h ⊢;exact h
 case mkfn f a b =>
  have j:=dJ (xs:=a) (L:=L) (L':=L') (ρ:=ρ) (ρ':=ρ') (fun x m=>H.val (aa9.2 (.inl m)));have q:=dJ (xs:=b) (L:=L) (L':=L') (ρ:=ρ) (ρ':=ρ') (fun x m=>H.val (aa9.2 (.inr m)));simp only[aM,j,q] at h ⊢;exact h
 case mm mx l =>
  have e:l.map (ev ρ')=l.map (ev ρ):=ab7 fun x m=>(H x m).1;simp only[aM,e] at h ⊢;exact h
 case slc sz x lo hi =>
  have e:=(H x (by simp[bI])).1;have j:∀d,nX ρ' d lo=nX ρ d lo:=fun d=>yp fun y w=>(H y (by simp only[bI];exact abz _ (aa9.2 (.inl w)))).1;have q:∀d,nX ρ' d hi=nX ρ d hi:=fun d=>yp fun y w=>(H y (by simp only[bI];exact abz _ (aa9.2 (.inr w)))).1;simp only[aM,e,j,q] at h ⊢;exact h
 case loadD ag n x =>
  obtain⟨e,j⟩:=H x (by simp[bI]);simp only[aM,e] at h ⊢;split at h
  ·rename_i k off m;simp only[j k off m];exact h
  ·exact h.up r
  ·exact h.up r
  ·exact h
 case gload g =>
  simp only[aM] at h ⊢;obtain⟨u,t,fr,h1,h2⟩:=h;exact⟨u,t,fr,r _ _ h1,h2⟩
 case loadR ag n x =>
  obtain⟨e,j⟩:=H x (by simp[bI]);rcases s with s | rfl
  ·cases s
  ·simp only[aM,e] at h ⊢;split at h
   ·exact h
   ·exact h.upF r
   ·exact h.upF r
   ·exact h
 case mlook str ok z0 x i =>
  obtain⟨e,j⟩:=H x (by simp[bI]);have q:val L' ρ' i=val L ρ i:=H.val (by simp[bI]);rcases s with s | rfl
  ·cases s
  ·simp only[aM,e,q] at h ⊢;exact h
 case loadF ag n x =>
  obtain⟨e,j⟩:=H x (by simp[bI]);simp only[aM,e] at h ⊢;split at h
  ·exact h.up r
  ·exact h.up r
  ·exact h
 case loadK key ag n x =>
  obtain⟨e,j⟩:=H x (by simp[bI]);simp only[aM,e] at h ⊢;split at h
  ·rename_i k off m;simp only[j k off m];exact h
  ·exact h
 case pick c a b =>
  have j:=(H c (by simp[bI])).1;have q:=(H a (by simp[bI])).1;have z:=(H b (by simp[bI])).1;simp only[aM,j,q,z] at h ⊢;exact h
 all_goals first
  | (have j:=(H _ (List.mem_cons_self ..)).1
     simp only[aM,j] at h ⊢;exact h)
  | (have j:=(H _ (List.mem_cons_self ..)).1
     have q:=(H _ (abz _ (List.mem_cons_self ..))).1;simp only[aM,j,q] at h ⊢;exact h)
theorem KA {o:eI}(h:dm o=true) {k off:Nat}(d:aM o F L ρ (fun u=>u=.own k off)):∃x∈bI o,∃f,ev ρ x=.own k f:=by
 cases o<;>first | (cases h;done) | skip
 case mov x=>exact⟨x,by simp[bI],off,d⟩
 case pick c a b =>
  simp only[aM] at d;split at d
  ·exact⟨a,by simp[bI],off,d⟩
  ·exact⟨b,by simp[bI],off,d⟩
  ·exact d.elim
 case nilck x =>
  simp only[aM] at d;split at d
  ·rename_i j f e;injection d with h1 h2
   subst h1;exact⟨x,by simp[bI],f,e⟩
  ·cases d.2
  ·cases d
  ·cases d
  ·split at d
   ·cases d.2
   ·exact d.elim
  ·exact d.elim
 case fieldA o' x =>
  simp only[aM] at d;split at d
  ·rename_i j f e;injection d with h1 h2
   subst h1;exact⟨x,by simp[bI],f,e⟩
  ·cases d
  ·cases d
  ·exact d.elim
 case bin op x y =>
  simp only[aM] at d;split at d
  ·split at d
   ·cases op<;>simp only[shI] at d<;>first | exact d.elim | (obtain⟨_,⟨d⟩⟩:=d;cases d;done) | (obtain⟨_,d⟩:=d;cases d;done)
   ·split at d
    ·cases op<;>simp only[binI] at d<;>first | exact d.elim | (cases d;done) | (obtain⟨d⟩:=d;cases d;done) | (obtain⟨_,⟨d⟩⟩:=d;cases d;done) | (obtain⟨_,d⟩:=d;cases d;done)
    ·exact d.elim
  ·cases op<;>simp only[binS] at d<;>first | exact d.elim | (cases d;done) | (obtain⟨_,d⟩:=d;cases d;done)
  ·exact d.elim
 case loadD ag n x =>
  simp only[aM] at d;split at d
  ·split at d
   ·split at d
    ·cases d
    ·exact d.elim
   ·exact d.elim
  ·obtain⟨cs,_,_,d⟩:=d;cases d
  ·obtain⟨cs,_,_,d⟩:=d;cases d
  ·exact d.elim
 case gload g =>
  simp only[aM] at d;obtain⟨u,t,fr,_,d⟩:=d;cases d
 case loadR ag n x =>
  simp only[aM] at d;split at d
  ·split at d
   ·split at d
    ·cases d
    ·exact d.elim
   ·exact d.elim
  ·obtain⟨cs,_,_,d⟩:=d;cases d
  ·obtain⟨cs,_,_,d⟩:=d;cases d
  ·exact d.elim
 case mlook str ok z0 x i =>
  simp only[aM] at d;split at d
  ·obtain⟨k,cs,_,_,⟨⟨i,v,_,d⟩ | ⟨_,d⟩⟩⟩:=d<;>cases d
  ·exact d.elim
 case loadF ag n x =>
  simp only[aM] at d;split at d
  ·obtain⟨cs,_,_,d⟩:=d;cases d
  ·obtain⟨cs,_,_,d⟩:=d;cases d
  ·exact d.elim
 case loadK key ag n x =>
  simp only[aM] at d;split at d
  ·split at d
   ·split at d
    ·split at d
     ·cases d
     ·exact d.elim
    ·exact d.elim
   ·exact d.elim
  ·exact d.elim
 all_goals
  simp only[aM] at d
  repeat' split at d
 all_goals first
  | exact d.elim
  | (cases d;done)
  | (obtain⟨d⟩:=d;cases d;done)
  | (obtain⟨_,_,d⟩:=d;cases d;done)
  | (obtain⟨_,_,_,d⟩:=d;cases d;done)
end
theorem Ot {P:Program}{s s':eI}{d:Option Nat}{F:aA}{L:Loc}{ρ:Env}{K:dQ}(h:yj s=some s') (a:evalOp P s' d F L ρ K):evalOp P s d F L ρ (fun F' L' ρ'=>Real F' L'->K F' L' ρ'):=by
 cases s<;>simp only[yj,aa1,reduceCtorEq] at h<;>subst h
 case store=>exact a
 case mupd =>
  simp only[evalOp] at a ⊢;split at a
  ·obtain⟨k,cs,h1,h2,h3,cs',h4,h5⟩:=a;exact⟨k,cs,h1,h2,h3,cs',h4,fun _=>h5⟩
  ·exact a.elim
 ·simp only[evalOp] at a ⊢;exact a
 ·simp only[evalOp] at a ⊢;split at a
  ·exact a
  ·exact a.elim
 ·simp only[evalOp] at a ⊢;split at a
  ·exact a
  ·exact a.elim
theorem sH {P:Program}{F:aA}{L:Loc}{ρ:Env}{K:dQ}{n:Nat}{a x:X}{d:Option Nat}:evalOp P (.storeD n a x) d F L ρ K=(match iD (aO (val L ρ x)) n,kE (aO (val L ρ x)),ev ρ a with
  | true,true,.own k off=>match L.get k with
   | Option.some (.box g t cs)=>match jA t ((cs.drop off).take n) n with
    | true=>K F (L.set k (.box g t (bY cs off (aO (val L ρ x))))) (put d (.v undef) ρ)
    | false=>False
   | _=>False
  | _,_,_=>False):=rfl
theorem sI {P:Program}{F:aA}{L:Loc}{ρ:Env}{K:dQ}{key n:Nat}{a x:X}{d:Option Nat}:evalOp P (.storeK key n a x) d F L ρ K=(match iD (aO (val L ρ x)) n,kE (aO (val L ρ x)),ev ρ a with
  | true,true,.own k off=>match Nat.beq k key with
   | true=>match L.get k with
    | Option.some (.box g t cs)=>match jA t ((cs.drop off).take n) n with
     | true=>K F (L.set k (.box g t (bY cs off (aO (val L ρ x))))) (put d (.v undef) ρ)
     | false=>False
    | _=>False
   | false=>False
  | _,_,_=>False):=rfl
theorem iV {P:Program}{F:aA}{L:Loc}{ρ:Env}{K:dQ}{o:eI}{d:Option Nat}(m:iU o=true) (b:evalOp P o d F L ρ K) :
  ∃n a x k off g t cs,(o=.storeD n a x\/o=.storeK k n a x)/\iD (aO (val L ρ x)) n=true/\kE (aO (val L ρ x))=true/\ev ρ a=.own k off/\L.get k=some (.box g t cs)/\jA t ((cs.drop off).take n) n=true /\
   K F (L.set k (.box g t (bY cs off (aO (val L ρ x))))) (put d (.v undef) ρ):=by
 cases o<;>first | (cases m;done) | skip
 case storeD n a x =>
  rw[sH] at b;split at b
  case h_2=>exact b.elim
  rename_i k off c j e;split at b
  case h_2=>exact b.elim
  rename_i g t cs h;split at b
  case h_2=>exact b.elim
  rename_i l;exact⟨n,a,x,k,off,g,t,cs,.inl rfl,c,j,e,h,l,b⟩
 case storeK key n a x =>
  rw[sI] at b;split at b
  case h_2=>exact b.elim
  rename_i k off c j e;split at b
  case h_2=>exact b.elim
  rename_i f;have f:=aa5 f;subst f;split at b
  case h_2=>exact b.elim
  rename_i g t cs h;split at b
  case h_2=>exact b.elim
  rename_i l;exact⟨n,a,x,k,off,g,t,cs,.inr rfl,c,j,e,h,l,b⟩
theorem iK {P:Program}{F:aA}{L:Loc}{ρ:Env}{K:dQ}{o:eI}{d:Option Nat}{n:Nat}{a x:X}{k off g:Nat}{t:TypeId}{cs:List Value}(m:o=.storeD n a x\/o=.storeK k n a x) (b:iD (aO (val L ρ x)) n=true) (j:kE (aO (val L ρ x))=true) (e:ev ρ a=.own k off) (f:L.get k=some (.box g t cs)) (c:jA t ((cs.drop off).take n) n=true)
  (h:K F (L.set k (.box g t (bY cs off (aO (val L ρ x))))) (put d (.v undef) ρ)):evalOp P o d F L ρ K:=by
 rcases m with rfl | rfl
 ·rw[sH];simp only[b,j,e,f,c];exact h
 ·rw[sI];have l:Nat.beq k k=true:=by simp
  simp only[b,j,e,l,f,c];exact h
theorem Bk {x:X}{n:Int}{ρ:Env}(h:Co x=some n):∃k,ev ρ x=.v (.int k n):=by
 unfold Co at h;split at h
 ·injection h with h;subst h;exact⟨_,rfl⟩
 ·cases h
theorem Ou {L:Loc}{ρ:Env}{x:X}{k:IntKind}{m:Int}(h:val L ρ x=.int k m):ev ρ x=.v (.int k m):=by
 unfold val at h;cases e:ev ρ x with
 | v u=>rw[e] at h;exact vv SV.v h
 | own j off =>
  rw[e] at h;simp only[conc] at h;split at h<;>cases h
 | el a j =>
  rw[e] at h;cases a<;>cases h
theorem Ov {b:Nat}{n m:Int}(h:S0 b n m=true):0<=n/\n=m/\n.toNat*b<=140737488355328/\n.toNat<=maxLen:=by
 simp only[S0,xo] at h;obtain⟨⟨h1,h2⟩,h3⟩:=h;split at h3
 ·have h3:=aa5 h3;subst h3;exact⟨by simp,rfl,abq h1,abq h2⟩
 ·cases h3
theorem Ow {P:Program}{bx:List Nat}{s s':eI}{d:Option Nat}{F:aA}{L:Loc}{ρ:Env}{K:dQ}(h:pD bx s=some s') (c:(dm s'||iw s'||eU s'||qk s'||iU s')=true) (l:iw s'=false) (b:evalOp P s' d F L ρ K):evalOp P s d F L ρ (fun F' L' ρ'=>Real F' L'->K F' L' ρ'):=by
 unfold pD at h;split at h
 ·split at h
  ·rename_i n m f p;split at h
   ·rename_i u;injection h with h
    subst h;obtain⟨k1,f⟩:=Bk (ρ:=ρ) f;obtain⟨k2,p⟩:=Bk (ρ:=ρ) p;obtain⟨m1,m2,m3,m4⟩:=Ov u;subst m2;simp only[evalOp,f,p] at b ⊢;split at b
    ·rename_i k;split at b
     ·rename_i q _ _;simp only[q];exact⟨m1,abn _,m3,m4,b⟩
     ·exact b.elim
    ·exact b.elim
   ·cases h
  ·split at h
   ·rename_i i j _ _;split at h
    ·rename_i o;have o:=aa5 o;subst o;injection h with h
     subst h;simp only[evalOp] at b ⊢;split at b
     ·rename_i k;split at b
      ·rename_i q _ u;obtain⟨ki,m,f,m1,m2,m3,m4⟩:=DE u;have p:=Ou f;simp only[p,q];rw[m2] at b;exact⟨m1,abn _,m3,m4,b⟩
      ·exact b.elim
     ·exact b.elim
    ·cases h
   ·cases h
 ·rename_i e sz;injection h with h
  subst h;simp only[evalOp] at b ⊢;split at b
  ·rename_i k;split at b
   ·rename_i q _ _;simp only[gC,q];exact b
   ·exact b.elim
  ·exact b.elim
 ·rename_i a n i;split at h
  ·injection h with h
   subst h;refine s6 (s:=.load a n (.t i)) (s':=.loadD a n (.t i)) rfl rfl rfl ?_;simp only[evalOp,aM] at b ⊢;split at b
   ·rename_i k off e;simp only[e];split at b
    ·exact b
    ·exact b.elim
   ·exact b.elim
  ·injection h with h
   subst h;exact s6 (s:=.load a n (.t i)) rfl c l b
 ·rename_i n i x;split at h
  ·injection h with h
   subst h;obtain⟨z,a',x',k,off,g,t,cs,r,f,p,w,y,v,b⟩:=iV rfl b;rcases r with r | r
   ·cases r
   ·injection r with h1 h2 h3 h4
    subst h1 h2 h3 h4;exact s6 (s:=.store n (.t i) x) (s':=.storeD n (.t i) x) rfl rfl rfl (iK (.inl rfl) f p w y v b)
  ·injection h with h
   subst h;exact s6 (s:=.store n (.t i) x) rfl c l b
 ·exact s6 h c l b
def Loc.sameAs (L L':Loc):Prop:=∀j,L'.get j=L.get j
theorem yq {P:Program}{f:Nat}{args:List Value}{F:aA}{L:Loc}{d:Option Nat}{KK:aA->Loc->Value->Prop}(h:dZ P f args F L d KK):eJ P f args F L (fun F' L' v=>∃L2,L'.sameAs L2/\(Real F' L2->KK F' L2 v)):=by
 cases h with
 | frz R h1 h2 =>
  refine⟨[],[],[],R,rfl,List.nodup_nil,List.nodup_nil,fun _ h=>(by cases h),h1,fun v F' Lo a m=>?_⟩;obtain⟨rfl,h4⟩:=h2 v F' Lo a m;exact⟨rfl,fun _ _ _ _ h=>(by cases h),_,fun _=>rfl,h4⟩
 | own R k h1 hd q h2 =>
  refine⟨[],[k],[],R,rfl,List.nodup_nil,by simp,fun j p=>.inr (by simp at p;rw[p];exact q),h1,fun v F' Lo a m=>?_⟩;obtain⟨o,rfl,h4⟩:=h2 v F' Lo a m;exact⟨rfl,fun _ _ _ _ h=>(by cases h),_,fun _=>rfl,h4⟩
 | row R s z t sz n xs h1 q h2 =>
  refine⟨[s],[s],[.row z t sz n xs],fun F Lo v=>Lo=[.row (.slice none 0 0) t sz 0 []]/\R F [] v,?_,by simp,by simp,fun j p=>.inl p,⟨h1.ent,fun F G L v a hr=>⟨hr.1,h1.mono _ _ _ _ a hr.2⟩,fun w hs=>(h1.run w hs).mono ?_⟩,fun v F' Lo a m=>?_⟩
  ·simp only[Loc.sub,q]
  ·rintro e w' ⟨v,F',Lo,rfl,u,l,m⟩;obtain⟨rfl,_⟩:=h2 v F' Lo l.le m;have hb:(Own.row (.slice none 0 0) t sz 0 []).blk=none:=rfl;have x:∀j o,Loc.get (inp [.row (.slice none 0 0) t sz 0 []]) j=some o->o=.row (.slice none 0 0) t sz 0 []:=by
    intro j o e;rw[aJ] at e;split at e
    ·cases p:j-1000 with
     | zero=>rw[p] at e;simpa using e.symm
     | succ i=>rw[p] at e;simp at e
    ·cases e
   have y:∀b,¬(inp [.row (.slice none 0 0) t sz 0 []]).owns b:=by
    rintro b ⟨j,o,e,c⟩;rw[x j o e,hb] at c;cases c
   refine⟨v,F',_,rfl,⟨u.frz,fun j o e=>?_,fun j o g e c=>?_,fun j j' o o' g e e' c=>?_,u.glob⟩,⟨l.le,l.os,l.tape,l.output,l.size,l.same,l.frz,fun b hb=>o5 hb (y b)⟩,rfl,m⟩
   ·rw[x j o e];exact World.ownsRow_nil w' 0 t sz
   ·rw[x j o e,hb] at c;cases c
   ·rw[x j o e,hb] at c;cases c
  ·obtain⟨rfl,m⟩:=m;obtain⟨_,h4⟩:=h2 v F' [] a m;refine⟨rfl,fun k g t' cs r e=>?_,L.set s (.row (.slice none 0 0) t sz 0 []),fun j=>?_,h4⟩
   ·rw[abR.1 r,q] at e;cases e
   ·simp only[Loc.aas,Loc.puts,Loc.aap,Loc.aau];split<;>rfl
 | lent R s z t sz n xs h1 q h2 =>
  refine⟨[s],[s],[.row z t sz n xs],_,by simp only[Loc.sub,q],by simp,by simp,fun j p=>.inl p,h1,fun v F' Lo a m=>?_⟩;obtain⟨rfl,m⟩:=m;refine⟨rfl,fun k g t' cs r e=>?_,L,fun j=>?_,h2 v F' a m⟩
  ·rw[abR.1 r,q] at e;cases e
  ·simp only[Loc.aas,Loc.puts,Loc.aap,Loc.aau];split
   ·rename_i p;rw[p,q]
   ·rfl
theorem Ox {P:Program}{bx:List Nat}{s s':eI}{d:Option Nat}{F:aA}{L:Loc}{ρ:Env}{K:dQ}(h:pD bx s=some s') (a:iw s'=true) (b:evalOp P s' d F L ρ K):evalOp P s d F L ρ (fun F' L' ρ'=>∃L2,L'.sameAs L2/\(Real F' L2->K F' L2 ρ')):=by
 unfold pD at h;split at h
 ·split at h
  ·split at h
   ·injection h with h;subst h;cases a
   ·cases h
  ·split at h
   ·split at h
    ·injection h with h;subst h;cases a
    ·cases h
   ·cases h
 ·injection h with h;subst h;cases a
 ·split at h
  ·injection h with h;subst h;cases a
  ·injection h with h;subst h;cases a
 ·split at h
  ·injection h with h;subst h;cases a
  ·injection h with h;subst h;cases a
 ·cases s<;>simp only[drawn,aa1,reduceCtorEq] at h<;>subst h<;>first | (cases a;done) | skip
  ·simp only[evalOp] at b ⊢;exact yq b
  ·simp only[evalOp] at b ⊢;split at b
   ·exact yq b
   ·exact b.elim
theorem yt {fl bx:List Nat}{bk:List (Nat×Nat)}{s s':eI}(h:vH fl bk bx s=some s'):pD bx s=some s'\/(∃a n i,s=.load a n (.t i)/\s'=.loadF a n (.t i))\/(∃a n i key,s=.load a n (.t i)/\s'=.loadK key a n (.t i))\/(∃a n i,s=.load a n (.t i)/\s'=.loadR a n (.t i)):=by
 unfold vH at h;split at h
 ·rename_i a n i;split at h
  ·injection h with h
   exact .inr (.inl ⟨a,n,i,rfl,h.symm⟩)
  ·split at h
   ·rename_i key _;split at h
    ·injection h with h
     exact .inr (.inr (.inr ⟨a,n,i,rfl,h.symm⟩))
    ·injection h with h
     exact .inr (.inr (.inl ⟨a,n,i,key,rfl,h.symm⟩))
   ·exact .inl h
 ·exact .inl h
theorem IX {o:Bool}{n:Nat}{x:X}{F:aA}{L:Loc}{ρ:Env}{V V':SV->Prop}(h:aM (.load o n x) F L ρ V) (a:∀v,V v->V' v):aM (.load o n x) F L ρ V':=by
 have:=One.mono (T:=fun V=>aM (.loadR o n x) F L ρ V) (fI rfl) V V' a h;exact this
theorem Oy {P:Program}{fl bx:List Nat}{bk:List (Nat×Nat)}{s s':eI}{d:Option Nat}{F:aA}{L:Loc}{ρ:Env}{K:dQ}(h:vH fl bk bx s=some s') (c:(dm s'||iw s'||eU s'||qk s'||iU s')=true) (f:iw s'=false) (b:evalOp P s' d F L ρ K):evalOp P s d F L ρ (fun F' L' ρ'=>Real F' L'->K F' L' ρ'):=by
 rcases yt h with h | ⟨a,n,i,rfl,rfl⟩ | ⟨a,n,i,key,rfl,rfl⟩ | ⟨a,n,i,rfl,rfl⟩
 rotate_left 3
 ·have b:aM (.load a n (.t i)) F L ρ (fun v=>K F L (put d v ρ)):=b;exact IX b fun v h _=>h
 ·exact Ow h c f b
 ·refine s6 (s:=.load a n (.t i)) (s':=.loadD a n (.t i)) rfl rfl rfl ?_;simp only[evalOp,aM] at b ⊢;split at b
  ·rename_i e;simp only[e];exact b
  ·rename_i e;simp only[e];exact b
  ·exact b.elim
 ·refine s6 (s:=.load a n (.t i)) (s':=.loadD a n (.t i)) rfl rfl rfl ?_;simp only[evalOp,aM] at b ⊢;split at b
  ·rename_i k off e;simp only[e];split at b
   ·exact b
   ·exact b.elim
  ·exact b.elim
theorem KC {P:Program}{fl bx:List Nat}{bk:List (Nat×Nat)}{s s':eI}{d:Option Nat}{F:aA}{L:Loc}{ρ:Env}{K:dQ}(h:vH fl bk bx s=some s') (b:iw s'=true) (c:evalOp P s' d F L ρ K):evalOp P s d F L ρ (fun F' L' ρ'=>∃L2,L'.sameAs L2/\(Real F' L2->K F' L2 ρ')):=by
 rcases yt h with h | ⟨a,n,i,rfl,rfl⟩ | ⟨a,n,i,key,rfl,rfl⟩ | ⟨a,n,i,rfl,rfl⟩
 ·exact Ox h b c
 ·cases b
 ·cases b
 ·cases b
end Go.Fr
