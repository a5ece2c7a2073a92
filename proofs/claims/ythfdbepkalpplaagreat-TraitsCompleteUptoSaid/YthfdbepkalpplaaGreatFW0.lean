/- Part of the proofs of the statements of this seat. -/
import Derived.Orders
import Derived.Below
import Derived.Laws.OwnMore
import Derived.Maps.AppendAt
import Derived.WalkKit
import Derived.KernelRfl
import Derived.Lib.AppendStr
import Derived.Laws.BytesString
import Derived.Laws.StructEq
import Derived.Lib.AppendZeros
import Derived.ArgAppend
import Derived.Laws.CopyRow
import Derived.Laws.IdiomCopy
import Derived.Carry
import Derived.Maps.RangeRun
set_option maxRecDepth 10000
set_option linter.unusedVariables false
set_option linter.unusedSimpArgs false
namespace Go.Fr
open Go Go.RowKit
abbrev fo:=@if_pos
abbrev o5:=@if_neg
abbrev vv:=@absurd
abbrev vz:=@congrArg
abbrev xo:=@List.length_map
abbrev aaN:=@Bool.and_eq_true
abbrev aaO:=@Option.some.injEq
abbrev aaP:=@decide_eq_true
abbrev aaQ:=@List.getElem?_eq_getElem
abbrev aaR:=@Nat.eq_of_beq_eq_true
abbrev aaS:=@decide_eq_false
abbrev aaT:=@List.getElem?_eq_some_iff
abbrev aaU:=@List.mem_of_getElem?
abbrev aaV:=@List.mem_append
abbrev aaW:=@Bool.true_and
abbrev aaX:=@List.mem_cons
abbrev aaY:=@Bool.false_and
abbrev aaZ:=@List.map_cons
abbrev aa0:=@decide_eq_true_eq
abbrev aa1:=@List.all_eq_true
abbrev aa2:=@Nat.le_refl
abbrev aa3:=@List.cons_append
abbrev aa4:=@List.getElem?_cons_zero
abbrev aa5:=@Bool.false_eq_true
abbrev aa6:=@List.getElem?_map
abbrev aa7:=@Int.le_refl
abbrev aa8:=@List.length_cons
abbrev aa9:=@Array.getD_eq_getD_getElem?
abbrev abb:=@Nat.le_of_ble_eq_true
abbrev abd:=@Nat.zero_le
abbrev abe:=@List.getElem?_cons_succ
abbrev abf:=@Bool.false_ne_true
abbrev abg:=@List.all_cons
abbrev abh:=@List.mem_iff_getElem?
abbrev abj:=@List.getElem?_eq_none
abbrev abk:=@List.mem_cons_of_mem
abbrev abl:=@Bool.and_false
abbrev abm:=@if_true
abbrev abn:=@List.append_nil
abbrev abo:=@List.length_replicate
abbrev abp:=@List.nil_append
abbrev abq:=@List.mem_map
abbrev abr:=@Bool.or_eq_true
abbrev abt:=@Option.map_some
abbrev abu:=@of_decide_eq_true
abbrev abv:=@Nat.not_lt_zero
abbrev abw:=@Nat.le_trans
abbrev abx:=@List.map_append
abbrev aby:=@List.eq_nil_of_length_eq_zero
abbrev abz:=@List.take_of_length_le
abbrev abA:=@List.length_append
abbrev abB:=@Option.some.inj
abbrev abC:=@List.getElem?_eq_none_iff
abbrev abD:=@List.any_cons
abbrev abE:=@List.getElem?_drop
abbrev abF:=@List.length_take
abbrev abG:=@List.length_set
abbrev abH:=@List.getElem?_append_left
abbrev abI:=@List.getElem?_append_right
abbrev abJ:=@List.map_nil
abbrev abK:=@List.mem_singleton
abbrev abL:=@List.getElem?_take
abbrev abM:=@List.append_assoc
abbrev abN:=@List.any_eq_true
abbrev abO:=@List.length_nil
abbrev abP:=@List.ext_getElem?
abbrev abQ:=@List.mem_replicate
abbrev abR:=@of_decide_eq_false
abbrev abS:=@if_false
abbrev abT:=@List.map_map
abbrev abU:=@List.getElem?_set_ne
abbrev abV:=@List.map_replicate
abbrev abW:=@Nat.lt_succ_self
abbrev abX:=@List.map_congr_left
abbrev abY:=@List.getElem?_set_self
abbrev abZ:=@List.any_eq_false
abbrev ab0:=@decide_eq_false_iff_not
abbrev ab1:=@Bool.not_false
abbrev ab2:=@List.getElem?_replicate
abbrev ab3:=@Bool.not_eq_true
abbrev ab4:=@List.replicate_succ
abbrev ab5:=@Bool.and_true
abbrev ab7:=@List.mem_or_eq_of_mem_set
abbrev aA:=Nat->Option Obj
def aA.le (F G:aA):Prop:=∀b o,F b=some o->G b=some o
theorem aA.le_refl (F:aA):F.le F:=fun _ _ h=>h
theorem aA.le_trans {F G H:aA}(h:F.le G) (k:G.le H):F.le H:=fun b o e=>k b o (h b o e)
def gq:Nat:=2 ^ 64
def JJ:Nat->Value
 | 0=>.slice none 0 0
 | m+1=>.slice (some ⟨m / (gq*gq),0,none⟩) (m / gq % gq) (m % gq)
def gZ (k:Nat) (F:aA) (v:Value):Prop:=(k=0/\v=.nilIface)\/∃m,k=m+1/\v=JJ m
theorem gZ.mono {k:Nat}{F G:aA}{v:Value}(h:F.le G) (r:gZ k F v):gZ k G v:=r
theorem gZ.one {k:Nat}{F:aA}{v:Value}(r:gZ k F v):v.oneCell'=true:=by
 rcases r with⟨_,rfl⟩ | ⟨m,_,rfl⟩
 ·rfl
 ·cases m<;>rfl
theorem MU {F:aA}:gZ 0 F .nilIface:=.inl ⟨rfl,rfl⟩
def si:Nat->Option Nat
 | 0=>none
 | 1=>some 0
 | m+2=>some (m / gq % gq)
theorem MV {F:aA}{k n:Nat}{v:Value}(h:gZ k F v) (e:si k=some n):∃a c,v=.slice a n c:=by
 rcases h with⟨rfl,_⟩ | ⟨m,rfl,rfl⟩
 ·cases e
 ·cases m with
  | zero=>injection e with e;subst e;exact⟨none,0,rfl⟩
  | succ m=>injection e with e;subst e;exact⟨_,_,rfl⟩
def s6 (F:aA):Prop:=True
theorem s6.mono {F G:aA}(h:F.le G) (g:s6 F):s6 G:=g
def wQ (g:Nat):Option Nat:=none
theorem JK {F:aA}{g k:Nat}(h:s6 F) (e:wQ g=some k):∃v t fr,F g=some (.cells #[v] t fr)/\gZ k F v:=by cases e
def MW (k:Nat) (n:Int):Option (Int×Bool):=none
def Fg (k:Nat):Option Bool:=match k with | 0=>some true | _=>none
theorem JL {F:aA}{k:Nat}{v:Value}{b:Bool}(h:gZ k F v) (e:Fg k=some b):(b=true->v=.nilIface)/\(b=false->∃t u,v=.iface t u):=by
 unfold Fg at e;split at e
 case h_2=>cases e
 injection e with e;subst e
 refine⟨fun _=>?_,fun e=>by cases e⟩;rcases h with h | ⟨m,h,_⟩
 ·exact h.2
 ·cases h
def MX:Bool:=false
def R0:List (TypeId×String):=[]
inductive SV where
 | v (x:Value)
 | own (k off:Nat)
 | el (a:Option Addr) (j:Nat)
 deriving Inhabited
inductive Own where
 | box (g:Nat) (t:TypeId) (cs:List Value)
 | row (v:Value) (t:TypeId) (sz n:Nat) (xs:List Value)
def Own.blk:Own->Option Nat
 | .box g _ _=>some g
 | .row v _ _ _ _=>v.ownBlock
abbrev Loc:=List (Nat×Own)
def Loc.get:Loc->Nat->Option Own
 | [],_=>none
 | (j,o)::l,k=>match Nat.beq j k with | true=>some o | false=>Loc.get l k
def Loc.set:Loc->Nat->Own->Loc
 | [],k,o=>[(k,o)]
 | (j,p)::l,k,o=>match Nat.beq j k with
  | true=>(k,o)::l
  | false=>match Nat.ble j k with
   | true=>(j,p)::Loc.set l k o
   | false=>(k,o)::(j,p)::l
def Loc.del:Loc->Nat->Loc
 | [],_=>[]
 | (j,o)::l,k=>match Nat.beq j k with | true=>Loc.del l k | false=>(j,o)::Loc.del l k
abbrev Env:=Nat->SV
def put (d:Option Nat) (v:SV) (ρ:Env):Env :=
 match d with
 | some d=>fun j=>match Nat.beq j d with | true=>v | false=>ρ j
 | none=>ρ
def conc (L:Loc):SV->Value
 | .v x=>x
 | .own k off=>match L.get k with | some (.box g _ _)=>.pointer (some ⟨g,off,none⟩) | _=>undef
 | .el a j=>match a with | some ad=>.pointer (some (ad.add j)) | none=>undef
def gB:Value->Nat->MapEntry
 | .agg ⟨[k,v]⟩,i=>{key:=k,val:=v,born:=i}
 | v,i=>{key:=v,val:=v,born:=i}
def i9:Value->Nat
 | .int _ n=>n.toNat
 | _=>0
def aZ:List Value->Nat->List MapEntry
 | [],_=>[]
 | v::l,i=>gB v i::aZ l (i+1)
def iC:List Value->Obj
 | .tuple ⟨[.map (some m),.int .i64 n]⟩::a=>.mapIter (some m) n.toNat (a.map i9).toArray n.toNat
 | es=>.map (aZ es 0).toArray es.length
def nG:TypeId->List Value->Obj
 | 0,cs=>iC cs
 | t+1,cs=>.cells cs.toArray (t+1) (0,0)
theorem jy {t:TypeId}(h:t≠0) (cs:List Value):nG t cs=.cells cs.toArray t (0,0):=by
 cases t with
 | zero=>exact vv rfl h
 | succ t=>rfl
def Own.ok (w:World):Own->Prop
 | .box g t cs=>w.heap[g]?=some (nG t cs)
 | .row v t sz n xs=>w.ownsRow 0 t sz v n xs
structure St (F:aA) (L:Loc) (w:World):Prop where
 frz:∀b o,F b=some o->w.heap[b]?=some o
 own:∀k o,L.get k=some o->o.ok w
 off:∀k o g,L.get k=some o->o.blk=some g->F g=none
 sep:∀k k' o o' g,L.get k=some o->L.get k'=some o'->o.blk=some g->o'.blk=some g->k=k'
 glob:s6 F
def Loc.owns (L:Loc) (b:Nat):Prop:=∃k o,L.get k=some o/\o.blk=some b
structure Step (F:aA) (L:Loc) (w:World) (F':aA) (L':Loc) (w':World):Prop where
 le:F.le F'
 os:w'.os=w.os
 tape:w'.tape=w.tape
 output:w'.output=w.output
 size:w.heap.size<=w'.heap.size
 same:∀b,b<w.heap.size->¬L.owns b->w'.heap[b]?=w.heap[b]?
 frz:∀b,F' b≠none->F b≠none\/L.owns b\/w.heap.size<=b
 own:∀b,L'.owns b->L.owns b\/w.heap.size<=b
def dO (F:aA) (a:Option Addr) (j:Nat) (cs:List Value):Prop :=
 ∃c b t fr,a=some c/\F c.block=some (.cells b t fr)/\c.spot=none/\∀(i:Nat) (v:Value),cs[i]?=some v->b[c.off+j+i]?=some v
def s9:Nat->List Own->Loc
 | _,[]=>[]
 | k,o::l=>(k,o)::s9 (k+1) l
def inp (l:List Own):Loc:=s9 1000 l
structure CallsA (P:Program) (f:FuncId) (args:Array Value) (F:aA) (Lin:List Own) (R:aA->List Own->Value->Prop):Prop where
 ent:∃fn,P.funcs[f]?=some fn/\fn.body.isSome=true/\(fn.name == "runtime.NumGoroutine")=false
 mono:∀F G L v,F.le G->R F L v->R G L v
 run:∀w,St F (inp Lin) w->Calls P f args w fun e w'=>∃v F' Lo,e=.returned v/\St F' (inp Lo) w'/\Step F (inp Lin) w F' (inp Lo) w'/\R F' Lo v
def sj (v:Value) (b:List PanicEntry):Prop:=∃a,b={v,recovered:=false}::a/\∀e∈a,e.goexit=false
theorem sj.one (v:Value):sj v [{v,recovered:=false}]:=⟨[],rfl,fun e h=>by cases h⟩
structure oP (P:Program) (f:FuncId) (args:Array Value) (F:aA) (Lin:List Own) (R:aA->List Own->Value->Prop) (Pp:Value->Prop):Prop where
 ent:∃fn,P.funcs[f]?=some fn/\fn.body.isSome=true/\(fn.name == "runtime.NumGoroutine")=false
 mono:∀F G L v,F.le G->R F L v->R G L v
 run:∀w,St F (inp Lin) w->Calls P f args w fun e w'=>(∃v F' Lo,e=.returned v/\St F' (inp Lo) w'/\Step F (inp Lin) w F' (inp Lo) w'/\R F' Lo v) \/
  ∃v ch F' Lo,e=.panicked ch/\sj v ch/\St F' (inp Lo) w'/\Step F (inp Lin) w F' (inp Lo) w'/\Lo.length=Lin.length/\(∀(i:Nat) g t cs,Lin[i]?=some (.box g t cs)->∃cs',Lo[i]?=some (.box g t cs'))/\Pp v
theorem CallsA.toX {P:Program}{f:FuncId}{args:Array Value}{F:aA}{Lin:List Own}{R:aA->List Own->Value->Prop}{Pp:Value->Prop}(h:CallsA P f args F Lin R):oP P f args F Lin R Pp :=
 ⟨h.ent,h.mono,fun w a=>(h.run w a).mono fun _ _ k=>.inl k⟩
structure wR (P:Program) (f:FuncId) (args:Array Value) (F:aA) (Lin:List Own) (R:aA->List Own->Value->Prop) (Pp:aA->List Own->Value->Prop):Prop where
 ent:∃fn,P.funcs[f]?=some fn/\fn.body.isSome=true/\(fn.name == "runtime.NumGoroutine")=false
 mono:∀F G L v,F.le G->R F L v->R G L v
 run:∀w,St F (inp Lin) w->Calls P f args w fun e w'=>(∃v F' Lo,e=.returned v/\St F' (inp Lo) w'/\Step F (inp Lin) w F' (inp Lo) w'/\R F' Lo v) \/
  ∃v ch F' Lo,e=.panicked ch/\sj v ch/\St F' (inp Lo) w'/\Step F (inp Lin) w F' (inp Lo) w'/\Lo.length=Lin.length/\(∀(i:Nat) g t cs,Lin[i]?=some (.box g t cs)->∃cs',Lo[i]?=some (.box g t cs'))/\Pp F' Lo v
theorem oP.toS {P:Program}{f:FuncId}{args:Array Value}{F:aA}{Lin:List Own}{R:aA->List Own->Value->Prop}{Pp:Value->Prop}(h:oP P f args F Lin R Pp):wR P f args F Lin R (fun _ _=>Pp):=⟨h.ent,h.mono,h.run⟩
inductive X where
 | t (n:Nat)
 | c (v:Value)
 | fn (f:Nat)
 | mt (nm:String) (n:Nat)
 deriving Inhabited
def Ui (a:String):SV->SV
 | .v x=>.v (.func (.method a) #[x] #[])
 | .own _ _=>.v undef
 | .el _ _=>.v undef
def ev (ρ:Env):X->SV
 | .t n=>ρ n
 | .c v=>.v v
 | .fn f=>.v (.func (.func f) #[] #[])
 | .mt a n=>Ui a (ρ n)
def tj (P:Program) (t:TypeId) (a:String):Option FuncId :=
 match P.info? t with
 | some i=>match i.methods.find? (·.name == a) with
  | some m=>match m.path.toList,m.func with
   | [],some (f,b)=>match P.underlying t,b with
    | some (.pointer _),true=>some f
    | some (.pointer _),false=>none
    | some _,false=>some f
    | _,_=>none
   | _,_=>none
  | none=>none
 | none=>none
def Uj:List (TypeId×String)->TypeId->String->Bool
 | [],_,_=>false
 | (t,c)::l,b,a=>match Nat.beq t b,decide (c=a) with | true,true=>true | _,_=>Uj l b a
def QL (P:Program):Bool:=R0.all fun x=>(tj P x.1 x.2).isSome
def sn (P:Program):SV->Option (Nat×List Value×List Value)
 | .v (.func (.func f) a b)=>some (f,a.toList,b.toList)
 | .v (.func (.method c) a b)=>match a.toList with
  | [.iface t u]=>match tj P t c with
   | some f=>some (f,[u],[])
   | none=>none
  | _=>none
 | _=>none
def Av (P:Program) (f:SV) (args:List Value):Option (Nat×List Value) :=
 match f,args with
 | .v (.func (.methodOf t b) ⟨[]⟩ _),.iface c u::a=>match P.underlying t with
  | some (.interface _)=>match tj P c b with
   | some f=>some (f,u::a)
   | none=>none
  | _=>none
 | _,_=>none
def val (L:Loc) (ρ:Env) (x:X):Value:=conc L (ev ρ x)
inductive dZ where
 | mov (x:X)
 | pick (c a b:X)
 | box (t:TypeId) (x:X)
 | boxF (t:TypeId) (x:X)
 | alloc (t:TypeId) (zs:List Value)
 | mkF (e:TypeId) (n sz:Nat) (xs:List X)
 | mkR (e:TypeId) (n sz:Nat) (xs:List X)
 | build (zs:List Value) (ps:List (Nat×Nat×X))
 | load (agg:Bool) (n:Nat) (x:X)
 | loadD (agg:Bool) (n:Nat) (x:X)
 | store (n:Nat) (a x:X)
 | nilck (x:X)
 | bin (op:BinOp) (x y:X)
 | eqB (neg:Bool) (x y:X)
 | eqS (neg:Bool) (x y:X)
 | eqN (neg:Bool) (x:X)
 | tas (t:TypeId) (z:Value) (x:X)
 | eqA (neg:Bool) (ks:List Bool) (x y:X)
 | un (op:UnOp) (x:X)
 | conv (k:IntKind) (x:X)
 | mkfn (f:Nat) (first cap:List X)
 | makeS (e:TypeId) (sz bytes:Nat) (zs:List Value) (l c:X)
 | slc (sz:Nat) (x:X) (lo hi:Option X)
 | fieldA (off:Nat) (x:X)
 | idxA (sz:Nat) (x i:X)
 | extr (x:X) (i:Nat)
 | call (f:Nat) (args:List X)
 | callV (f:X) (args:List X)
 | callD (f:Nat) (args:List X)
 | boxD (t:TypeId) (x:X)
 | allocD (t:TypeId) (zs:List Value)
 | mkFD (e:TypeId) (n sz:Nat) (xs:List X)
 | callVD (f:X) (args:List X)
 | callO (f:Nat) (args:List X)
 | callVO (f:X) (args:List X)
 | len (x:X)
 | mm (mx:Bool) (args:List X)
 | app (e:TypeId) (sz bytes:Nat) (zs:List Value) (s x:X)
 | appD (e:TypeId) (sz bytes:Nat) (zs:List Value) (s x:X)
 | storeD (n:Nat) (a x:X)
 | appX (e:TypeId) (sz bytes:Nat) (zs:List Value) (s x:X)
 | mkif (t:TypeId) (x:X)
 | makeSD (e sz n:Nat) (zs:List Value)
 | makeSV (e sz b:Nat) (zs:List Value) (x:X)
 | loadK (key:Nat) (agg:Bool) (n:Nat) (x:X)
 | storeK (key n:Nat) (a x:X)
 | storeX (n:Nat) (a x:X)
 | pan (x:X)
 | gload (g:Nat)
 | loadF (agg:Bool) (n:Nat) (x:X)
 | loadR (agg:Bool) (n:Nat) (x:X)
 | mkmap
 | mlook (str ok:Bool) (z:Value) (x i:X)
 | mupd (str:Bool) (x i v:X)
 | mrange (x:X)
 | mnext (x:X)
 | mentry (x:X)
 | dead
 deriving Inhabited
structure YK where
 dst:Option Nat
 op:dZ
 guard:Option (Nat×Bool)
 deriving Inhabited
abbrev dI:=aA->Loc->Env->Prop
def bV (cs:List Value) (off:Nat) (a:List Value):List Value:=cs.take off++a++cs.drop (off+a.length)
structure Fit (k:IntKind) (n:Int) (K:Int->Prop):Prop where
 out:K (k.wrap n)
structure R2 (n:Int) (K:Prop):Prop where
 ne:n≠0
 out:K
structure zV (i:Int) (n:Int) (K:Prop):Prop where
 lo:0<=i
 hi:i<n
 out:K
structure JM (a:Option Addr) (i:Int) (n:Int) (K:Prop):Prop where
 ne:a≠none
 lo:0<=i
 hi:i<n
 out:K
structure kx (F:aA) (L:Loc) (a:Option Addr) (j n:Nat) (K:List Value->Prop):Prop where
 out:∃cs,cs.length=n/\(dO F a j cs\/(∃k v t sz m xs ad c,L.get k=some (.row v t sz m xs)/\a=some ad/\v=.slice (some ad) m c/\∀(i:Nat) (u:Value),cs[i]?=some u->xs[j+i]?=some u)\/n=0\/∃k g t bs o,L.get k=some (.box g t bs)/\t≠0/\a=some ⟨g,o,none⟩/\∀(i:Nat) (u:Value),cs[i]?=some u->bs[o+j+i]?=some u)/\K cs
structure Uk (F:aA) (g:Nat) (K:Value->Prop):Prop where
 out:∃v t fr,F g=some (.cells #[v] t fr)/\K v
structure jo (F:aA) (a:Option Addr) (j n:Nat) (K:List Value->Prop):Prop where
 out:∃cs,cs.length=n/\(dO F a j cs\/n=0)/\K cs
structure qW (L:Loc) (a:Option Addr) (j:Nat) (cs:List Value) (K:Loc->Prop):Prop where
 out:∃k v t sz m xs ad c,L.get k=some (.row v t sz m xs)/\a=some ad/\v=.slice (some ad) m c/\j+cs.length<=xs.length/\(∀u∈cs,u.oneCell'=true) /\
  K (L.set k (.row v t sz m (bV xs j cs)))
def Loc.sub (L:Loc):List Nat->Option (List Own)
 | []=>some []
 | k::ks=>match L.get k,Loc.sub L ks with
  | some o,some l=>some (o::l)
  | _,_=>none
def Loc.aaf (L:Loc):List Nat->Loc
 | []=>L
 | k::ks=>Loc.aaf (L.del k) ks
def Loc.puts (L:Loc):List Nat->List Own->Loc
 | k::ks,o::l=>Loc.puts (L.set k o) ks l
 | _,_=>L
structure d9 (P:Program) (f:Nat) (args:List Value) (F:aA) (L:Loc) (K:aA->Loc->Value->Prop):Prop where
 out:∃(ks ko:List Nat) (Lin:List Own) (R:aA->List Own->Value->Prop),L.sub ks=some Lin/\ks.Nodup/\ko.Nodup/\(∀k,k∈ko->k∈ks\/L.get k=none)/\CallsA P f args.toArray F Lin R /\
  ∀v F' Lo,F.le F'->R F' Lo v->ko.length=Lo.length /\
   (∀k g t cs,k∈ks->L.get k=some (.box g t cs)->∃cs',Loc.get ((L.aaf ks).puts ko Lo) k=some (.box g t cs')) /\
   K F' ((L.aaf ks).puts ko Lo) v
def Real (F:aA) (L:Loc):Prop:=∃w,St F L w
inductive dQ (P:Program) (f:Nat) (args:List Value) (F:aA) (L:Loc) (d:Option Nat) (K:aA->Loc->Value->Prop):Prop
 | frz (R:aA->List Own->Value->Prop) (h:CallsA P f args.toArray F [] R) (k:∀v F' Lo,F.le F'->R F' Lo v->Lo=[]/\(Real F' L->K F' L v))
 | own (R:aA->List Own->Value->Prop) (k:Nat) (h:CallsA P f args.toArray F [] R) (hd:d=some k) (hk:L.get k=none)
   (kk:∀v F' Lo,F.le F'->R F' Lo v->∃o,Lo=[o]/\(Real F' (L.set k o)->K F' (L.set k o) v))
 | row (R:aA->List Own->Value->Prop) (kr:Nat) (rv:Value) (t:TypeId) (sz n:Nat) (xs:List Value) (h:CallsA P f args.toArray F [.row rv t sz n xs] R) (hk:L.get kr=some (.row rv t sz n xs))
   (kk:∀v F' Lo,F.le F'->R F' Lo v->Lo=[]/\(Real F' (L.set kr (.row (.slice none 0 0) t sz 0 []))->K F' (L.set kr (.row (.slice none 0 0) t sz 0 [])) v))
 | lent (R:aA->Value->Prop) (kr:Nat) (rv:Value) (t:TypeId) (sz n:Nat) (xs:List Value) (h:CallsA P f args.toArray F [.row rv t sz n xs] (fun F' Lo v=>Lo=[.row rv t sz n xs]/\R F' v)) (hk:L.get kr=some (.row rv t sz n xs))
   (kk:∀v F',F.le F'->R F' v->Real F' L->K F' L v)
structure Gx (F:aA) (L:Loc) (e:TypeId) (sz bytes:Nat) (s x:Value) (K:Loc->Value->Prop):Prop where
 out:∃(kd:Nat) (n:Nat) (xs:List Value) (m:Nat) (news:List Value),
  (L.get kd=some (.row s e sz n xs)\/(L.get kd=none/\n=0/\xs=[]/\s=.slice none 0 0)\/(L.get kd=none/\∃ad,s=.slice (some ad) n n/\0<m/\xs.length=n*sz/\(dO F (some ad) 0 xs\/(n=0/\xs=[])))) /\
  (∃a c,x=.slice a m c/\news.length=m*sz/\(dO F a 0 news\/(m=0/\news=[]) \/
    ∃k v t sz' m' ys ad c',L.get k=some (.row v t sz' m' ys)/\a=some ad/\v=.slice (some ad) m' c'/\∀(i:Nat) (u:Value),news[i]?=some u->ys[i]?=some u)) /\
  (∀u∈news,u.oneCell'=true)/\n+m<=maxLen/\(n+m)*bytes<=140737488355328 /\
  ∀v,(∃a c,v=.slice a (n+m) c/\(a=none->n+m=0))->K (L.set kd (.row v e sz (n+m) (xs++news))) v
structure qh (F:aA) (L:Loc) (d:Option Nat) (e:TypeId) (sz bytes:Nat) (s x:Value) (K:Loc->Value->Prop):Prop where
 out:∃(kd:Nat) (n:Nat) (xs:List Value) (m:Nat) (news:List Value),
  (L.get kd=some (.row s e sz n xs)\/(d=some kd/\L.get kd=none/\n=0/\xs=[]/\s=.slice none 0 0) \/
   (d=some kd/\L.get kd=none/\∃ad,s=.slice (some ad) n n/\0<m/\xs.length=n*sz/\(dO F (some ad) 0 xs\/(n=0/\xs=[])))) /\
  (∃a c,x=.slice a m c/\news.length=m*sz/\(dO F a 0 news\/(m=0/\news=[]))) /\
  (∀u∈news,u.oneCell'=true)/\n+m<=maxLen/\(n+m)*bytes<=140737488355328 /\
  ∀v,(∃a c,v=.slice a (n+m) c/\(a=none->n+m=0))->Real F (L.set kd (.row v e sz (n+m) (xs++news)))->K (L.set kd (.row v e sz (n+m) (xs++news))) v
structure Wt (L:Loc) (e:TypeId) (s:Value) (t:ByteArray) (K:Loc->Value->Prop):Prop where
 out:∃(kd:Nat) (n:Nat) (xs:List Value),
  (L.get kd=some (.row s e 1 n xs)\/(L.get kd=none/\n=0/\xs=[]/\s=.slice none 0 0)) /\
  n+t.size<=maxLen/\(n+t.size)<=140737488355328 /\
  ∀v,(∃a c,v=.slice a (n+t.size) c/\(a=none->n+t.size=0))->K (L.set kd (.row v e 1 (n+t.size) (xs++t.data.toList.map fun b=>Value.int .u8 b.toNat))) v
structure Wu (L:Loc) (e:TypeId) (bytes:Nat) (ki:IntKind) (s:Value) (m:Nat) (K:Loc->Value->Prop):Prop where
 out:∃(kd:Nat) (n:Nat) (xs:List Value),
  (L.get kd=some (.row s e 1 n xs)\/(L.get kd=none/\n=0/\xs=[]/\s=.slice none 0 0)) /\
  n+m<=maxLen/\(n+m)*bytes<=140737488355328 /\
  ∀v,(∃a c,v=.slice a (n+m) c/\(a=none->n+m=0))->K (L.set kd (.row v e 1 (n+m) (xs++List.replicate m (.int ki 0)))) v
structure Wv (F:aA) (L:Loc) (e:TypeId) (sz:Nat) (d x:Value) (K:Loc->Nat->Prop):Prop where
 out:(∃(k n:Nat) (v:Value) (nr:Nat) (xs:List Value) (ad:Addr) (cr cd j m:Nat) (a:Option Addr) (c:Nat) (news:List Value),
  L.get k=some (.row v e sz nr xs)/\v=.slice (some ad) nr cr/\d=.slice (some (ad.add (j*sz))) n cd/\j+n<=nr /\
  x=.slice a m c/\news.length=(min m n)*sz/\(dO F a 0 news\/(min m n=0/\news=[]))/\(∀u∈news,u.oneCell'=true) /\
  K (L.set k (.row v e sz nr (bV xs (j*sz) news))) (min m n)) \/
  ∃(da:Option Addr) (n cd:Nat) (a:Option Addr) (m c:Nat),d=.slice da n cd/\x=.slice a m c/\min m n=0/\K L 0
structure V7 (L:Loc) (e:TypeId) (d:Value) (t:ByteArray) (K:Loc->Nat->Prop):Prop where
 out:∃(k n:Nat) (v:Value) (nr:Nat) (xs:List Value) (ad:Addr) (cr cd j:Nat),
  L.get k=some (.row v e 1 nr xs)/\v=.slice (some ad) nr cr/\d=.slice (some (ad.add j)) n cd/\j+n<=nr /\
  K (L.set k (.row v e 1 nr (bV xs j ((t.data.toList.take n).map fun b=>Value.int .u8 b.toNat)))) (min t.size n)
structure MY (cs:List Value) (K:List UInt8->Prop):Prop where
 out:∃bs:List UInt8,cs=bs.map (fun b=>Value.int .u8 b.toNat)/\K bs
structure Zf (L:Loc) (a:Option Addr) (n:Nat) (K:List UInt8->Prop):Prop where
 out:∃k t c,∃bs:List UInt8,L.get k=some (.row (.slice a n c) t 1 n (bs.map (fun b=>Value.int .u8 b.toNat)))/\bs.length=n/\(a=none->n=0)/\K bs
def lK:List Value->Bool
 | .tuple _::_=>false
 | _=>true
def fA:Bool->Value->Value->Option Bool
 | false,.int .i64 a,.int .i64 b=>some (decide (a=b))
 | true,.string a,.string b=>some (decide (a.data.toList=b.data.toList))
 | _,_,_=>none
def mo (str:Bool) (key:Value):List Value->Nat->Option (Option (Nat×Value))
 | [],_=>some none
 | .agg ⟨[k,v]⟩::l,i=>match fA str key k with
  | some true=>some (some (i,v))
  | some false=>mo str key l (i+1)
  | none=>none
 | _::_,_=>none
def xJ (str:Bool) (key val:Value):List Value->Option (List Value)
 | []=>some [.agg #[key,val]]
 | .agg ⟨[k,v]⟩::l=>match fA str key k with
  | some true=>some (.agg #[key,val]::l)
  | some false=>match xJ str key val l with | some l'=>some (.agg #[k,v]::l') | none=>none
  | none=>none
 | _::_=>none
structure C8 (L:Loc) (g:Nat) (K:Nat->List Value->Prop):Prop where
 out:∃k cs,L.get k=some (.box g 0 cs)/\lK cs=true/\K k cs
structure Gy (str:Bool) (cs:List Value) (key:Value) (ok:Bool) (z:Value) (K:Value->Prop):Prop where
 out:(∃i v,mo str key cs 0=some (some (i,v))/\K (match ok with | true=>.tuple #[v,.bool true] | false=>v))\/(mo str key cs 0=some none/\K (match ok with | true=>.tuple #[z,.bool false] | false=>z))
structure R3 (str:Bool) (cs:List Value) (key val:Value) (K:List Value->Prop):Prop where
 isKey:fA str key key=some true
 out:∃cs',xJ str key val cs=some cs'/\K cs'
structure JN (L:Loc) (k gi g n:Nat) (seen:List Value) (K:Loc->Value->Prop):Prop where
 out:∃km cs,L.get km=some (.box g 0 cs)/\lK cs=true/\cs.length=n/\(∀j e,cs[j]?=some e->j∉seen.map i9->K (L.set k (.box gi 0 (.tuple #[.map (some g),.int .i64 n]::(seen++[.int .i64 j])))) (.tuple #[.bool true,(gB e j).key,(gB e j).val])) /\
  ((∀j,j<n->j∈seen.map i9)->K L (.tuple #[.bool false]))
structure Gz (L:Loc) (g n:Nat) (seen:List Value) (K:Value->Prop):Prop where
 out:∃km cs j e,L.get km=some (.box g 0 cs)/\lK cs=true/\cs.length=n/\seen.getLast?=some (.int .i64 (.ofNat j))/\cs[j]?=some e/\K (.tuple #[(gB e j).key,(gB e j).val])
structure Ww (F:aA) (mv:Value) (n:Int) (K:Int->Bool->Prop):Prop where
 out:∃k r b,gZ k F mv/\MW k n=some (r,b)/\K r b
structure oQ (n c:Int) (bytes:Nat) (K:Nat->Prop):Prop where
 lo:0<=n
 le:n<=c
 hi:c.toNat*bytes<=140737488355328
 max:c.toNat<=maxLen
 out:K n.toNat
structure QM (l h:Int) (c:Nat) (K:Nat->Nat->Prop):Prop where
 lo:0<=l
 le:l<=h
 hi:h<=c
 out:K l.toNat h.toNat
abbrev zW:Bool->Prop->Prop->Prop
 | true,A,_=>A
 | false,_,B=>B
def aM:Value->List Value
 | .agg cs=>cs.toList
 | v=>[v]
def bn (L:Loc) (ρ:Env):List X->List Value
 | []=>[]
 | x::xs=>val L ρ x::bn L ρ xs
def cellsOf (L:Loc) (ρ:Env):List X->List Value
 | []=>[]
 | x::xs=>aM (val L ρ x)++cellsOf L ρ xs
def iD (agg:Bool) (cs:List Value):Value :=
 match agg,cs with
 | true,cs=>.agg cs.toArray
 | false,[v]=>v
 | false,_=>undef
def iz:List Value->Nat->Bool
 | [],0=>true
 | _::l,n+1=>iz l n
 | _,_=>false
def jt (t:TypeId) (l:List Value) (n:Nat):Bool:=match Nat.beq t 0 with | true=>false | false=>iz l n
def gC (L:Loc) (ρ:Env) (sz:Nat):List X->Bool
 | []=>true
 | x::xs=>match iz (aM (val L ρ x)) sz with | true=>gC L ρ sz xs | false=>false
def kg:List Value->Bool
 | []=>true
 | v::l=>match v.oneCell' with | true=>kg l | false=>false
def tq:Bool->Bool->Bool
 | true,b=>!b
 | false,b=>b
def QN (a b:ByteArray):Bool:=decide (a.data.toList=b.data.toList)
def QO (a b:ByteArray):Bool:=Op.bytesLess a.data.toList b.data.toList
def built (L:Loc) (ρ:Env):List Value->List (Nat×Nat×X)->Option (List Value)
 | zs,[]=>some zs
 | zs,(off,n,x)::ps=>match iz (aM (val L ρ x)) n with
  | true=>built L ρ (bV zs off (aM (val L ρ x))) ps
  | false=>none
def QR (mx:Bool):Int->List SV->Option Int
 | a,[]=>some a
 | a,.v (.int _ b)::l=>QR mx (match mx with | true=>if b>a then b else a | false=>if b<a then b else a) l
 | _,_=>none
def su (a:Option Addr) (c l h sz:Nat):Value:=.slice (if c=l then a else a.map (·.add (l*sz))) (h-l) (c-l)
def nR (ρ:Env) (d:Int):Option X->Option Int
 | none=>some d
 | some x=>match ev ρ x with | .v (.int _ i)=>some i | _=>none
def mq:Value->Nat
 | .int _ m=>m.toNat
 | _=>0
def tu (b:Nat):Value->Bool
 | .int _ m=>Nat.ble (m.toNat*b) 140737488355328&&Nat.ble m.toNat 9223372036854775807&&decide (0<=m)
 | _=>false
theorem C9 {b:Nat}{v:Value}(h:tu b v=true):∃k m,v=.int k m/\0<=m/\mq v=m.toNat/\m.toNat*b<=140737488355328/\m.toNat<=maxLen:=by
 cases v<;>simp only[tu] at h<;>try (cases h;done)
 rename_i k m;simp only[aaN,aa0] at h;exact⟨k,m,rfl,h.2,rfl,abb h.1.1,abb h.1.2⟩
theorem Ii {b:Nat}{v:Value}(h:tu b v=true):mq v<=maxLen:=by
 obtain⟨k,m,rfl,_,e,_,h2⟩:=C9 h;rw[e];exact h2
def binI (op:BinOp) (k:IntKind) (a b:Int) (K:Value->Prop):Prop :=
 match op with
 | .add=>Fit k (a+b) fun n=>K (.int k n)
 | .sub=>Fit k (a-b) fun n=>K (.int k n)
 | .mul=>Fit k (a*b) fun n=>K (.int k n)
 | .quo=>R2 b (Fit k (a.tdiv b) fun n=>K (.int k n))
 | .rem=>R2 b (K (.int k (a.tmod b)))
 | .and=>K (.int k (k.wrap (BitVec.ofInt k.bits a &&& BitVec.ofInt k.bits b).toNat))
 | .or=>K (.int k (k.wrap (BitVec.ofInt k.bits a ||| BitVec.ofInt k.bits b).toNat))
 | .xor=>K (.int k (k.wrap (BitVec.ofInt k.bits a ^^^ BitVec.ofInt k.bits b).toNat))
 | .andNot=>K (.int k (k.wrap (BitVec.ofInt k.bits a &&& ~~~ BitVec.ofInt k.bits b).toNat))
 | .eql=>K (.bool (decide (a=b)))
 | .neq=>K (.bool (!decide (a=b)))
 | .lss=>K (.bool (decide (a<b)))
 | .leq=>K (.bool (decide (a<=b)))
 | .gtr=>K (.bool (decide (b<a)))
 | .geq=>K (.bool (decide (b<=a)))
 | _=>False
def shI (op:BinOp) (k:IntKind) (a b:Int) (K:Value->Prop):Prop :=
 match op with
 | .shl=>0<=b/\Fit k (a*2 ^ (min b.toNat k.bits)) fun n=>K (.int k n)
 | .shr=>0<=b/\K (.int k (a.fdiv (2 ^ (min b.toNat k.bits))))
 | _=>False
def binS (op:BinOp) (a b:ByteArray) (K:Value->Prop):Prop :=
 match op with
 | .add=>((a.size+b.size:Nat):Int)<=IntKind.i64.max/\K (.string (a++b))
 | .eql=>K (.bool (QN a b))
 | .neq=>K (.bool (!QN a b))
 | .lss=>K (.bool (QO a b))
 | .geq=>K (.bool (!QO a b))
 | _=>False
def qi:IntKind->IntKind->Bool
 | .i64,.i64=>true | .u8,.u8=>true | .u64,.u64=>true | .i32,.i32=>true | .u16,.u16=>true | .u32,.u32=>true | .i8,.i8=>true | .i16,.i16=>true
 | _,_=>false
def JO:BinOp->Bool
 | .shl | .shr=>true
 | _=>false
def ji:List Bool->List Value->List Value->Bool->Option Bool
 | [],[],[],c=>some c
 | true::ks,.int k a::l,.int e b::d,c=>match qi k e with | true=>ji ks l d (c&&decide (a=b)) | false=>none
 | false::ks,.bool a::l,.bool b::d,c=>ji ks l d (c&&decide (a=b))
 | _,_,_,_=>none
def aK (o:dZ) (F:aA) (L:Loc) (ρ:Env) (V:SV->Prop):Prop :=
 match o with
 | .mov x=>V (ev ρ x)
 | .pick c a b=>match ev ρ c with
  | .v (.bool true)=>V (ev ρ a)
  | .v (.bool false)=>V (ev ρ b)
  | _=>False
 | .build zs ps=>match built L ρ zs ps with
  | some cs=>V (.v (.agg cs.toArray))
  | none=>False
 | .load agg n x=>match ev ρ x with
  | .own k off=>match L.get k with
   | some (.box _ t cs)=>match jt t ((cs.drop off).take n) n with
    | true=>V (.v (iD agg ((cs.drop off).take n)))
    | false=>False
   | _=>False
  | .el a j=>kx F L a j n fun cs=>V (.v (iD agg cs))
  | .v (.pointer (some a))=>kx F L (some a) 0 n fun cs=>V (.v (iD agg cs))
  | _=>False
 | .loadR agg n x=>match ev ρ x with
  | .own k off=>match L.get k with
   | some (.box _ t cs)=>match jt t ((cs.drop off).take n) n with
    | true=>V (.v (iD agg ((cs.drop off).take n)))
    | false=>False
   | _=>False
  | .el a j=>kx F L a j n fun cs=>V (.v (iD agg cs))
  | .v (.pointer (some a))=>kx F L (some a) 0 n fun cs=>V (.v (iD agg cs))
  | _=>False
 | .nilck x=>match ev ρ x with
  | .own k off=>V (.own k off)
  | .el a j=>a≠none/\V (.el a j)
  | .v (.pointer (some a))=>V (.v (.pointer (some a)))
  | .v (.func (.func f) d e)=>V (.v (.func (.func f) d e))
  | .v (.func (.method p) d e)=>match d.toList with
   | [.iface t u]=>Uj R0 t p=true/\V (.v (.func (.method p) d e))
   | _=>False
  | _=>False
 | .bin op x y=>match ev ρ x,ev ρ y with
  | .v (.int k a),.v (.int r b)=>match JO op with
   | true=>shI op k a b fun v=>V (.v v)
   | false=>match qi k r with
    | true=>binI op k a b fun v=>V (.v v)
    | false=>False
  | .v (.string a),.v (.string b)=>binS op a b fun v=>V (.v v)
  | _,_=>False
 | .eqB neg x y=>match ev ρ x,ev ρ y with
  | .v (.bool a),.v (.bool b)=>V (.v (.bool (tq neg (decide (a=b)))))
  | _,_=>False
 | .eqS neg x y=>match ev ρ x,ev ρ y with
  | .v (.slice a _ _),.v (.slice none _ _)=>V (.v (.bool (tq neg a.isNone)))
  | _,_=>False
 | .eqN neg x=>match ev ρ x with
  | .v .nilIface=>V (.v (.bool (tq neg true)))
  | .v (.iface _ _)=>V (.v (.bool (tq neg false)))
  | _=>False
 | .tas t z x=>match ev ρ x with
  | .v .nilIface=>V (.v (.tuple #[z,.bool false]))
  | .v (.iface w u)=>match Nat.beq w t with
   | true=>V (.v (.tuple #[u,.bool true]))
   | false=>V (.v (.tuple #[z,.bool false]))
  | _=>False
 | .eqA neg ks x y=>match ev ρ x,ev ρ y with
  | .v (.agg cs),.v (.agg ds)=>match ji ks cs.toList ds.toList true with
   | some b=>V (.v (.bool (tq neg b)))
   | none=>False
  | _,_=>False
 | .un op x=>match op,ev ρ x with
  | .not,.v (.bool b)=>V (.v (.bool (!b)))
  | .neg,.v (.int k n)=>Fit k (0-n) fun m=>V (.v (.int k m))
  | .xor,.v (.int k n)=>V (.v (.int k (k.wrap (BitVec.ofInt k.bits (if k.signed then -1 else k.max) ^^^ BitVec.ofInt k.bits n).toNat)))
  | _,_=>False
 | .conv k x=>match ev ρ x with
  | .v (.int _ n)=>Fit k n fun m=>V (.v (.int k m))
  | _=>False
 | .mkfn f d e=>V (.v (.func (.func f) (bn L ρ d).toArray (bn L ρ e).toArray))
 | .slc sz x lo hi=>match ev ρ x with
  | .v (.slice a n c)=>match nR ρ 0 lo,nR ρ n hi with
   | some l,some h=>QM l h c fun l h=>V (.v (su a c l h sz))
   | _,_=>False
  | _=>False
 | .fieldA off x=>match ev ρ x with
  | .own k o=>V (.own k (o+off))
  | .el a j=>V (.el a (j+off))
  | .v (.pointer (some a))=>V (.el (some a) off)
  | _=>False
 | .idxA sz x i=>match ev ρ x,ev ρ i with
  | .v (.slice a n _),.v (.int _ i)=>JM a i n (V (.el a (i.toNat*sz)))
  | _,_=>False
 | .extr x i=>match ev ρ x with
  | .v (.tuple q)=>match q.toList[i]? with
   | some v=>V (.v v)
   | none=>False
  | _=>False
 | .len x=>match ev ρ x with
  | .v (.slice _ n _)=>V (.v (.int .i64 n))
  | _=>False
 | .mm mx args=>match args.map (ev ρ) with
  | .v (.int k a)::l=>match QR mx a l with
   | some m=>V (.v (.int k m))
   | none=>False
  | _=>False
 | .loadD agg n x=>match ev ρ x with
  | .own k off=>match L.get k with
   | some (.box _ t cs)=>match jt t ((cs.drop off).take n) n with
    | true=>V (.v (iD agg ((cs.drop off).take n)))
    | false=>False
   | _=>False
  | .el a j=>jo F a j n fun cs=>V (.v (iD agg cs))
  | .v (.pointer (some a))=>jo F (some a) 0 n fun cs=>V (.v (iD agg cs))
  | _=>False
 | .gload g=>Uk F g fun v=>V (.v v)
 | .loadF agg n x=>match ev ρ x with
  | .el a j=>jo F a j n fun cs=>V (.v (iD agg cs))
  | .v (.pointer (some a))=>jo F (some a) 0 n fun cs=>V (.v (iD agg cs))
  | _=>False
 | .mkif t x=>match ev ρ x with
  | .v v=>V (.v (.iface t v))
  | .el (some s) j=>V (.v (.iface t (.pointer (some (s.add j)))))
  | _=>False
 | .mlook str ok z x i=>match ev ρ x with
  | .v (.map (some g))=>C8 L g fun _ cs=>Gy str cs (val L ρ i) ok z fun v=>V (.v v)
  | _=>False
 | .loadK key agg n x=>match ev ρ x with
  | .own k off=>match Nat.beq k key with
   | true=>match L.get k with
    | some (.box _ t cs)=>match jt t ((cs.drop off).take n) n with
     | true=>V (.v (iD agg ((cs.drop off).take n)))
     | false=>False
    | _=>False
   | false=>False
  | _=>False
 | _=>False
def evalOp (P:Program) (o:dZ) (d:Option Nat) (F:aA) (L:Loc) (ρ:Env) (K:dI):Prop :=
 match o with
 | .mov x=>aK (.mov x) F L ρ fun v=>K F L (put d v ρ)
 | .pick c a b=>aK (.pick c a b) F L ρ fun v=>K F L (put d v ρ)
 | .box t x=>match d with
  | some k=>match L.get k with
   | none=>∀g,K F (L.set k (.box g t (aM (val L ρ x)))) (put d (.own k 0) ρ)
   | some _=>False
  | none=>False
 | .boxF t x=>∀g F',F.le F'->F' g=some (.cells (aM (val L ρ x)).toArray t (0,0))->K F' L (put d (.v (.pointer (some ⟨g,0,none⟩))) ρ)
 | .alloc t zs=>match d with
  | some k=>match L.get k with
   | none=>∀g,K F (L.set k (.box g t zs)) (put d (.own k 0) ρ)
   | some _=>False
  | none=>False
 | .mkF e n sz xs=>match gC L ρ sz xs with
  | true=>∀g F',F.le F'->F' g=some (.cells (cellsOf L ρ xs).toArray e (0,0))->K F' L (put d (.v (.slice (some ⟨g,0,none⟩) n n)) ρ)
  | false=>False
 | .mkR e n sz xs=>match gC L ρ sz xs,d with
  | true,some k=>match L.get k with
   | none=>∀g,K F (L.set k (.row (.slice (some ⟨g,0,none⟩) n n) e sz n (cellsOf L ρ xs))) (put d (.v (.slice (some ⟨g,0,none⟩) n n)) ρ)
   | some _=>False
  | _,_=>False
 | .build zs ps=>aK (.build zs ps) F L ρ fun v=>K F L (put d v ρ)
 | .load agg n x=>aK (.load agg n x) F L ρ fun v=>K F L (put d v ρ)
 | .store n a x=>match iz (aM (val L ρ x)) n,kg (aM (val L ρ x)),ev ρ a with
  | true,true,.own k off=>match L.get k with
   | some (.box g t cs)=>match jt t ((cs.drop off).take n) n with
    | true=>K F (L.set k (.box g t (bV cs off (aM (val L ρ x))))) (put d (.v undef) ρ)
    | false=>False
   | _=>False
  | true,true,.el p j=>qW L p j (aM (val L ρ x)) fun L'=>K F L' (put d (.v undef) ρ)
  | true,true,.v (.pointer (some p))=>qW L (some p) 0 (aM (val L ρ x)) fun L'=>K F L' (put d (.v undef) ρ)
  | _,_,_=>False
 | .nilck x=>aK (.nilck x) F L ρ fun v=>K F L (put d v ρ)
 | .mkif t x=>aK (.mkif t x) F L ρ fun v=>K F L (put d v ρ)
 | .pan _=>False
 | .dead=>False
 | .bin op x y=>aK (.bin op x y) F L ρ fun v=>K F L (put d v ρ)
 | .eqB neg x y=>aK (.eqB neg x y) F L ρ fun v=>K F L (put d v ρ)
 | .eqS neg x y=>aK (.eqS neg x y) F L ρ fun v=>K F L (put d v ρ)
 | .eqN neg x=>aK (.eqN neg x) F L ρ fun v=>K F L (put d v ρ)
 | .tas t z x=>aK (.tas t z x) F L ρ fun v=>K F L (put d v ρ)
 | .eqA neg ks x y=>aK (.eqA neg ks x y) F L ρ fun v=>K F L (put d v ρ)
 | .un op x=>aK (.un op x) F L ρ fun v=>K F L (put d v ρ)
 | .conv k x=>aK (.conv k x) F L ρ fun v=>K F L (put d v ρ)
 | .mkfn f q r=>aK (.mkfn f q r) F L ρ fun v=>K F L (put d v ρ)
 | .makeS e sz bytes zs l c=>match ev ρ l,ev ρ c,d with
  | .v (.int _ n),.v (.int _ m),some k=>match L.get k with
   | none=>oQ n m bytes fun n=>∀g,K F (L.set k (.row (.slice (some ⟨g,0,none⟩) n m.toNat) e sz n (List.replicate n zs).flatten)) (put d (.v (.slice (some ⟨g,0,none⟩) n m.toNat)) ρ)
   | some _=>False
  | _,_,_=>False
 | .slc sz x lo hi=>aK (.slc sz x lo hi) F L ρ fun v=>K F L (put d v ρ)
 | .fieldA off x=>aK (.fieldA off x) F L ρ fun v=>K F L (put d v ρ)
 | .idxA sz x i=>aK (.idxA sz x i) F L ρ fun v=>K F L (put d v ρ)
 | .extr x i=>aK (.extr x i) F L ρ fun v=>K F L (put d v ρ)
 | .call f args=>d9 P f (bn L ρ args) F L fun F' L' v=>K F' L' (put d (.v v) ρ)
 | .callV f args=>match sn P (ev ρ f) with
  | some (f,q,r)=>d9 P f (q++bn L ρ args++r) F L fun F' L' v=>K F' L' (put d (.v v) ρ)
  | none=>match Av P (ev ρ f) (bn L ρ args) with
   | some (f,args)=>d9 P f args F L fun F' L' v=>K F' L' (put d (.v v) ρ)
   | none=>False
 | .gload g=>aK (.gload g) F L ρ fun v=>K F L (put d v ρ)
 | .mkmap=>match d with
  | some k=>match L.get k with
   | none=>∀g,K F (L.set k (.box g 0 [])) (put d (.v (.map (some g))) ρ)
   | some _=>False
  | none=>False
 | .mlook str ok z x i=>aK (.mlook str ok z x i) F L ρ fun v=>K F L (put d v ρ)
 | .mupd str x i v=>match ev ρ x with
  | .v (.map (some g))=>C8 L g fun k cs=>R3 str cs (val L ρ i) (val L ρ v) fun cs'=>K F (L.set k (.box g 0 cs')) (put d (.v undef) ρ)
  | _=>False
 | .mrange x=>match ev ρ x,d with
  | .v (.map (some g)),some k=>match L.get k with
   | none=>C8 L g fun _ cs=>∀w,K F (L.set k (.box w 0 [.tuple #[.map (some g),.int .i64 cs.length]])) (put d (.own k 0) ρ)
   | some _=>False
  | _,_=>False
 | .mnext x=>match ev ρ x with
  | .own k 0=>match L.get k with
   | some (.box w 0 (.tuple ⟨[.map (some g),.int .i64 (.ofNat n)]⟩::h))=>JN L k w g n h fun L' v=>K F L' (put d (.v v) ρ)
   | _=>False
  | _=>False
 | .mentry x=>match ev ρ x with
  | .own k 0=>match L.get k with
   | some (.box w 0 (.tuple ⟨[.map (some g),.int .i64 (.ofNat n)]⟩::h))=>Gz L g n h fun v=>K F L (put d (.v v) ρ)
   | _=>False
  | _=>False
 | .len x=>aK (.len x) F L ρ fun v=>K F L (put d v ρ)
 | .mm mx args=>aK (.mm mx args) F L ρ fun v=>K F L (put d v ρ)
 | .app e sz bytes _ s x=>match ev ρ s,ev ρ x with
  | .v sv,.v u=>Gx F L e sz bytes sv u fun L1 v=>K F L1 (put d (.v v) ρ)
  | _,_=>False
 | .appX e sz bytes _ s x=>match ev ρ s,ev ρ x with
  | .v sv,.v u=>Gx F L e sz bytes sv u fun L1 v=>Real F L1->K F L1 (put d (.v v) ρ)
  | _,_=>False
 | .appD e sz bytes _ s x=>match ev ρ s,ev ρ x with
  | .v sv,.v u=>qh F L d e sz bytes sv u fun L1 v=>K F L1 (put d (.v v) ρ)
  | _,_=>False
 | .storeD n a x=>match iz (aM (val L ρ x)) n,kg (aM (val L ρ x)),ev ρ a with
  | true,true,.own k off=>match L.get k with
   | some (.box g t cs)=>match jt t ((cs.drop off).take n) n with
    | true=>K F (L.set k (.box g t (bV cs off (aM (val L ρ x))))) (put d (.v undef) ρ)
    | false=>False
   | _=>False
  | _,_,_=>False
 | .storeK key n a x=>match iz (aM (val L ρ x)) n,kg (aM (val L ρ x)),ev ρ a with
  | true,true,.own k off=>match Nat.beq k key with
   | true=>match L.get k with
    | some (.box g t cs)=>match jt t ((cs.drop off).take n) n with
     | true=>K F (L.set k (.box g t (bV cs off (aM (val L ρ x))))) (put d (.v undef) ρ)
     | false=>False
    | _=>False
   | false=>False
  | _,_,_=>False
 | .loadD agg n x=>aK (.loadD agg n x) F L ρ fun v=>K F L (put d v ρ)
 | .loadF agg n x=>aK (.loadF agg n x) F L ρ fun v=>K F L (put d v ρ)
 | .loadR agg n x=>aK (.loadR agg n x) F L ρ fun v=>K F L (put d v ρ)
 | .loadK key agg n x=>aK (.loadK key agg n x) F L ρ fun v=>K F L (put d v ρ)
 | .makeSD e sz n zs=>match d with
  | some k=>match L.get k,iz zs sz,Nat.ble n 9223372036854775807 with
   | none,true,true=>∀g,Real F (L.set k (.row (.slice (some ⟨g,0,none⟩) n n) e sz n (List.replicate n zs).flatten))->K F (L.set k (.row (.slice (some ⟨g,0,none⟩) n n) e sz n (List.replicate n zs).flatten)) (put d (.v (.slice (some ⟨g,0,none⟩) n n)) ρ)
   | _,_,_=>False
  | none=>False
 | .makeSV e sz b zs x=>match d with
  | some k=>match L.get k,iz zs sz,tu b (val L ρ x) with
   | none,true,true=>∀g,Real F (L.set k (.row (.slice (some ⟨g,0,none⟩) (mq (val L ρ x)) (mq (val L ρ x))) e sz (mq (val L ρ x)) (List.replicate (mq (val L ρ x)) zs).flatten))->K F (L.set k (.row (.slice (some ⟨g,0,none⟩) (mq (val L ρ x)) (mq (val L ρ x))) e sz (mq (val L ρ x)) (List.replicate (mq (val L ρ x)) zs).flatten)) (put d (.v (.slice (some ⟨g,0,none⟩) (mq (val L ρ x)) (mq (val L ρ x)))) ρ)
   | _,_,_=>False
  | none=>False
 | .storeX n a x=>match iz (aM (val L ρ x)) n,kg (aM (val L ρ x)),ev ρ a with
  | true,true,.own k off=>match L.get k with
   | some (.box g t cs)=>match jt t ((cs.drop off).take n) n with
    | true=>Real F (L.set k (.box g t (bV cs off (aM (val L ρ x)))))->K F (L.set k (.box g t (bV cs off (aM (val L ρ x))))) (put d (.v undef) ρ)
    | false=>False
   | _=>False
  | true,true,.el p j=>qW L p j (aM (val L ρ x)) fun L'=>Real F L'->K F L' (put d (.v undef) ρ)
  | true,true,.v (.pointer (some p))=>qW L (some p) 0 (aM (val L ρ x)) fun L'=>Real F L'->K F L' (put d (.v undef) ρ)
  | _,_,_=>False
 | .boxD t x=>match d with
  | some k=>match L.get k with
   | none=>∀g,Real F (L.set k (.box g t (aM (val L ρ x))))->K F (L.set k (.box g t (aM (val L ρ x)))) (put d (.own k 0) ρ)
   | some _=>False
  | none=>False
 | .allocD t zs=>match d with
  | some k=>match L.get k with
   | none=>∀g,Real F (L.set k (.box g t zs))->K F (L.set k (.box g t zs)) (put d (.own k 0) ρ)
   | some _=>False
  | none=>False
 | .mkFD e n sz xs=>match gC L ρ sz xs with
  | true=>∀g F',F.le F'->F' g=some (.cells (cellsOf L ρ xs).toArray e (0,0))->Real F' L->K F' L (put d (.v (.slice (some ⟨g,0,none⟩) n n)) ρ)
  | false=>False
 | .callD f args=>dQ P f (bn L ρ args) F L d fun F' L' v=>K F' L' (put d (.v v) ρ)
 | .callVD f args=>match sn P (ev ρ f) with
  | some (f,q,r)=>dQ P f (q++bn L ρ args++r) F L d fun F' L' v=>K F' L' (put d (.v v) ρ)
  | none=>False
 | .callO f args=>d9 P f (bn L ρ args) F L fun F' L' v=>Real F' L'->K F' L' (put d (.v v) ρ)
 | .callVO f args=>match sn P (ev ρ f) with
  | some (f,q,r)=>d9 P f (q++bn L ρ args++r) F L fun F' L' v=>Real F' L'->K F' L' (put d (.v v) ρ)
  | none=>False
def R4 (F:aA) (v:Value) (sz n:Nat) (xs:List Value):Prop :=
 (v=.slice none 0 0/\n=0/\xs=[])\/∃a c,v=.slice (some a) n c/\dO F (some a) 0 xs/\n<=c
structure QS (F:aA) (L:Loc) (k:Nat) (K:aA->Loc->Prop):Prop where
 out:∃v t sz n xs,L.get k=some (.row v t sz n xs)/\∀F',F.le F'->R4 F' v sz n xs->K F' (L.del k)
inductive ak where
 | op (dst:Option Nat) (o:dZ) (guard:Option (Nat×Bool))
 | frz (k:Nat)
 | pc (dst:Option Nat) (o:dZ) (guard:Option (Nat×Bool))
 deriving Inhabited
def xK (k g:Nat) (ρ:Env):Env:=fun j=>match ρ j with
 | .own b off=>match Nat.beq b k with | true=>.v (.pointer (some ⟨g,off,none⟩)) | false=>.own b off
 | .v x=>.v x
 | .el a i=>.el a i
def aS (P:Program):List ak->aA->Loc->Env->dI->Prop
 | [],F,L,ρ,K=>K F L ρ
 | .op d o none::a,F,L,ρ,K=>evalOp P o d F L ρ fun F' L' ρ'=>aS P a F' L' ρ' K
 | .op d o (some (s,c))::a,F,L,ρ,K=>match ρ s with
  | .v (.bool b)=>zW b
    (match c with
     | true=>evalOp P o d F L (put (some s) (.v (.bool true)) ρ) fun F' L' ρ'=>aS P a F' L' ρ' K
     | false=>aS P a F L (put d (.v undef) (put (some s) (.v (.bool true)) ρ)) K)
    (match c with
     | false=>evalOp P o d F L (put (some s) (.v (.bool false)) ρ) fun F' L' ρ'=>aS P a F' L' ρ' K
     | true=>aS P a F L (put d (.v undef) (put (some s) (.v (.bool false)) ρ)) K)
  | .v (.tuple _)=>aS P a F L (put d (.v undef) ρ) K
  | _=>False
 | .frz k::a,F,L,ρ,K=>match L.get k with
  | some (.box g t cs)=>∀F',F.le F'->F' g=some (nG t cs)->aS P a F' (L.del k) (xK k g ρ) K
  | _=>QS F L k fun F' L'=>aS P a F' L' ρ K
 | .pc _ _ _::_,_,_,_,_=>False
inductive au where
 | skip
 | reg (ops:List ak)
 | regD (ops:List ak)
 | regX (ops:List ak)
 | seq (a b:au)
 | cond (c:X) (a b:au)
 | block (id:Nat) (c:au)
 | loop (asg:List Nat) (c:au)
 | exit (id:Nat)
 | ret
 deriving Inhabited
def fM:List Nat->Nat->Bool
 | [],_=>false
 | j::l,k=>match Nat.beq j k with | true=>true | false=>fM l k
def Loc.keeps:Loc->Loc->Prop
 | [],_=>True
 | (k,.box g t _)::l,L'=>(∃cs,L'.get k=some (.box g t cs))/\Loc.keeps l L'
 | (_,.row ..)::l,L'=>Loc.keeps l L'
structure JP (F:aA) (L:Loc) (v:Value) (R:aA->List Own->Value->Prop):Prop where
 out:∃ko Lo,L.sub ko=some Lo/\ko.Nodup/\R F Lo v
abbrev RV:=Nat×Option (Bool×Nat)
def nS (L:Loc) (ρ:Env):List RV->(List Value->Prop)->Prop
 | [],K=>K []
 | (t,none)::l,K=>nS L ρ l fun a=>K (conc L (ρ t)::a)
 | (t,some (agg,n))::l,K=>match ρ t with
  | .own k off=>match L.get k with
   | some (.box _ ty cs)=>match jt ty ((cs.drop off).take n) n with
    | true=>nS L ρ l fun a=>K (iD agg ((cs.drop off).take n)::a)
    | false=>False
   | _=>False
  | _=>False
def gD:List Value->Value
 | [v]=>v
 | l=>.tuple l.toArray
def Da:Nat->List SV->Env
 | _,[]=>fun _=>.v undef
 | k,v::l=>put (some k) v (Da (k+1) l)
def Loc.gives (L:Loc):Loc->Prop
 | []=>True
 | (k,o)::l=>(L.get k=some o\/(L.get k=none/\∃t sz,o=.row (.slice none 0 0) t sz 0 []))/\Loc.gives L l
def qj (asg:List Nat) (a:Nat->Value) (ρ:Env):Env:=fun j=>match fM asg j with | true=>.v (a j) | false=>ρ j
def puts:List Nat->List SV->Env->Env
 | k::ks,v::a,ρ=>put (some k) v (puts ks a ρ)
 | _,_,ρ=>ρ
def holds:List Nat->List SV->Env->Prop
 | k::ks,v::a,ρ=>ρ k=v/\holds ks a ρ
 | _,_,_=>True
structure JQ (body:aA->Loc->Env->dI->Prop) (asg:List Nat) (F:aA) (L:Loc) (ρ:Env):Prop where
 out:∃(σ:Type) (x0:σ) (Inv:σ->aA->Prop) (ls:List Nat) (lv:σ->List Value) (Lf:σ->Loc) (μ:σ->Nat),
  Inv x0 F/\holds ls ((lv x0).map .v) ρ/\L.gives (Lf x0)/\(∀x,L.keeps (Lf x)) /\
  ∀x F' jk,F.le F'->Inv x F'->body F' (Lf x) (puts ls ((lv x).map .v) (qj asg jk ρ)) fun F'' L'' ρ'' =>
   ∃x',Inv x' F''/\holds ls ((lv x').map .v) ρ''/\L''.gives (Lf x')/\μ x'<μ x
def jz (P:Program):au->(Nat->dI)->dI->dI->dI
 | .skip,_,_,N,F,L,ρ=>N F L ρ
 | .reg d,_,_,N,F,L,ρ=>aS P d F L ρ N
 | .regD d,_,_,N,F,L,ρ=>aS P d F L ρ N
 | .regX _,_,_,_,_,_,_=>False
 | .seq a b,E,R,N,F,L,ρ=>jz P a E R (fun F L ρ=>jz P b E R N F L ρ) F L ρ
 | .cond c a b,E,R,N,F,L,ρ=>match ev ρ c with
  | .v (.bool t)=>zW t (jz P a E R N F L ρ) (jz P b E R N F L ρ)
  | _=>False
 | .block id c,E,R,N,F,L,ρ=>jz P c (fun j=>match Nat.beq j id with | true=>N | false=>E j) R N F L ρ
 | .loop asg c,E,R,_,F,L,ρ=>JQ (fun F L ρ K=>jz P c E R K F L ρ) asg F L ρ
 | .exit id,E,_,_,F,L,ρ=>E id F L ρ
 | .ret,_,R,_,F,L,ρ=>R F L ρ
theorem gK {a b:Nat}(h:Nat.beq a b=false):a≠b:=by intro e;subst e;simp at h
theorem Loc.aac (L:Loc) (k:Nat) (o:Own) (j:Nat):(L.set k o).get j=if j=k then some o else L.get j:=by
 induction L with
 | nil =>
  simp only[Loc.set,Loc.get];cases h:Nat.beq k j with
  | true=>have:=aaR h;simp[this]
  | false=>have:=gK h;simp;omega
 | cons p l a =>
  obtain⟨i,q⟩:=p;simp only[Loc.set];cases h:Nat.beq i k with
  | true =>
   have e:=aaR h;subst e;simp only[Loc.get];cases h2:Nat.beq i j with
   | true=>have:=aaR h2;simp[this]
   | false=>have:=gK h2;simp;omega
  | false =>
   have b:=gK h;simp only[];cases h3:Nat.ble i k with
   | true =>
    simp only[Loc.get];cases h2:Nat.beq i j with
    | true=>have:=aaR h2;simp;omega
    | false=>simpa using a
   | false =>
    simp only[Loc.get];cases h2:Nat.beq k j with
    | true=>have:=aaR h2;simp[this]
    | false =>
     have:=gK h2;simp only[];rw[o5 (by omega)]
theorem Loc.aah (L:Loc) (k j:Nat):(L.del k).get j=if j=k then none else L.get j:=by
 induction L with
 | nil=>simp[Loc.del,Loc.get]
 | cons p l b =>
  obtain⟨i,q⟩:=p;simp only[Loc.del];cases h:Nat.beq i k with
  | true =>
   have e:=aaR h;subst e;simp only[Loc.get,b]
   by_cases a:j=i
   ·simp[a]
   ·have:Nat.beq i j=false:=by cases h2:Nat.beq i j with | true=>exact vv (aaR h2).symm a | false=>rfl
    simp[a,this]
  | false =>
   have c:=gK h;simp only[Loc.get];cases h2:Nat.beq i j with
   | true=>have:=aaR h2;simp;omega
   | false=>simpa using b
def Loc.part (L L':Loc):Prop:=∀k o,L'.get k=some o->L.get k=some o
theorem St.part {F:aA}{L L':Loc}{w:World}(h:St F L w) (a:L.part L'):St F L' w :=
 ⟨h.frz,fun k o e=>h.own k o (a k o e),fun k o g e=>h.off k o g (a k o e),fun k b o o' g e c=>h.sep k b o o' g (a k o e) (a b o' c),h.glob⟩
theorem Own.aar {w:World}{o:Own}(h:o.ok w) {g:Nat}(a:o.blk=some g):g<w.heap.size:=by
 cases o with
 | box b t cs =>
  simp only[Own.blk,aaO] at a;subst a;exact(Array.getElem?_eq_some_iff.1 h).1
 | row v t sz n xs=>exact(World.ownsRow.lt h g a).2
theorem Own.aau {w w':World}{o:Own}(h:o.ok w) (b:∀g,o.blk=some g->w'.heap[g]?=w.heap[g]?):o.ok w':=by
 cases o with
 | box g t cs=>exact(b g rfl).trans h
 | row v t sz n xs =>
  obtain⟨h1,h2⟩:=h;refine⟨h1,?_⟩;rcases h2 with h2 | ⟨g,cap,a,rfl,hb,c,r⟩
  ·exact .inl h2
  ·exact .inr ⟨g,cap,a,rfl,hb,(b g rfl).trans c,r⟩
theorem St.aay {F:aA}{L:Loc}{w:World}(h:St F L w) {b:Nat}(hb:F b≠none):b<w.heap.size:=by
 cases e:F b with
 | none=>exact vv e hb
 | some o=>exact(Array.getElem?_eq_some_iff.1 (h.frz b o e)).1
theorem St.aaB {F:aA}{L:Loc}{w:World}(h:St F L w) {b:Nat}(hb:L.owns b):b<w.heap.size:=by
 obtain⟨k,o,e,a⟩:=hb;exact Own.aar (h.own k o e) a
theorem St.keep {F:aA}{L:Loc}{w w':World}(h:St F L w) (a:∀b,b<w.heap.size->w'.heap[b]?=w.heap[b]?):St F L w':=by
 refine⟨fun b o e=>?_,fun k o e=>?_,h.off,h.sep,h.glob⟩
 ·have:=h.frz b o e;rw[a b (Array.getElem?_eq_some_iff.1 this).1];exact this
 ·exact Own.aau (h.own k o e) fun g c=>a g (Own.aar (h.own k o e) c)
theorem St.drew {F:aA}{L:Loc}{w:World}(h:St F L w):St F L w.drew:=h.keep fun _ _=>rfl
theorem St.put {F:aA}{L:Loc}{w:World}(h:St F L w) {k:Nat}{o:Own}(v:L.get k=none) (u:o.ok w)
  (hf:∀g,o.blk=some g->F g=none/\¬L.owns g):St F (L.set k o) w:=by
 have a:∀j p,(L.set k o).get j=some p->(j=k/\p=o)\/(j≠k/\L.get j=some p):=by
  intro j p e;rw[Loc.aac] at e;split at e
  ·rename_i d;exact .inl ⟨d,by injection e with e;exact e.symm⟩
  ·rename_i d;exact .inr ⟨d,e⟩
 refine⟨h.frz,fun j p e=>?_,fun j p g e c=>?_,fun j m p n g e t c b=>?_,h.glob⟩
 ·rcases a j p e with⟨_,rfl⟩ | ⟨_,e⟩
  ·exact u
  ·exact h.own j p e
 ·rcases a j p e with⟨_,rfl⟩ | ⟨_,e⟩
  ·exact(hf g c).1
  ·exact h.off j p g e c
 ·rcases a j p e with⟨d,s⟩ | ⟨_,q⟩<;>rcases a m n t with⟨l,f⟩ | ⟨_,r⟩
  ·exact d.trans l.symm
  ·subst s;exact vv ⟨m,n,r,b⟩ (hf g c).2
  ·subst f;exact vv ⟨j,p,q,c⟩ (hf g b).2
  ·exact h.sep j m p n g q r c b
theorem St.turn {F:aA}{L:Loc}{w w':World}(h:St F L w) {k:Nat}{o o':Own}(n:L.get k=some o) (ho:o'.ok w')
  (x:∀b,b<w.heap.size->o.blk≠some b->w'.heap[b]?=w.heap[b]?) (hb:∀g,o'.blk=some g->o.blk=some g\/w.heap.size<=g):St F (L.set k o') w':=by
 have c:∀j p,(L.set k o').get j=some p->(j=k/\p=o')\/(j≠k/\L.get j=some p):=by
  intro j p e;rw[Loc.aac] at e;split at e
  ·rename_i f;exact .inl ⟨f,by injection e with e;exact e.symm⟩
  ·rename_i f;exact .inr ⟨f,e⟩
 refine⟨fun b p e=>?_,fun j p e=>?_,fun j p g e d=>?_,fun j q p r g e z d l=>?_,h.glob⟩
 ·have:=h.frz b p e;rw[x b (Array.getElem?_eq_some_iff.1 this).1 (fun hb=>by have:=h.off k o b n hb;rw[this] at e;cases e)];exact this
 ·rcases c j p e with⟨_,rfl⟩ | ⟨f,e⟩
  ·exact ho
  ·exact Own.aau (h.own j p e) fun g d=>x g (Own.aar (h.own j p e) d) fun a=>f (h.sep j k p o g e n d a)
 ·rcases c j p e with⟨_,rfl⟩ | ⟨_,e⟩
  ·rcases hb g d with a | v
   ·exact h.off k o g n a
   ·cases hF:F g with
    | none=>rfl
    | some _=>have:=h.aay (b:=g) (by rw[hF];simp);omega
  ·exact h.off j p g e d
 ·rcases c j p e with⟨f,y⟩ | ⟨f,t⟩<;>rcases c q r z with⟨m,s⟩ | ⟨m,u⟩
  ·exact f.trans m.symm
  ·subst y;rcases hb g d with a | v
   ·exact vv (h.sep q k r o g u n l a) m
   ·have:=Own.aar (h.own q r u) l;omega
  ·subst s;rcases hb g l with a | v
   ·exact vv (h.sep j k p o g t n d a) f
   ·have:=Own.aar (h.own j p t) d;omega
  ·exact h.sep j q p r g t u d l
theorem St.freeze {F:aA}{L:Loc}{w:World}(h:St F L w) {g:Nat}{o:Obj}(c:w.heap[g]?=some o) (d:¬L.owns g) :
  St (fun b=>if b=g then some o else F b) L w:=by
 refine⟨fun b p e=>?_,h.own,fun k p b e hb=>?_,h.sep,s6.mono ?_ h.glob⟩
 ·split at e
  ·rename_i a;subst a;injection e with e;subst e;exact c
  ·exact h.frz b p e
 ·split
  ·rename_i a;subst a;exact vv ⟨k,p,e,hb⟩ d
  ·exact h.off k p b e hb
 ·intro b p e;simp only[];split
  ·rename_i a;subst a;rw[<-h.frz b p e,c]
  ·exact e
theorem aA.aav {F:aA}{w:World}{L:Loc}(h:St F L w) {g:Nat}{o:Obj}(c:w.heap[g]?=some o):F.le (fun b=>if b=g then some o else F b):=by
 intro b p e;simp only[];split
 ·rename_i a;subst a;rw[<-h.frz b p e,c]
 ·exact e
theorem Step.refl (F:aA) (L:Loc) (w:World):Step F L w F L w :=
 ⟨aA.le_refl F,rfl,rfl,rfl,aa2 _,fun _ _ _=>rfl,fun _ h=>.inl h,fun _ h=>.inl h⟩
theorem Step.trans {F F' F'':aA}{L L' L'':Loc}{w w' a:World}(h:Step F L w F' L' w') (k:Step F' L' w' F'' L'' a):Step F L w F'' L'' a:=by
 refine⟨aA.le_trans h.le k.le,k.os.trans h.os,k.tape.trans h.tape,k.output.trans h.output,abw h.size k.size,fun b hb d=>?_,fun b hb=>?_,fun b hb=>?_⟩
 ·rw[k.same b (Nat.lt_of_lt_of_le hb h.size) (fun c=>by rcases h.own b c with c | c;exact d c;omega)];exact h.same b hb d
 ·rcases k.frz b hb with h1 | h1 | h1
  ·exact h.frz b h1
  ·exact .inr (h.own b h1)
  ·exact .inr (.inr (abw h.size h1))
 ·rcases k.own b hb with h1 | h1
  ·exact h.own b h1
  ·exact .inr (abw h.size h1)
theorem Step.mk' {F F':aA}{L L':Loc}{w w':World}(le:F.le F') (a:w.grownBy w' none) (frz:∀b,F' b≠none->F b≠none\/L.owns b\/w.heap.size<=b)
  (own:∀b,L'.owns b->L.owns b\/w.heap.size<=b):Step F L w F' L' w' :=
 ⟨le,a.os,a.tape,a.output,a.size,fun b hb _=>a.block b hb (by simp),frz,own⟩
theorem Loc.aan {L:Loc}{k:Nat}{o:Own}{b:Nat}(h:(L.set k o).owns b):o.blk=some b\/L.owns b:=by
 obtain⟨j,p,e,hb⟩:=h;rw[Loc.aac] at e;split at e
 ·injection e with e;subst e;exact .inl hb
 ·exact .inr ⟨j,p,e,hb⟩
theorem Loc.aaw {L:Loc}{k b:Nat}(h:(L.del k).owns b):L.owns b:=by
 obtain⟨j,p,e,hb⟩:=h;rw[Loc.aah] at e;split at e
 ·cases e
 ·exact⟨j,p,e,hb⟩
theorem Loc.aaA (L:Loc) (k:Nat):L.part (L.del k):=by
 intro j o e;rw[Loc.aah] at e;split at e
 ·cases e
 ·exact e
theorem dO.mono {F G:aA}(h:F.le G) {a:Option Addr}{j:Nat}{cs:List Value}(c:dO F a j cs):dO G a j cs:=by
 obtain⟨l,b,t,fr,e,d,k,f⟩:=c;exact⟨l,b,t,fr,e,h _ _ d,k,f⟩
theorem dw {b o n:Nat}:(⟨b,o,none⟩:Addr).add n=⟨b,o+n,none⟩:=by
 unfold Addr.add;split<;>simp_all
theorem dO.cell {F:aA}{L:Loc}{w:World}(h:St F L w) {a:Option Addr}{j:Nat}{cs:List Value}(c:dO F a j cs) :
  ∃d,a=some d/\d.spot=none/\∀i v,cs[i]?=some v->w.cell? (d.add (j+i))=some v:=by
 obtain⟨d,n,t,fr,e,k,f,l⟩:=c;refine⟨d,e,f,fun i v m=>?_⟩;obtain⟨b,o,p⟩:=d;simp only at f;subst f;rw[dw];have:=h.frz b _ k;simp only[World.cell?,this];simpa[Nat.add_assoc] using l i v m
def bM:Operand->Option X
 | .tmp t=>some (.t t)
 | .const v=>some (.c v)
 | .func f=>some (.fn f)
 | .global _=>none
def gL:List Operand->Option (List X)
 | []=>some []
 | o::l=>match bM o,gL l with
  | some x,some xs=>some (x::xs)
  | _,_=>none
def tw:Option Operand->Option (Option X)
 | none=>some none
 | some o=>match bM o with | some x=>some (some x) | none=>none
def fj:TypeDesc->Bool
 | .struct _ | .array _ _=>true
 | _=>false
def Uc (i:TypeInfo):Option (List Value):=match i.zero with | some z=>some z.cells.toList | none=>none
def nT (P:Program) (b:Array Field):List (Nat×Operand)->Option (List (Nat×Nat×X))
 | []=>some []
 | (i,o)::l=>match b[i]?,bM o,nT P b l with
  | some f,some x,some ps=>match P.info? f.type with
   | some j=>some ((f.offset,j.size,x)::ps)
   | none=>none
  | _,_,_=>none
def Aw:Operand->Option dZ
 | .global g=>match wQ g with | some _=>some (.gload g) | none=>none
 | _=>none
def oS (P:Program):List Field->Nat->Option (List Bool)
 | [],_=>some []
 | f::fs,k=>match Nat.beq f.offset k,decide (f.name="_"),P.underlying f.type with
  | true,false,some (.int _)=>match oS P fs (k+1) with | some ks=>some (true::ks) | none=>none
  | true,false,some .bool=>match oS P fs (k+1) with | some ks=>some (false::ks) | none=>none
  | _,_,_=>none
def xL:X->Bool
 | .c .nilIface=>true
 | _=>false
def iE (P:Program) (own:Bool) (o:Op):Option dZ :=
 match o with
 | .move x | .assign x=>match bM x with | some x=>some (.mov x) | none=>none
 | .pick c a b=>match bM c,bM a,bM b with | some c,some a,some b=>some (.pick c a b) | _,_,_=>none
 | .box t x=>match bM x,decide (t=0) with | some x,false=>some (match own with | true=>.boxF t x | false=>.box t x) | _,_=>none
 | .alloc t=>match P.info? t,decide (t=0) with
  | some i,false=>match Uc i with | some z=>some (.alloc t z) | none=>none
  | _,_=>none
 | .buildSlice t n ps=>match P.underlying t,gL (ps.toList.map (·.2)) with
  | some (.slice e),some xs=>match P.info? e with
   | some i=>match decide (ps.toList.map (·.1)=List.range n),decide (n*i.size<=2 ^ 24/\n<=2 ^ 24),i.zero with
    | true,true,some _=>some (match own with | true=>.mkR e n i.size xs | false=>.mkF e n i.size xs)
    | _,_,_=>none
   | none=>none
  | _,_=>none
 | .build t ps=>match P.underlying t,P.info? t with
  | some (.struct fs),some i=>match Uc i,nT P fs ps.toList with
   | some z,some l=>match fs.toList.all (fun f=>(P.info? f.type).isSome),l.all (fun p=>Nat.ble (p.1+p.2.1) z.length) with
    | true,true=>some (.build z l)
    | _,_=>none
   | _,_=>none
  | _,_=>none
 | .lookup t x i ok=>match MX with
  | true=>none
  | false=>match P.underlying t,bM x,bM i with
   | some (.map key e),some x,some i=>match P.underlying key,P.info? e with
    | some (.int .i64),some j=>match j.zero with
     | some z=>some (.mlook false ok z x i)
     | none=>none
    | some .string,some j=>match j.zero with
     | some z=>some (.mlook true ok z x i)
     | none=>none
    | _,_=>none
   | _,_,_=>none
 | .makeMap _ none=>some .mkmap
 | .mapUpdate t x i v | .insert t x i v=>match P.underlying t,bM x,bM i,bM v with
  | some (.map key _),some x,some i,some v=>match P.underlying key with
   | some (.int .i64)=>some (.mupd false x i v)
   | some .string=>some (.mupd true x i v)
   | _=>none
  | _,_,_,_=>none
 | .range t x=>match P.underlying t,bM x with
  | some (.map _ _),some x=>some (.mrange x)
  | _,_=>none
 | .next x false=>match bM x with | some x=>some (.mnext x) | none=>none
 | .entry x=>match bM x with | some x=>some (.mentry x) | none=>none
 | .load t a=>match P.underlying t,P.info? t,bM a with
  | some d,some i,some x=>some (match fj d with | true=>.load true i.size x | false=>.load false 1 x)
  | some (.map _ _),some _,none=>Aw a
  | some (.interface _),some _,none=>match Aw a with | some s=>some s | none=>some .dead
  | some _,some _,none=>some .dead
  | _,_,_=>none
 | .store t a x=>match P.info? t,bM a,bM x with
  | some i,some a,some x=>match decide (i.size=0) with | true=>none | false=>some (.store i.size a x)
  | _,_,_=>none
 | .nilCheck x=>match bM x,QL P with | some x,true=>some (.nilck x) | _,_=>none
 | .binOp op t x y _=>match P.underlying t,bM x,bM y with
  | some d,some x,some y=>match d,op with
   | .bool,.eql=>some (.eqB false x y)
   | .bool,.neq=>some (.eqB true x y)
   | .slice _,.eql=>some (.eqS false x y)
   | .slice _,.neq=>some (.eqS true x y)
   | .interface _,.eql=>match xL y with | true=>some (.eqN false x) | false=>none
   | .interface _,.neq=>match xL y with | true=>some (.eqN true x) | false=>none
   | .struct fs,.eql=>match oS P fs.toList 0,P.stoodInHeld t,P.eqGuardType P.depth t with | some ks,false,false=>some (.eqA false ks x y) | _,_,_=>none
   | .struct fs,.neq=>match oS P fs.toList 0,P.stoodInHeld t,P.eqGuardType P.depth t with | some ks,false,false=>some (.eqA true ks x y) | _,_,_=>none
   | .int _,_ | .string,_=>some (.bin op x y)
   | _,_=>none
  | _,_,_=>none
 | .unOp op _ x=>match bM x with | some x=>some (.un op x) | none=>none
 | .convert s t x=>match P.underlying s,P.underlying t,bM x with
  | some (.int _),some (.int k),some x=>some (.conv k x)
  | _,_,_=>none
 | .makeFunc (.func f) fi ca=>match gL fi.toList,gL ca.toList with
  | some fi,some ca=>some (.mkfn f fi ca)
  | _,_=>none
 | .makeFunc (.methodOf t nm) fi ca=>match fi.toList,ca.toList with
  | [],[]=>some (.mov (.c (.func (.methodOf t nm) #[] #[])))
  | _,_=>none
 | .makeSlice t l c=>match P.underlying t,bM l,bM c with
  | some (.slice e),some l,some c=>match P.info? e with
   | some i=>match i.zero with
    | some z=>match decide (z.cells.size=i.size),decide (0<i.size) with
     | true,true=>some (.makeS e i.size i.bytes z.cells.toList l c)
     | _,_=>none
    | none=>none
   | none=>none
  | _,_,_=>none
 | .slice t x lo hi none=>match P.underlying t,bM x,tw lo,tw hi with
  | some (.slice e),some x,some lo,some hi=>match P.info? e with
   | some i=>some (.slc i.size x lo hi)
   | none=>none
  | _,_,_,_=>none
 | .fieldAddr t x f=>match P.underlying t,bM x with
  | some (.struct fs),some x=>match fs[f]? with
   | some f=>match P.info? f.type with
    | some i=>match decide (i.size=0) with | true=>none | false=>some (.fieldA f.offset x)
    | none=>none
   | none=>none
  | _,_=>none
 | .indexAddr t x i=>match P.underlying t,bM x,bM i with
  | some (.slice e),some x,some i=>match P.info? e with
   | some j=>some (.idxA j.size x i)
   | none=>none
  | _,_,_=>none
 | .makeInterface t x=>match P.underlying t,bM x with
  | some (.interface _),_=>none
  | some _,some x=>some (.mkif t x)
  | _,_=>none
 | .typeAssert x _ t true=>match P.underlying t,P.info? t,bM x with
  | some (.interface _),_,_=>none
  | some _,some i,some x=>match i.zero with | some z=>some (.tas t z x) | none=>none
  | _,_,_=>none
 | .panic x=>match bM x with | some x=>some (.pan x) | none=>none
 | .extract x i=>match bM x with | some x=>some (.extr x i) | none=>none
 | .call c=>match gL c.args.toList with
  | none=>none
  | some args=>match c.callee with
   | .value (.func f)=>match P.funcs[f]? with
    | some fn=>match fn.name == "runtime.NumGoroutine",fn.body.isSome with
     | false,true=>some (.call f args)
     | _,_=>none
    | none=>none
   | .value f=>match bM f with | some x=>some (.callV x args) | none=>none
   | .invoke (.tmp n) nm=>some (.callV (.mt nm n) args)
   | .invoke _ _=>none
   | .builtin b=>match b,args,c.argTypes.toList with
    | .len,[x],[t]=>match P.underlying t with
     | some (.slice _)=>some (.len x)
     | _=>none
    | .max,args,_=>some (.mm true args)
    | .min,args,_=>some (.mm false args)
    | .append,[s,x],[t,t']=>match P.underlying t,P.underlying t' with
     | some (.slice e),some (.slice _)=>match P.info? e with
      | some i=>match i.zero with
       | some z=>match decide (t=t'),decide (z.cells.size=i.size),decide (0<i.size) with
        | true,true,true=>some (.app e i.size i.bytes z.cells.toList s x)
        | _,_,_=>none
       | none=>none
      | none=>none
     | _,_=>none
    | _,_,_=>none
 | _=>none
structure aC (L:Loc) (ρ:Env) (a:Act):Prop where
 eq:∀t,a.tmps.getD t undef=conc L (ρ t)
 own:∀t k off,ρ t=.own k off->∃g ty cs,L.get k=some (.box g ty cs)
 el:∀t ad j,ρ t=.el ad j->ad≠none
theorem aH {y:Operand}{x:X}(h:bM y=some x) {L:Loc}{ρ:Env}{a:Act}(he:aC L ρ a):a.eval y=val L ρ x:=by
 cases y<;>simp only[bM,aaO,reduceCtorEq] at h<;>subst h
 ·exact he.eq _
 ·rfl
 ·rfl
theorem qk {y:Operand}{x:X}(h:bM y=some x) {L:Loc}{ρ:Env}{a:Act}(he:aC L ρ a) {k off:Nat}(e:ev ρ x=.own k off):∃g ty cs,L.get k=some (.box g ty cs):=by
 cases y<;>simp only[bM,aaO,reduceCtorEq] at h<;>subst h
 ·exact he.own _ _ _ e
 ·cases e
 ·cases e
theorem qX {y:Operand}{x:X}(h:bM y=some x) {L:Loc}{ρ:Env}{a:Act}(he:aC L ρ a) {b:Option Addr}{j:Nat}(e:ev ρ x=.el b j):b≠none:=by
 cases y<;>simp only[bM,aaO,reduceCtorEq] at h<;>subst h
 ·exact he.el _ _ _ e
 ·cases e
 ·cases e
theorem gN:∀{b:List Operand}{xs:List X},gL b=some xs->∀{L:Loc}{ρ:Env}{a:Act},aC L ρ a->b.map a.eval=bn L ρ xs:=by
 intro b
 induction b with
 | nil=>intro xs h L ρ a he;simp only[gL,aaO] at h;subst h;rfl
 | cons y b d =>
  intro xs h L ρ a he;simp only[gL] at h;split at h
  ·rename_i x c h1 h2;injection h with h
   subst h;simp only[aaZ,bn,aH h1 he,d h2 he]
  ·cases h
def bF (F:aA) (L:Loc) (w:World) (a:Act) (K:dI) (a':Act) (w':World):Prop :=
 ∃F' L' ρ',St F' L' w'/\aC L' ρ' a'/\a'.tmps.size=a.tmps.size/\a'.defers=a.defers/\Step F L w F' L' w'/\K F' L' ρ'
theorem JR (a:Act) (d:Option Nat) (v:Value) (hd:∀k,d=some k->k<a.tmps.size) (t:Nat) :
  (a.put d v).tmps.getD t undef=match d with | some k=>if t=k then v else a.tmps.getD t undef | none=>a.tmps.getD t undef:=by
 cases d with
 | none=>rfl
 | some k =>
  have:=hd k rfl;simp only[Act.put,aa9,Array.getElem?_setIfInBounds]
  by_cases h:t=k
  ·subst h;simp[this]
  ·rw[o5 (by omega),o5 h]
theorem put_eq (d:Option Nat) (x:SV) (ρ:Env) (t:Nat):put d x ρ t=match d with | some k=>if t=k then x else ρ t | none=>ρ t:=by
 cases d with
 | none=>rfl
 | some k =>
  simp only[put];cases h:Nat.beq t k with
  | true=>have:=aaR h;simp[this]
  | false=>have:=gK h;simp[this]
theorem aC.put {L L':Loc}{ρ:Env}{a:Act}(he:aC L ρ a) {d:Option Nat}{v:Value}{x:SV}(hd:∀k,d=some k->k<a.tmps.size)
  (q:conc L' x=v) (r:∀k off,x=.own k off->∃g ty cs,L'.get k=some (.box g ty cs)) (n:∀f j,x=.el f j->f≠none)
  (m:∀k g ty cs,L.get k=some (.box g ty cs)->∃cs',L'.get k=some (.box g ty cs')):aC L' (put d x ρ) (a.put d v):=by
 have h:∀t,a.tmps.getD t undef=conc L' (ρ t):=by
  intro t;rw[he.eq t];cases e:ρ t with
  | v x=>rfl
  | el a j=>rfl
  | own k off =>
   obtain⟨g,ty,cs,l⟩:=he.own t k off e;obtain⟨cs',c⟩:=m k g ty cs l;simp only[conc,l,c]
 refine⟨fun t=>?_,fun t k off e=>?_,fun t f j e=>?_⟩
 ·rw[JR a d v hd,put_eq];cases d with
  | none=>exact h t
  | some k =>
   simp only[];split
   ·exact q.symm
   ·exact h t
 ·rw[put_eq] at e;have b:∀k off,ρ t=.own k off->∃g ty cs,L'.get k=some (.box g ty cs):=by
   intro k off e;obtain⟨g,ty,cs,l⟩:=he.own t k off e;obtain⟨cs',c⟩:=m k g ty cs l;exact⟨g,ty,cs',c⟩
  cases d with
  | none=>exact b k off e
  | some p =>
   simp only[] at e;split at e
   ·exact r k off e
   ·exact b k off e
 ·rw[put_eq] at e;cases d with
  | none=>exact he.el t f j e
  | some p =>
   simp only[] at e;split at e
   ·exact n f j e
   ·exact he.el t f j e
theorem jK (a:Act) (d:Option Nat) (v:Value):(a.put d v).tmps.size=a.tmps.size:=by cases d<;>simp[Act.put]
theorem gO (a:Act) (d:Option Nat) (v:Value):(a.put d v).defers=a.defers:=by cases d<;>rfl
section
variable {P:Program}{F:aA}{L:Loc}{ρ:Env}{a:Act}{w:World}{K:dI}{o:Oper}{Q:Exit->Act->World->Prop}
theorem bX (h:St F L w) (he:aC L ρ a) (hd:∀k,o.dst=some k->k<a.tmps.size) {v:Value}{x:SV}
  (d:(execOp a.eval o).run P w=.ok (.value v) w) (l:conc L x=v) (m:∀k off,x=.own k off->∃g ty cs,L.get k=some (.box g ty cs)) (c:∀b j,x=.el b j->b≠none)
  (f:K F L (put o.dst x ρ)):o.wp P a w (bF F L w a K) Q:=by
 unfold Oper.wp;rw[d];exact⟨F,L,_,h,he.put hd l m c (fun k g ty cs e=>⟨cs,e⟩),jK _ _ _,gO _ _ _,Step.refl _ _ _,f⟩
theorem jM (he:aC L ρ a) (hd:∀k,o.dst=some k->k<a.tmps.size) {v:Value}{x:SV}{w':World}{F':aA}{L':Loc}
  (d:(execOp a.eval o).run P w=.ok (.value v) w') (l:St F' L' w') (b:Step F L w F' L' w') (h:conc L' x=v) (n:∀k off,x=.own k off->∃g ty cs,L'.get k=some (.box g ty cs)) (e:∀c j,x=.el c j->c≠none)
  (m:∀k g ty cs,L.get k=some (.box g ty cs)->∃cs',L'.get k=some (.box g ty cs')) (f:K F' L' (put o.dst x ρ)):o.wp P a w (bF F L w a K) Q:=by
 unfold Oper.wp;rw[d];exact⟨F',L',_,l,he.put hd h n e m,jK _ _ _,gO _ _ _,b,f⟩
theorem Db (he:aC L ρ a) (hd:∀k,o.dst=some k->k<a.tmps.size) {w':World}{F':aA}{L':Loc}
  (c:(execOp a.eval o).run P w=.ok .skip w') (f:St F' L' w') (b:Step F L w F' L' w')
  (h:∀k g ty cs,L.get k=some (.box g ty cs)->∃cs',L'.get k=some (.box g ty cs')) (d:K F' L' (put o.dst (.v undef) ρ)):o.wp P a w (bF F L w a K) Q:=by
 unfold Oper.wp;rw[c];exact⟨F',L',_,f,he.put hd rfl (fun _ _ e=>by cases e) (fun _ _ e=>by cases e) h,jK _ _ _,gO _ _ _,b,d⟩
end
section
variable {P:Program}{F:aA}{L:Loc}{ρ:Env}{a:Act}{w:World}{K:dI}{o:Oper}{Q:Exit->Act->World->Prop}
theorem cB {v:Value}{L:Loc}:∀k off,SV.v v=.own k off->∃g ty cs,L.get k=some (.box g ty cs):=fun _ _ e=>by cases e
theorem eZ {v:Value}:∀b j,SV.v v=.el b j->b≠none:=fun _ _ e=>by cases e
theorem tC (L:Loc):∀k g ty cs,L.get k=some (.box g ty cs)->∃cs',L.get k=some (.box g ty cs'):=fun k g ty cs e=>⟨cs,e⟩
theorem cR {x:X}{v:Value}{L:Loc}{ρ:Env}(h:ev ρ x=.v v):val L ρ x=v:=by simp only[val,h,conc]
theorem JS {y:Operand}{x:X}(f:St F L w) (he:aC L ρ a) (hd:∀k,o.dst=some k->k<a.tmps.size)
  (b:o.op=.move y\/o.op=.assign y) (c:bM y=some x) (d:evalOp P (.mov x) o.dst F L ρ K):o.wp P a w (bF F L w a K) Q:=by
 refine bX f he hd (v:=a.eval y) (x:=ev ρ x) ?_ (aH c he).symm (fun k off e=>qk c he e) (fun h j e=>qX c he e) d;rcases b with b | b<;>simp only[execOp,b]<;>rfl
theorem MZ {c y z:Operand}{n l m:X}(p:St F L w) (he:aC L ρ a) (hd:∀k,o.dst=some k->k<a.tmps.size)
  (r:o.op=.pick c y z) (t:bM c=some n) (d:bM y=some l) (f:bM z=some m) (b:evalOp P (.pick n l m) o.dst F L ρ K):o.wp P a w (bF F L w a K) Q:=by
 have q:=aH t he;simp only[evalOp,aK] at b;split at b
 ·rename_i h;refine bX p he hd (v:=a.eval y) (x:=ev ρ l) ?_ (aH d he).symm (fun k off e=>qk d he e) (fun s j e=>qX d he e) b;simp only[execOp,r,q,val,h,conc];simp[asBool]
 ·rename_i h;refine bX p he hd (v:=a.eval z) (x:=ev ρ m) ?_ (aH f he).symm (fun k off e=>qk f he e) (fun s j e=>qX f he e) b;simp only[execOp,r,q,val,h,conc];simp[asBool]
 ·exact b.elim
theorem iF (w:World) (o:Obj):(w.alloc o).heap[w.heap.size]?=some o:=heap_alloc_new w o
theorem tD {F:aA}{L:Loc}{w:World}(c:St F L w):F w.heap.size=none/\¬L.owns w.heap.size:=by
 refine⟨?_,fun h=>?_⟩
 ·cases h:F w.heap.size with
  | none=>rfl
  | some _=>have:=c.aay (b:=w.heap.size) (by rw[h];simp);omega
 ·have:=c.aaB h;omega
theorem St.alloc (c:St F L w) (o:Obj):St F L (w.alloc o):=c.keep fun b hb=>Below.heap_alloc w o b hb
theorem mr (m:St F L w) {k:Nat}(n:L.get k=none) {ob:Obj}{e:Own}(hb:e.blk=some w.heap.size) (d:e.ok (w.alloc ob)) :
  St F (L.set k e) (w.alloc ob)/\Step F L w F (L.set k e) (w.alloc ob) /\
   (∀j g ty xs,L.get j=some (.box g ty xs)->∃cs',(L.set k e).get j=some (.box g ty cs')):=by
 obtain⟨h1,h2⟩:=tD m;refine⟨(m.alloc _).put n d fun g c=>?_,?_,fun j g ty xs l=>?_⟩
 ·rw[hb] at c;injection c with c;subst c;exact⟨h1,h2⟩
 ·refine Step.mk' (aA.le_refl F) (World.grownBy_alloc w _ none) (fun b hb=>.inl hb) fun b p=>?_;rcases Loc.aan p with h | h
  ·rw[hb] at h;injection h with h;exact .inr (by omega)
  ·exact .inl h
 ·rw[Loc.aac];split
  ·rename_i f;subst f;rw[n] at l;cases l
  ·exact⟨xs,l⟩
theorem kz (c:St F L w) {k:Nat}(d:L.get k=none) {cs:Array Value}{t:TypeId}{e:Own}(hb:e.blk=some w.heap.size) (b:e.ok (w.alloc (.cells cs t))) :
  St F (L.set k e) (w.alloc (.cells cs t))/\Step F L w F (L.set k e) (w.alloc (.cells cs t)) /\
   (∀j g ty xs,L.get j=some (.box g ty xs)->∃cs',(L.set k e).get j=some (.box g ty cs')):=mr c d hb b
theorem R5 {y:Operand}{x:X}{t:TypeId}(j:St F L w) (he:aC L ρ a) (hd:∀k,o.dst=some k->k<a.tmps.size)
  (m:o.op=.box t y) (h:bM y=some x) (d:t≠0) (c:evalOp P (.box t x) o.dst F L ρ K):o.wp P a w (bF F L w a K) Q:=by
 simp only[evalOp,aK] at c;split at c
 case h_2=>exact c.elim
 rename_i _ k f;split at c
 case h_2=>exact c.elim
 rename_i _ l;have c:=c w.heap.size;have b:(Value.cells (a.eval y)).toList=aM (val L ρ x):=by
  rw[aH h he];cases val L ρ x<;>rfl
 obtain⟨h1,h2,h3⟩:=kz j l (cs:=(a.eval y).cells) (t:=t) (e:=.box w.heap.size t (aM (val L ρ x))) rfl
  (by show _=_;rw[iF,jy d,<-b])
 refine jM he hd (v:=.pointer (some ⟨w.heap.size,0,none⟩)) (x:=.own k 0) ?_ h1 h2 ?_ ?_ (fun _ _ e=>by cases e) h3 c
 ·simp[execOp,m,Instr.box,newVar,newRow]
 ·simp only[conc,Loc.aac,abm]
 ·rintro n off e;injection e with e1 e2
  subst e1;exact⟨_,_,_,by rw[Loc.aac,fo rfl]⟩
theorem JT {t:TypeId}{i:TypeInfo}{zs:List Value}(j:St F L w) (he:aC L ρ a) (hd:∀k,o.dst=some k->k<a.tmps.size)
  (m:o.op=.alloc t) (hi:P.info? t=some i) (c:Uc i=some zs) (f:t≠0) (b:evalOp P (.alloc t zs) o.dst F L ρ K):o.wp P a w (bF F L w a K) Q:=by
 simp only[evalOp,aK] at b;split at b
 case h_2=>exact b.elim
 rename_i _ k h;split at b
 case h_2=>exact b.elim
 rename_i _ l;have b:=b w.heap.size;unfold Uc at c;split at c
 case h_2=>cases c
 rename_i z d;injection c with c
 obtain⟨h1,h2,h3⟩:=kz j l (cs:=z.cells) (t:=t) (e:=.box w.heap.size t zs) rfl
  (by show _=_;rw[iF,jy f,<-c])
 refine jM he hd (v:=.pointer (some ⟨w.heap.size,0,none⟩)) (x:=.own k 0) ?_ h1 h2 ?_ ?_ (fun _ _ e=>by cases e) h3 b
 ·simp[execOp,m,Instr.alloc,zeroValue,typeInfo,hi,d,newVar,newRow]
 ·simp only[conc,Loc.aac,abm]
 ·rintro n off e;injection e with e1 e2
  subst e1;exact⟨_,_,_,by rw[Loc.aac,fo rfl]⟩
theorem wS {t:TypeId}{l:List Value}{n:Nat}(h:jt t l n=true):t≠0:=by
 rintro rfl;simp[jt] at h
theorem BV {t:TypeId}{l:List Value}{n:Nat}(h:jt t l n=true):iz l n=true:=by
 unfold jt at h;split at h
 ·cases h
 ·exact h
theorem oU {t:TypeId}{l:List Value}{n:Nat}(h:t≠0) (b:iz l n=true):jt t l n=true:=by
 unfold jt;split
 ·rename_i e;exact vv (aaR e) h
 ·exact b
theorem jN:∀{l:List Value}{n:Nat},iz l n=true->l.length=n
 | [],0,_=>rfl
 | _::l,n+1,h=>by simp only[iz] at h;simp[jN h]
 | [],_+1,h=>by simp[iz] at h
 | _::_,0,h=>by simp[iz] at h
theorem oV {cs b:List Value}{off:Nat}(h:off+b.length<=cs.length) (n:Nat) :
  (bV cs off b)[n]?=if n<off then cs[n]? else if n<off+b.length then b[n-off]? else cs[n]?:=by
 unfold bV;have c:(cs.take off).length=off:=by simp;omega
 by_cases h1:n<off
 ·rw[fo h1,abM,abH (by omega),List.getElem?_take_of_lt h1]
 ·rw[o5 h1]
  by_cases h2:n<off+b.length
  ·rw[fo h2,abM,abI (by omega),abH (by omega),c]
  ·rw[o5 h2,abM,abI (by omega),abI (by omega),c,abE];congr 1;omega
theorem Na (b:List Value):∀(off j:Nat) (cells:Array Value),off+j+b.length<=cells.size ->
  ((b.zipIdx j).foldl (fun cs (c,j)=>cs.setIfInBounds (off+j) c) cells).toList=bV cells.toList (off+j) b:=by
 induction b with
 | nil=>intro off j cells h;simp[bV]
 | cons v b d =>
  intro off j cells h;simp only[List.zipIdx_cons,List.foldl_cons,aa8] at h ⊢;have:=d off (j+1) (cells.setIfInBounds (off+j) v) (by simp;omega);rw[this];apply abP;intro n;rw[oV (by simp;omega),oV (by simp;omega)];simp only[Array.toList_setIfInBounds,aa8]
  by_cases h2:n=off+j
  ·subst h2;rw[fo (by omega),o5 (by omega),fo (by omega),abY (by simp;omega)];simp
  ·by_cases h1:n<off+j
   ·rw[fo (by omega),fo h1,abU (by omega)]
   ·by_cases h3:n<off+(j+1)+b.length
    ·rw[o5 (by omega),fo h3,o5 h1,fo (by omega),show n-(off+j)=(n-(off+(j+1)))+1 by omega,abe]
    ·rw[o5 (by omega),o5 h3,o5 h1,o5 (by omega),abU (by omega)]
theorem Dc (b:Array Value) (off:Nat) (cells:Array Value) (h:off+b.size<=cells.size) :
  (b.zipIdx.foldl (fun cs (x:Value×Nat)=>cs.setIfInBounds (off+x.2) x.1) cells).toList=bV cells.toList off b.toList:=by
 have:=Na b.toList off 0 cells (by simpa using h);rw[Nat.add_zero] at this;rw[<-this];congr 1;rw[<-Array.foldl_toList,Array.toList_zipIdx]
theorem kP (cs:List Value) (off:Nat) (b:List Value) (h:off+b.length<=cs.length):(bV cs off b).length=cs.length:=by
 simp[bV];omega
theorem nU (v:Value):aM v=v.cells.toList:=by cases v<;>rfl
theorem Fh (sz n:Nat):∀(b:List Value) (k:Nat) (cells:Array Value),cells.size=n*sz->k+b.length=n->(∀v∈b,v.cells.size=sz) ->
  ∃out,Instr.fill (fun i=>some (i*sz,sz)) cells ((List.range' k b.length).zip b)=some out /\
   out.toList=cells.toList.take (k*sz)++(b.map (fun v=>v.cells.toList)).flatten:=by
 intro b
 induction b with
 | nil =>
  intro k cells h1 h2 h3;refine⟨cells,by simp[Instr.fill],?_⟩;simp at h2 ⊢;subst h2;rw[abz (by simp;omega)]
 | cons v b l =>
  intro k cells h1 h2 h3;have e:=h3 v (by simp);have j:k*sz+sz<=n*sz:=by
   rw[<-Nat.succ_mul];exact Nat.mul_le_mul_right _ (by simp at h2;omega)
  simp only[aa8,List.range'_succ,List.zip_cons_cons,Instr.fill];rw[o5 (by simp[e];omega)];have c:=Dc v.cells (k*sz) cells (by omega);have d:(v.cells.zipIdx.foldl (fun cs (x:Value×Nat)=>cs.setIfInBounds (k*sz+x.2) x.1) cells).size=n*sz:=by
   rw[<-Array.length_toList,c,kP _ _ _ (by simp;omega)];simpa using h1
  obtain⟨out,p,h⟩:=l (k+1) _ d (by simp at h2;omega) (fun u f=>h3 u (by simp[f]));refine⟨out,p,?_⟩;rw[h,c];simp only[bV,aaZ,List.flatten_cons,<-abM];congr 1;rw[Nat.succ_mul];have m:v.cells.toList.length=sz:=by simpa using e
  apply abP;intro i
  by_cases q:i<k*sz
  ·rw[List.getElem?_take_of_lt (by omega),abM,abH (by simp;omega),abH (by simp;omega)]
  ·by_cases r:i<k*sz+sz
   ·rw[List.getElem?_take_of_lt (by omega),abM,abI (by simp;omega),abH (by simp;omega),abI (by simp;omega)]
   ·rw[abj (by simp;omega),abj (by simp;omega)]
end
section
variable {P:Program}{F:aA}{L:Loc}{ρ:Env}{a:Act}{w:World}{K:dI}{o:Oper}{Q:Exit->Act->World->Prop}
theorem xM (L:Loc) (ρ:Env):∀xs:List X,cellsOf L ρ xs=((bn L ρ xs).map fun v=>v.cells.toList).flatten
 | []=>rfl
 | x::xs=>by simp only[cellsOf,bn,aaZ,List.flatten_cons,xM L ρ xs,nU]
theorem Ay {L:Loc}{ρ:Env}{sz:Nat}:∀{xs:List X},gC L ρ sz xs=true->∀v∈bn L ρ xs,v.cells.size=sz
 | [],_,v,b=>by cases b
 | x::xs,h,v,b=>by
  simp only[gC] at h;split at h
  ·rename_i h1;simp only[bn,aaX] at b;rcases b with rfl | b
   ·have:=jN h1;rw[nU] at this;simpa using this
   ·exact Ay h v b
  ·cases h
theorem lM (L:Loc) (ρ:Env):∀xs:List X,(bn L ρ xs).length=xs.length
 | []=>rfl
 | _::xs=>by simp[bn,lM L ρ xs]
theorem ql {L:Loc}{ρ:Env}{sz:Nat}:∀{xs:List X},gC L ρ sz xs=true->(cellsOf L ρ xs).length=xs.length*sz
 | [],_=>by simp[cellsOf]
 | x::xs,h=>by
  simp only[gC] at h;split at h
  ·rename_i h1;have:=jN h1;simp only[cellsOf,abA,this,ql h,aa8,Nat.succ_mul];omega
  ·cases h
theorem Fj {ps:List (Nat×Operand)}{f:Operand->Value}{n:Nat}(h:ps.map (·.1)=List.range n) :
  ps.map (fun p=>(p.1,f p.2))=(List.range' 0 ps.length).zip ((ps.map (·.2)).map f):=by
 have b:ps.length=n:=by have:=vz List.length h;simpa using this
 rw[b,<-List.range_eq_range',<-h]
 clear h b
 induction ps with
 | nil=>rfl
 | cons p ps c=>simp[c]
theorem qm {t e n:Nat}{ps:Array (Nat×Operand)}{i:TypeInfo}{z:Value}{xs:List X}(s:P.underlying t=some (.slice e)) (hi:P.info? e=some i) (r:i.zero=some z)
  (y:gL (ps.toList.map (·.2))=some xs) (l:ps.toList.map (·.1)=List.range n) (hb:n*i.size<=2 ^ 24) (u:gC L ρ i.size xs=true) (he:aC L ρ a) :
  (Instr.buildSlice t n (ps.map fun(j,x)=>(j,a.eval x))).run P w=.ok (.slice (some ⟨w.heap.size,0,none⟩) n n) (w.alloc (.cells (cellsOf L ρ xs).toArray e))/\xs.length=n:=by
 have k:=gN y he;have c:xs.length=n:=by
  have h1:=vz List.length k;have h2:=vz List.length l;simp only[xo,lM,List.length_range] at h1 h2;omega
 have m:ps.toList.length=n:=by have:=vz List.length l;simpa using this
 have b:(ps.map fun(x:Nat×Operand)=>(x.1,a.eval x.2)).toList=(List.range' 0 (bn L ρ xs).length).zip (bn L ρ xs):=by
  rw[Array.toList_map,Fj l,k,lM,c,m]
 have f:=fun(cells:Array Value) (v:cells.size=n*i.size)=>Fh i.size n (bn L ρ xs) 0 cells v (by rw[lM];omega) (Ay u);refine⟨?_,c⟩;have q:∀zero:Array Value,((Array.range (n*i.size)).map (zero[· % zero.size]!)).size=n*i.size:=fun _=>by simp
 obtain⟨out,h1,h2⟩:=f ((Array.range (n*i.size)).map ((if n*i.size=0 then #[] else z.cells)[· % (if n*i.size=0 then #[] else z.cells).size]!)) (q _);have d:out=(cellsOf L ρ xs).toArray:=by
  apply Array.ext';rw[h2,xM];simp
 have p:¬(n*i.size>2 ^ 24):=by omega
 unfold Instr.buildSlice;simp only[Sem.run_bind,run_underlying s,Result.andThen_ok,sizeOf,typeInfo,hi,run_program,Sem.run_pure,o5 p,zeroValue,r]
 by_cases h0:n*i.size=0
 ·simp only[h0,abm] at h1 ⊢
  try simp only[Sem.run_pure,Result.andThen_ok]
  rw[b];have h:=h1;simp only[h,d,newRow,Sem.run_bind,run_newObj,Result.andThen_ok,Sem.run_pure];rfl
 ·simp only[h0,abS] at h1 ⊢;simp only[Sem.run_bind,hi,r,run_program,Sem.run_pure,Result.andThen_ok];rw[b];have h:=h1;simp only[h,d,newRow,Sem.run_bind,run_newObj,Result.andThen_ok,Sem.run_pure];rfl
theorem Nb {t:TypeId}{y:Operand}{x:X}(j:St F L w) (he:aC L ρ a) (hd:∀k,o.dst=some k->k<a.tmps.size)
  (p:o.op=.box t y) (n:bM y=some x) (m:evalOp P (.boxF t x) o.dst F L ρ K):o.wp P a w (bF F L w a K) Q:=by
 simp only[evalOp] at m;have c:(a.eval y).cells=(aM (val L ρ x)).toArray:=by
  apply Array.ext';rw[aH n he];cases val L ρ x<;>rfl
 have d:=iF w (.cells (aM (val L ρ x)).toArray t);obtain⟨hf,f⟩:=tD j;have l:=(j.alloc (.cells (aM (val L ρ x)).toArray t)).freeze d f;have e:=aA.aav (j.alloc (.cells (aM (val L ρ x)).toArray t)) d;refine jM he hd (v:=.pointer (some ⟨w.heap.size,0,none⟩)) (x:=.v (.pointer (some ⟨w.heap.size,0,none⟩))) ?_ l (Step.mk' e (World.grownBy_alloc w _ none) ?_ fun b h=>.inl h) rfl cB eZ (tC L) (m w.heap.size _ e (by simp))
 ·simp[execOp,p,Instr.box,newVar,newRow,c]
 ·intro b hb
  by_cases h:b=w.heap.size
  ·exact .inr (.inr (by omega))
  ·simp only[o5 h] at hb;exact .inl hb
theorem R6 {t e n:Nat}{ps:Array (Nat×Operand)}{i:TypeInfo}{z:Value}{xs:List X}(m:St F L w) (he:aC L ρ a) (hd:∀k,o.dst=some k->k<a.tmps.size)
  (ho:o.op=.buildSlice t n ps) (s:P.underlying t=some (.slice e)) (hi:P.info? e=some i) (y:i.zero=some z)
  (hx:gL (ps.toList.map (·.2))=some xs) (r:ps.toList.map (·.1)=List.range n) (hb:n*i.size<=2 ^ 24) (j:evalOp P (.mkF e n i.size xs) o.dst F L ρ K):o.wp P a w (bF F L w a K) Q:=by
 simp only[evalOp,aK] at j;split at j
 case h_2=>exact j.elim
 rename_i u;obtain⟨f,q⟩:=qm (w:=w) s hi y hx r hb u he;have c:=iF w (.cells (cellsOf L ρ xs).toArray e);obtain⟨hf,l⟩:=tD m;have p:=(m.alloc (.cells (cellsOf L ρ xs).toArray e)).freeze c l;have d:=aA.aav (m.alloc (.cells (cellsOf L ρ xs).toArray e)) c;refine jM he hd (v:=.slice (some ⟨w.heap.size,0,none⟩) n n) (x:=.v (.slice (some ⟨w.heap.size,0,none⟩) n n)) ?_ p (Step.mk' d (World.grownBy_alloc w _ none) ?_ fun b h=>.inl h) rfl cB eZ (tC L) (j w.heap.size _ d (by simp))
 ·simp only[execOp,ho,Sem.run_bind,f,Result.andThen_ok,Sem.run_pure]
 ·intro b hb
  by_cases h:b=w.heap.size
  ·exact .inr (.inr (by omega))
  ·simp only[o5 h] at hb;exact .inl hb
theorem lN (w:World) (cs:List Value) (e:TypeId) (n sz:Nat) (c:n<=maxLen) (b:cs.length=n*sz) :
  (w.alloc (.cells cs.toArray e)).ownsRow 0 e sz (.slice (some ⟨w.heap.size,0,none⟩) n n) n cs :=
 ⟨b,.inr ⟨w.heap.size,n,cs.toArray,rfl,abd _,iF w _,aa2 _,c,by simpa using b,by simp[<-b]⟩⟩
theorem R7 {t e n:Nat}{ps:Array (Nat×Operand)}{i:TypeInfo}{z:Value}{xs:List X}(r:St F L w) (he:aC L ρ a) (hd:∀k,o.dst=some k->k<a.tmps.size)
  (u:o.op=.buildSlice t n ps) (m:P.underlying t=some (.slice e)) (hi:P.info? e=some i) (p:i.zero=some z)
  (q:gL (ps.toList.map (·.2))=some xs) (l:ps.toList.map (·.1)=List.range n) (hb:n*i.size<=2 ^ 24) (y:n<=2 ^ 24) (b:evalOp P (.mkR e n i.size xs) o.dst F L ρ K):o.wp P a w (bF F L w a K) Q:=by
 simp only[evalOp,aK] at b;split at b
 case h_2=>exact b.elim
 rename_i _ _ k h j;split at b
 case h_2=>exact b.elim
 rename_i _ s;obtain⟨d,c⟩:=qm (w:=w) m hi p q l hb h he;have f:=lN w (cellsOf L ρ xs) e n i.size (by simp only[maxLen];omega) (by rw[ql h,c]);obtain⟨h1,h2,h3⟩:=kz r s (cs:=(cellsOf L ρ xs).toArray) (t:=e) (e:=.row (.slice (some ⟨w.heap.size,0,none⟩) n n) e i.size n (cellsOf L ρ xs)) rfl f;refine jM he hd (v:=.slice (some ⟨w.heap.size,0,none⟩) n n) (x:=.v (.slice (some ⟨w.heap.size,0,none⟩) n n)) ?_ h1 h2 rfl cB eZ h3 (b w.heap.size);simp only[execOp,u,Sem.run_bind,d,Result.andThen_ok,Sem.run_pure]
def placeOf (P:Program) (f:Field):Nat×Nat:=(f.offset,P.cellsOf f.type)
def xN (f:Field):Sem (Nat×Nat):=do pure (f.offset,<-sizeOf f.type)
theorem z5 {u:Array Field}:∀{ps:List (Nat×Operand)}{l:List (Nat×Nat×X)},nT P u ps=some l->∀{cells:Array Value}{cs:List Value}(m:Array (Nat×Nat)),aC L ρ a ->
  (∀(j:Nat) (f:Field) (i:TypeInfo),u[j]?=some f->P.info? f.type=some i->m[j]?=some (f.offset,i.size)) ->
  built L ρ cells.toList l=some cs->(∀off n x,(off,n,x)∈l->off+n<=cells.size) ->
  ∃out,Instr.fill (m[·]?) cells (ps.map fun p=>(p.1,a.eval p.2))=some out/\out.toList=cs:=by
 intro ps
 induction ps with
 | nil =>
  intro l h cells cs m he e hb k;simp only[nT,aaO] at h;subst h;simp only[built,aaO] at hb;exact⟨cells,rfl,hb⟩
 | cons p ps z =>
  intro l h cells cs m he e hb k;obtain⟨j,y⟩:=p;simp only[nT] at h;split at h
  case h_2=>cases h
  rename_i f x l' hf hx s;split at h
  case h_2=>cases h
  rename_i i hi;injection h with h
  subst h;simp only[built] at hb;split at hb
  case h_2=>cases hb
  rename_i b;have b:=jN b;have r:=k f.offset i.size x (by simp);have q:=aH hx he;simp only[aaZ,Instr.fill,e j f i hf hi];have t:(a.eval y).cells.size=i.size:=by rw[q];rw[nU] at b;simpa using b
  rw[o5 (by simp[t];omega)];have c:=Dc (a.eval y).cells f.offset cells (by omega);have d:(a.eval y).cells.toList=aM (val L ρ x):=by rw[q,nU]
  rw[d] at c;refine z s m he e (cs:=cs) ?_ ?_
  ·rw[c];exact hb
  ·intro off n x' v;rw[<-Array.length_toList,c,kP _ _ _ (by rw[b];simpa using r)];simpa using k off n x' (by simp[v])
theorem wF (P:Program) (w:World):∀(b:List Field),(∀f:Field,f∈b->(P.info? f.type).isSome=true) ->
  (b.mapM xN).run P w=.ok (b.map (placeOf P)) w:=by
 intro b
 induction b with
 | nil=>intro _;simp
 | cons f b c =>
  intro h;have h1:=h f (by simp);obtain⟨i,hi⟩:=Option.isSome_iff_exists.1 h1;simp only[List.mapM_cons,xN,Sem.run_bind,sizeOf,typeInfo,run_program,Result.andThen_ok,hi,Sem.run_pure];rw[c (fun g d=>h g (by simp[d]))];simp[placeOf,Program.cellsOf,hi]
theorem JU {t:Nat}{ps:Array (Nat×Operand)}{b:Array Field}{i:TypeInfo}{zs:List Value}{l:List (Nat×Nat×X)}(hs:St F L w) (he:aC L ρ a) (hd:∀k,o.dst=some k->k<a.tmps.size)
  (ho:o.op=.build t ps) (y:P.underlying t=some (.struct b)) (hi:P.info? t=some i) (c:Uc i=some zs) (hl:nT P b ps.toList=some l) (h:∀f:Field,f∈b.toList->(P.info? f.type).isSome=true)
  (u:∀off n x,(off,n,x)∈l->off+n<=zs.length) (m:evalOp P (.build zs l) o.dst F L ρ K):o.wp P a w (bF F L w a K) Q:=by
 simp only[evalOp,aK] at m;split at m
 case h_2=>exact m.elim
 rename_i cs s;unfold Uc at c;split at c
 case h_2=>cases c
 rename_i z q;injection c with c
 have r:∀(j:Nat) (f:Field) (i:TypeInfo),b[j]?=some f->P.info? f.type=some i->(b.map (placeOf P))[j]?=some (f.offset,i.size):=by
  intro j f i h1 h2;simp[h1,placeOf,Program.cellsOf,h2]
 obtain⟨out,h1,h2⟩:=z5 (a:=a) (cells:=z.cells) (cs:=cs) hl _ he r (by rw[c];exact s) (by intro off n x hm;have:=u off n x hm;rw[<-c] at this;simpa using this);have d:out=cs.toArray:=by apply Array.ext';simpa using h2
 have e:(b.mapM xN).run P w=.ok (b.map (placeOf P)) w:=by
  rw[Array.mapM_eq_mapM_toList,Sem.run_map,wF P w _ h];simp only[Result.andThen_ok];congr 1;exact Array.ext' (by simp)
 refine bX hs he hd (v:=.agg cs.toArray) (x:=.v (.agg cs.toArray)) ?_ rfl cB eZ m;simp only[execOp,ho,Instr.build,Sem.run_bind,zeroValue,typeInfo,run_program,Result.andThen_ok,hi,Sem.run_pure,q,run_underlying y];rw[show(b.mapM fun(f:Field)=>(do pure (f.offset,<-sizeOf f.type):Sem (Nat×Nat))).run P w=.ok (b.map (placeOf P)) w from e];simp only[Result.andThen_ok];rw[show(ps.map fun(x:Nat×Operand)=>(x.1,a.eval x.2)).toList=ps.toList.map (fun p=>(p.1,a.eval p.2)) by simp,h1,d];simp
theorem Az {t:Nat}{d:TypeDesc}(b:P.underlying t=some d):(isAgg t).run P w=.ok (fj d) w:=by
 unfold isAgg;simp only[Sem.run_bind,run_underlying b,Result.andThen_ok];cases d<;>rfl
theorem oW {t:Nat}{d:TypeDesc}{i:TypeInfo}(h:P.underlying t=some d) (hi:P.info? t=some i) {c:Addr}{cs:List Value}{n:Nat}
  (f:∀j v,cs[j]?=some v->w.cell? (c.add j)=some v) (b:cs.length=n) (e:n=match fj d with | true=>i.size | false=>1) :
  (Instr.loadAt t (.pointer (some c))).run P w=.ok (iD (fj d) cs) w:=by
 simp only[Instr.loadAt,Instr.sureAddr,Sem.run_bind,Sem.run_pure,Result.andThen_ok,loadVar,Az h];cases hd:fj d with
 | true =>
  simp only[hd] at e;simp only[abm,Sem.run_bind,sizeOf,typeInfo,run_program,Result.andThen_ok,hi,Sem.run_pure];rw[<-e,<-b,run_loadCells_list w c cs f];rfl
 | false =>
  simp only[hd] at e;subst e
  match cs,b with
  | [v],_ =>
   have:=f 0 v (by simp);rw[show c.add 0=c by simp[Addr.add]] at this;simp[run_load,this,iD]
theorem qo {g:Nat}{t:TypeId}{cs:List Value}(b:t≠0) (h:Own.ok w (.box g t cs)) (n:Nat):w.cell? ⟨g,n,none⟩=cs[n]?:=by
 simp only[Own.ok,jy b] at h;simp[World.cell?,h]
theorem Nc {t:Nat}{y:Operand}{x:X}{d:TypeDesc}{i:TypeInfo}{n:Nat}(hs:St F L w) (he:aC L ρ a) (hd:∀k,o.dst=some k->k<a.tmps.size)
  (ho:o.op=.load t y) (ht:P.underlying t=some d) (hi:P.info? t=some i) (hx:bM y=some x) (hn:n=match fj d with | true=>i.size | false=>1)
  (q:evalOp P (.load (fj d) n x) o.dst F L ρ K):o.wp P a w (bF F L w a K) Q:=by
 have ec:=aH hx he;have z:∀(l:Option Addr) (j:Nat),l≠none->(kx F L l j n fun cs=>K F L (put o.dst (.v (iD (fj d) cs)) ρ))->a.eval y=conc L (.el l j)->o.wp P a w (bF F L w a K) Q:=by
  rintro l j aw ⟨cs,r,hc,q⟩ hy;cases l with
  | none=>exact vv rfl aw
  | some l =>
   have f:∀i v,cs[i]?=some v->w.cell? ((l.add j).add i)=some v:=by
    rcases hc with hc | ⟨k,v,t',sz,m,xs,aE,c,hk,s,e2,hc⟩ | ba | ⟨k,g,t',bs,o',hk,ac,s,hc⟩
    ·obtain⟨aE,e,an,az⟩:=hc.cell hs;injection e with e
     subst e;intro i v hv;obtain⟨b,o',sp⟩:=l;simp only at an;subst an;rw[dw,dw,Nat.add_assoc,<-dw];exact az i v hv
    ·injection s with s
     subst s;have aa:=hs.own k _ hk;simp only[Own.ok] at aa;subst e2;intro i u hu;have hb:=hc i u hu;have h0:=World.ownsRow.cells aa (g:=l.block) rfl (j+i) u hb;rcases aa.2 with⟨e,_⟩ | ⟨g,cap,bl,e,_⟩
     ·cases e
     ·injection e with s e2 e3
      injection s with s
      subst s;rw[dw,dw];rw[dw] at h0;simpa[Nat.add_assoc] using h0
    ·intro i v hv;rw[ba] at r;have:cs=[]:=aby r;subst this;simp at hv
    ·injection s with s
     subst s;intro i u hu;rw[dw,dw,qo ac (hs.own k _ hk)];exact hc i u hu
   refine bX hs he hd (v:=iD (fj d) cs) (x:=.v (iD (fj d) cs)) ?_ rfl cB eZ q;simp only[execOp,ho,hy,conc,Sem.run_bind,oW ht hi f r hn,Result.andThen_ok,Sem.run_pure]
 simp only[evalOp,aK] at q;split at q
 ·rename_i k off p;split at q
  case h_2=>exact q.elim
  rename_i g ty cs hk;split at q
  case h_2=>exact q.elim
  rename_i hl;have ac:=wS hl;have hl:=jN (BV hl);have am:=hs.own k _ hk;have f:∀j v,((cs.drop off).take n)[j]?=some v->w.cell? ((⟨g,off,none⟩:Addr).add j)=some v:=by
   intro j v hv;rw[dw,qo ac am];have hj:j<n:=by
    have:=aaT.1 hv;obtain⟨h,_⟩:=this;omega
   rw[List.getElem?_take_of_lt hj,abE] at hv;exact hv
  refine bX hs he hd (v:=iD (fj d) ((cs.drop off).take n)) (x:=.v (iD (fj d) ((cs.drop off).take n))) ?_ rfl cB eZ q;have hy:a.eval y=.pointer (some ⟨g,off,none⟩):=by rw[ec];simp only[val,p,conc,hk]
  simp only[execOp,ho,hy,Sem.run_bind,oW ht hi f hl hn,Result.andThen_ok,Sem.run_pure]
 ·rename_i l j p;exact z l j (qX hx he p) q (by rw[ec];simp only[val,p])
 ·rename_i l p;refine z (some l) 0 (by simp) q ?_;rw[ec];simp only[val,p,conc];simp[Addr.add]
 ·exact q.elim
end
section
variable {P:Program}{F:aA}{L:Loc}{ρ:Env}{a:Act}{w:World}{K:dI}{o:Oper}{Q:Exit->Act->World->Prop}
theorem AA {k b:IntKind}(h:qi k b=true):k=b:=by cases k<;>cases b<;>first | rfl | cases h
theorem sw {op:BinOp}{t:TypeId}{x y:Operand}{u v:Value}(h:∀c,u≠.agg c) (h2:u≠.nilIface):(eqGuard op t x y u v).run P w=.ok () w:=by
 have key:(eqGuard op t x y u v).run P w=.ok () w\/True:=.inr trivial;unfold eqGuard;cases op<;>simp only[Bool.not_true,ab1,abm,aa5,abS]<;>first
  | rfl
  | (cases u<;>first | rfl | exact vv rfl (h _) | exact vv rfl h2)
theorem toList_data (s:ByteArray):s.toList=s.data.toList:=ByteArray.toList_eq s
theorem wT (x y:List UInt8):(x == y)=decide (x=y):=by rw[Bool.eq_iff_iff];simp
theorem R8 {t t':TypeId}{op:BinOp}{y z:Operand}{q r:X}(hs:St F L w) (he:aC L ρ a) (hd:∀k,o.dst=some k->k<a.tmps.size)
  (ho:o.op=.binOp op t y z t') (hy:bM y=some q) (hz:bM z=some r) (d:evalOp P (.bin op q r) o.dst F L ρ K):o.wp P a w (bF F L w a K) Q:=by
 have ey:=aH hy he;have ez:=aH hz he;have fin:∀v,(binOp op t (val L ρ q) (val L ρ r)).run P w=.ok v w->(∀c,val L ρ q≠.agg c)->val L ρ q≠.nilIface->K F L (put o.dst (.v v) ρ)->o.wp P a w (bF F L w a K) Q:=by
  intro v hr h1 h2 d;refine bX hs he hd (v:=v) (x:=.v v) ?_ rfl cB eZ d;simp only[execOp,ho,ey,ez,Sem.run_bind,sw h1 h2,Result.andThen_ok,hr,Sem.run_pure]
 simp only[evalOp,aK] at d;split at d
 ·rename_i k n k' m j h;have b:=cR (L:=L) j;have e:=cR (L:=L) h;split at d
  ·rename_i l;have p:op=.shl\/op=.shr:=by cases op<;>simp_all [JO]
   have h1:(binOp op t (.int k n) (.int k' m)).run P w=(Op.shift op k n k' m).run P w:=by rcases p with rfl | rfl<;>rfl
   rcases p with rfl | rfl
   ·obtain⟨hm,⟨d⟩⟩:=d;refine fin _ ?_ (by rw[b];simp) (by rw[b];simp) d;rw[b,e,h1];simp[Op.shift,show¬m<0 by omega]
   ·obtain⟨hm,d⟩:=d;refine fin _ ?_ (by rw[b];simp) (by rw[b];simp) d;rw[b,e,h1];simp[Op.shift,show¬m<0 by omega]
  ·rename_i l;split at d
   case h_2=>exact d.elim
   rename_i hk;have hk:=AA hk;subst hk;cases op<;>simp only[binI] at d<;>first | (cases l;done) | skip
   ·obtain⟨d⟩:=d;exact fin _ (by rw[b,e];simp[binOp,Op.intArith]) (by rw[b];simp) (by rw[b];simp) d
   ·obtain⟨d⟩:=d;exact fin _ (by rw[b,e];simp[binOp,Op.intArith]) (by rw[b];simp) (by rw[b];simp) d
   ·obtain⟨d⟩:=d;exact fin _ (by rw[b,e];simp[binOp,Op.intArith]) (by rw[b];simp) (by rw[b];simp) d
   ·obtain⟨f,⟨d⟩⟩:=d;exact fin _ (by rw[b,e];simp[binOp,Op.intDiv,f]) (by rw[b];simp) (by rw[b];simp) d
   ·obtain⟨f,d⟩:=d;exact fin _ (by rw[b,e];simp[binOp,Op.intDiv,f]) (by rw[b];simp) (by rw[b];simp) d
   ·exact fin _ (by rw[b,e];simp[binOp,Op.intBits]) (by rw[b];simp) (by rw[b];simp) d
   ·exact fin _ (by rw[b,e];simp[binOp,Op.intBits]) (by rw[b];simp) (by rw[b];simp) d
   ·exact fin _ (by rw[b,e];simp[binOp,Op.intBits]) (by rw[b];simp) (by rw[b];simp) d
   ·exact fin _ (by rw[b,e];simp[binOp,Op.intBits]) (by rw[b];simp) (by rw[b];simp) d
   ·exact fin _ (by rw[b,e];simp[binOp,Op.intCmp];rfl) (by rw[b];simp) (by rw[b];simp) d
   ·exact fin _ (by rw[b,e];simp[binOp,Op.intCmp,bne];rfl) (by rw[b];simp) (by rw[b];simp) d
   ·exact fin _ (by rw[b,e];simp[binOp,Op.intCmp]) (by rw[b];simp) (by rw[b];simp) d
   ·exact fin _ (by rw[b,e];simp[binOp,Op.intCmp]) (by rw[b];simp) (by rw[b];simp) d
   ·exact fin _ (by rw[b,e];simp[binOp,Op.intCmp]) (by rw[b];simp) (by rw[b];simp) d
   ·exact fin _ (by rw[b,e];simp[binOp,Op.intCmp]) (by rw[b];simp) (by rw[b];simp) d
 ·rename_i s u j h;have b:=cR (L:=L) j;have e:=cR (L:=L) h;cases op<;>simp only[binS] at d<;>first | exact d.elim | skip
  ·obtain⟨ag,d⟩:=d;refine fin _ ?_ (by rw[b];simp) (by rw[b];simp) d;rw[b,e];have:¬(((s.size+u.size:Nat):Int)>IntKind.i64.max):=by omega
   simp only[binOp,Op.stringOp,o5 this];rfl
  ·exact fin _ (by rw[b,e];simp only[binOp,Op.stringOp,toList_data,wT];rfl) (by rw[b];simp) (by rw[b];simp) d
  ·exact fin _ (by rw[b,e];simp only[binOp,Op.stringOp,toList_data,wT];rfl) (by rw[b];simp) (by rw[b];simp) d
  ·exact fin _ (by rw[b,e];simp only[binOp,Op.stringOp,toList_data,wT];rfl) (by rw[b];simp) (by rw[b];simp) d
  ·exact fin _ (by rw[b,e];simp only[binOp,Op.stringOp,toList_data,wT];rfl) (by rw[b];simp) (by rw[b];simp) d
 ·exact d.elim
theorem JV {t t':TypeId}{neg:Bool}{y z:Operand}{q r:X}(hs:St F L w) (he:aC L ρ a) (hd:∀k,o.dst=some k->k<a.tmps.size)
  (s:o.op=.binOp (if neg then .neq else .eql) t y z t') (j:P.underlying t=some .bool) (u:bM y=some q) (hz:bM z=some r) (d:evalOp P (.eqB neg q r) o.dst F L ρ K):o.wp P a w (bF F L w a K) Q:=by
 have m:=aH u he;have l:=aH hz he;simp only[evalOp,aK] at d;split at d
 case h_2=>exact d.elim
 rename_i b c f e;have n:=cR (L:=L) f;have h:=cR (L:=L) e;refine bX hs he hd (v:=.bool (tq neg (decide (b=c)))) (x:=.v (.bool (tq neg (decide (b=c))))) ?_ rfl cB eZ d;have p:∀op:BinOp,(eqGuard op t y z (.bool b) (.bool c)).run P w=.ok () w:=fun op=>sw (by simp) (by simp);have hb:(b == c)=decide (b=c):=by cases b<;>cases c<;>rfl
 cases neg
 ·simp only[execOp,s,m,l,n,h,Sem.run_bind,p,Result.andThen_ok];have:=run_eql_bool (P:=P) w t b c j;rw[hb] at this;simp[this,tq]
 ·simp only[execOp,s,m,l,n,h,Sem.run_bind,p,Result.andThen_ok];have:=run_neq_bool (P:=P) w t b c j;rw[hb] at this;simp[this,tq]
theorem R9 {t e:TypeId}(h:P.underlying t=some (.slice e)) (p:Option Addr) (n c f b:Nat):(Op.equal t (.slice p n c) (.slice none f b)).run P w=.ok p.isNone w:=by
 have key:∀d:Nat,(Op.equalIn (d+1) t (.slice p n c) (.slice none f b)).run P w=.ok p.isNone w:=fun d=>by
  cases p<;>simp[Op.equalIn,run_underlying h]
 exact key 9999
theorem JW {t t':TypeId}{neg:Bool}{y z:Operand}{l p:X}(hs:St F L w) (he:aC L ρ a) (hd:∀k,o.dst=some k->k<a.tmps.size)
  (r:o.op=.binOp (if neg then .neq else .eql) t y z t') (hy:bM y=some l) (hz:bM z=some p)
  (u v:Value) (b:Bool) (d:val L ρ l=u) (q:val L ρ p=v) (h1:∀c,u≠.agg c) (h2:u≠.nilIface) (h3:∀k n,u≠.int k n) (h4:∀s,u≠.string s) (h5:∀k n,u≠.float k n) (h6:∀k n m,u≠.complex k n m)
  (e:(Op.equal t u v).run P w=.ok b w) (hK:K F L (put o.dst (.v (.bool (tq neg b))) ρ)):o.wp P a w (bF F L w a K) Q:=by
 have h:=aH hy he;have f:=aH hz he;refine bX hs he hd (v:=.bool (tq neg b)) (x:=.v (.bool (tq neg b))) ?_ rfl cB eZ hK;have j:∀op:BinOp,(eqGuard op t y z u v).run P w=.ok () w:=fun op=>sw h1 h2;cases neg
 ·simp only[execOp,r,h,f,d,q,Sem.run_bind,j,Result.andThen_ok];have:binOp .eql t u v=(do pure (.bool (<-Op.equal t u v)):Sem Value):=by
   cases u<;>first | rfl | exact vv rfl (h3 _ _) | exact vv rfl (h4 _) | exact vv rfl (h5 _ _) | exact vv rfl (h6 _ _ _)
  simp[this,e,tq]
 ·simp only[execOp,r,h,f,d,q,Sem.run_bind,j,Result.andThen_ok];have:binOp .neq t u v=(do pure (.bool (!(<-Op.equal t u v))):Sem Value):=by
   cases u<;>first | rfl | exact vv rfl (h3 _ _) | exact vv rfl (h4 _) | exact vv rfl (h5 _ _) | exact vv rfl (h6 _ _ _)
  simp[this,e,tq]
theorem JX {t v e:TypeId}{neg:Bool}{y z:Operand}{h j:X}(u:St F L w) (he:aC L ρ a) (hd:∀k,o.dst=some k->k<a.tmps.size)
  (x:o.op=.binOp (if neg then .neq else .eql) t y z v) (m:P.underlying t=some (.slice e)) (l:bM y=some h) (q:bM z=some j) (b:evalOp P (.eqS neg h j) o.dst F L ρ K):o.wp P a w (bF F L w a K) Q:=by
 simp only[evalOp,aK] at b;split at b
 ·rename_i p n c r s f d;exact JW u he hd x l q (.slice p n c) (.slice none r s) p.isNone (cR f) (cR d) (by simp) (by simp) (by simp) (by simp) (by simp) (by simp) (R9 m _ _ _ _ _) b
 ·exact b.elim
theorem Ij {z:Operand}{b:X}(h:bM z=some b) (k:xL b=true):z=.const .nilIface:=by
 unfold xL at k;split at k
 ·cases z with
  | const v=>simp only[bM,aaO,X.c.injEq] at h;rw[h]
  | tmp n=>cases h
  | func f=>cases h
  | global g=>cases h
 ·cases k
theorem Fl {t:TypeId}{b:Array (String×TypeId)}(h:P.underlying t=some (.interface b)):(Op.equal t .nilIface .nilIface).run P w=.ok true w:=by
 have key:∀d:Nat,(Op.equalIn (d+1) t .nilIface .nilIface).run P w=.ok true w:=fun d=>by
  simp[Op.equalIn,run_underlying h]
 exact key 9999
theorem Sb {t ty:TypeId}{b:Array (String×TypeId)}{u:Value}(h:P.underlying t=some (.interface b)):(Op.equal t (.iface ty u) .nilIface).run P w=.ok false w:=by
 have key:∀d:Nat,(Op.equalIn (d+1) t (.iface ty u) .nilIface).run P w=.ok false w:=fun d=>by
  simp[Op.equalIn,run_underlying h]
 exact key 9999
theorem JY {t t':TypeId}{ms:Array (String×TypeId)}{neg:Bool}{y z:Operand}{f h:X}(hs:St F L w) (he:aC L ρ a) (hd:∀k,o.dst=some k->k<a.tmps.size)
  (j:o.op=.binOp (if neg then .neq else .eql) t y z t') (p:P.underlying t=some (.interface ms)) (l:bM y=some f) (d:bM z=some h) (hn:xL h=true) (c:evalOp P (.eqN neg f) o.dst F L ρ K):o.wp P a w (bF F L w a K) Q:=by
 have r:=aH l he;obtain rfl:=Ij d hn;simp only[evalOp,aK] at c;split at c
 ·rename_i b;have m:val L ρ f=.nilIface:=cR b;refine bX hs he hd (v:=.bool (tq neg true)) (x:=.v (.bool (tq neg true))) ?_ rfl cB eZ c;have s:∀op:BinOp,(eqGuard op t y (.const .nilIface) .nilIface .nilIface).run P w=.ok () w:=fun op=>by
   cases op<;>simp[eqGuard]
  have q:a.eval (.const .nilIface)=.nilIface:=rfl;have n:=Fl (P:=P) (w:=w) p;cases neg
  ·simp only[execOp,j,r,q,m,Sem.run_bind,s,Result.andThen_ok];have:binOp .eql t .nilIface .nilIface=(do pure (.bool (<-Op.equal t .nilIface .nilIface)):Sem Value):=rfl;simp[this,n,tq]
  ·simp only[execOp,j,r,q,m,Sem.run_bind,s,Result.andThen_ok];have:binOp .neq t .nilIface .nilIface=(do pure (.bool (!(<-Op.equal t .nilIface .nilIface))):Sem Value):=rfl;simp[this,n,tq]
 ·rename_i ty u b;have e:val L ρ h=.nilIface:=by
   simp only[bM,aaO] at d;rw[<-d];rfl
  exact JW hs he hd j l d (.iface ty u) .nilIface false (cR b) e (by simp) (by simp) (by simp) (by simp) (by simp) (by simp) (Sb p) c
 ·exact c.elim
theorem Df {l c:List Value}{b r:Bool}(h:ji [] l c b=some r):l=[]/\c=[]/\r=b:=by
 cases l with
 | cons v l=>simp[ji] at h
 | nil =>
  cases c with
  | cons v l=>simp[ji] at h
  | nil=>simp only[ji,aaO] at h;exact⟨rfl,rfl,h.symm⟩
theorem AB {ks:List Bool}{l c:List Value}{d r:Bool}(h:ji (true::ks) l c d=some r):∃k a e b f,l=.int k a::e/\c=.int k b::f/\ji ks e f (d&&decide (a=b))=some r:=by
 cases l with
 | nil=>simp[ji] at h
 | cons v l =>
  cases c with
  | nil=>cases v<;>simp[ji] at h
  | cons j c =>
   cases v<;>cases j<;>try (simp[ji] at h;done)
   rename_i k a n b;simp only[ji] at h;split at h
   ·rename_i m;have:=AA m;subst this;exact⟨k,a,l,b,c,rfl,rfl,h⟩
   ·cases h
theorem xO {ks:List Bool}{l c:List Value}{d r:Bool}(h:ji (false::ks) l c d=some r):∃a e b f,l=.bool a::e/\c=.bool b::f/\ji ks e f (d&&decide (a=b))=some r:=by
 cases l with
 | nil=>simp[ji] at h
 | cons v l =>
  cases c with
  | nil=>cases v<;>simp[ji] at h
  | cons j c =>
   cases v<;>cases j<;>try (simp[ji] at h;done)
   rename_i a b;simp only[ji] at h;exact⟨a,l,b,c,rfl,rfl,h⟩
theorem Dg (k:IntKind):qi k k=true:=by cases k<;>rfl
theorem JZ:∀{ks:List Bool}{l f:List Value}{d r:Bool},ji ks l f d=some r->∃e,(∀c,ji ks l f c=some (c&&e))/\r=(d&&e):=by
 intro ks
 induction ks with
 | nil =>
  intro l f d r h;obtain⟨rfl,rfl,rfl⟩:=Df h;exact⟨true,fun c=>by simp[ji],by simp⟩
 | cons k ks m =>
  intro l f d r h;cases k with
  | true =>
   obtain⟨k,a,p,b,n,rfl,rfl,j⟩:=AB h;obtain⟨e,h1,h2⟩:=m j;exact⟨decide (a=b)&&e,fun c=>by simp only[ji,Dg,h1,Bool.and_assoc],by rw[h2,Bool.and_assoc]⟩
  | false =>
   obtain⟨a,p,b,n,rfl,rfl,j⟩:=xO h;obtain⟨e,h1,h2⟩:=m j;exact⟨decide (a=b)&&e,fun c=>by simp only[ji,h1,Bool.and_assoc],by rw[h2,Bool.and_assoc]⟩
theorem xP {t:TypeId}{d:TypeDesc}(b:P.underlying t=some d) (hd:fj d=false) {cs:Array Value}{off:Nat}{v:Value}(h:cs[off]?=some v):(part t cs off).run P w=.ok v w:=by
 simp only[part,Sem.run_bind,Az b,Result.andThen_ok,hd,aa5,abS,h,Sem.run_pure]
theorem tE {d:Nat}{xs ys:Array Value}:∀{fs:List Field}{k:Nat}{ks:List Bool}{b:Bool},oS P fs k=some ks->ji ks (xs.toList.drop k) (ys.toList.drop k) true=some b->(Op.eqFields (d+1) xs ys fs).run P w=.ok b w
 | [],k,ks,b,h,he=>by
  simp only[oS,aaO] at h;subst h;obtain⟨_,_,rfl⟩:=Df he;simp[Op.eqFields]
 | f::fs,k,ks,b,h,he=>by
  have hcons:∀{zs:Array Value}{v:Value}{l:List Value},zs.toList.drop k=v::l->zs[k]?=some v/\zs.toList.drop (k+1)=l:=by
   intro zs v l e;refine⟨?_,?_⟩
   ·have:=vz (fun q=>q[0]?) e;simp only[abE,Nat.add_zero,aa4] at this;simpa using this
   ·rw[<-List.drop_drop,e];rfl
  have fin:∀{u v:Value}{l l':List Value}{ks':List Bool}{r:Bool}{dd:TypeDesc},P.underlying f.type=some dd->fj dd=false->f.offset=k->f.name≠"_"->xs.toList.drop k=u::l->ys.toList.drop k=v::l'->(Op.equalIn (d+1) f.type u v).run P w=.ok r w ->
    oS P fs (k+1)=some ks'->ji ks' l l' r=some b->(Op.eqFields (d+1) xs ys (f::fs)).run P w=.ok b w:=by
   intro u v l l' ks' r dd hu hag ho hnm e1 e2 heq hfl hev;obtain⟨a1,a2⟩:=hcons e1;obtain⟨b1,b2⟩:=hcons e2;simp only[Op.eqFields];rw[fo hnm];simp only[Sem.run_bind,ho,xP hu hag a1,xP hu hag b1,Result.andThen_ok,heq];obtain⟨r0,q1,q2⟩:=JZ hev;cases r with
   | false =>
    simp only[aaY] at q2;subst q2;simp
   | true =>
    simp only[aaW] at q2;subst q2;simp only[Bool.not_true,aa5,abS];exact tE hfl (by rw[a2,b2];simpa using q1 true)
  simp only[oS] at h;split at h
  ·rename_i ki hoff hnm hu;split at h
   case h_2=>cases h
   rename_i ks' hks;injection h with h
   subst h;have hoff:=aaR hoff;have hnm:=abR hnm;obtain⟨k1,x,l1,y,l2,e1,e2,he⟩:=AB he;exact fin hu rfl hoff hnm e1 e2 (run_equalIn_int w d f.type k1 _ x y hu) hks (by rw[show(x == y)=decide (x=y) from rfl];simpa using he)
  ·rename_i hoff hnm hu;split at h
   case h_2=>cases h
   rename_i ks' hks;injection h with h
   subst h;have hoff:=aaR hoff;have hnm:=abR hnm;obtain⟨x,l1,y,l2,e1,e2,he⟩:=xO he;have hb:(x == y)=decide (x=y):=by cases x<;>cases y<;>rfl
   exact fin hu rfl hoff hnm e1 e2 (run_equalIn_bool' w d f.type x y hu) hks (by rw[hb];simpa using he)
  ·cases h
theorem J0 {t t':TypeId}{l:Array Field}{neg:Bool}{ks:List Bool}{y z:Operand}{u z':X}(hs:St F L w) (he:aC L ρ a) (hd:∀k,o.dst=some k->k<a.tmps.size)
  (ho:o.op=.binOp (if neg then .neq else .eql) t y z t') (n:P.underlying t=some (.struct l)) (hk:oS P l.toList 0=some ks) (hp:P.stoodInHeld t=false) (s:P.eqGuardType P.depth t=false) (hy:bM y=some u) (hz:bM z=some z')
  (c:evalOp P (.eqA neg ks u z') o.dst F L ρ K):o.wp P a w (bF F L w a K) Q:=by
 have q:=aH hy he;have p:=aH hz he;simp only[evalOp,aK] at c;split at c
 case h_2=>exact c.elim
 rename_i cs ds j h;split at c
 case h_2=>exact c.elim
 rename_i b hb;have r:=cR (L:=L) j;have m:=cR (L:=L) h;have e:P.fieldsOf t=l:=by simp only[Program.fieldsOf,n]
 have f:(Op.equalIn 10000 t (.agg cs) (.agg ds)).run P w=.ok b w:=by
  rw[show(10000:Nat)=9999+1 from rfl,run_equalIn_agg w 9999 t cs ds (by rw[e];exact n) hp,e];exact tE (d:=9998) hk (by simpa using hb)
 refine bX hs he hd (v:=.bool (tq neg b)) (x:=.v (.bool (tq neg b))) ?_ rfl cB eZ c;cases neg
 ·simp only[execOp,ho,q,p,r,m,Sem.run_bind,run_eqGuard_agg w _ t y z cs ds s,Result.andThen_ok];simp[run_eql_struct,f,tq]
 ·simp only[execOp,ho,q,p,r,m,Sem.run_bind,run_eqGuard_agg w _ t y z cs ds s,Result.andThen_ok];simp[run_neq_struct,f,tq]
end
section
variable {P:Program}{F:aA}{L:Loc}{ρ:Env}{a:Act}{w:World}{K:dI}{o:Oper}{Q:Exit->Act->World->Prop}
theorem Ul {t:TypeId}{op:UnOp}{y:Operand}{j:X}(f:St F L w) (he:aC L ρ a) (hd:∀k,o.dst=some k->k<a.tmps.size)
  (h:o.op=.unOp op t y) (l:bM y=some j) (d:evalOp P (.un op j) o.dst F L ρ K):o.wp P a w (bF F L w a K) Q:=by
 have e:=aH l he;simp only[evalOp,aK] at d;split at d
 ·rename_i b c;refine bX f he hd (v:=.bool (!b)) (x:=.v (.bool (!b))) ?_ rfl cB eZ d;simp[execOp,h,e,cR c,Op.unary]
 ·rename_i k n c;obtain⟨d⟩:=d;refine bX f he hd (v:=.int k (k.wrap (0-n))) (x:=.v (.int k (k.wrap (0-n)))) ?_ rfl cB eZ d;simp[execOp,h,e,cR c,Op.unary,Op.intArith]
 ·rename_i k n c;refine bX f he hd ?_ rfl cB eZ d;simp[execOp,h,e,cR c,Op.unary,Op.intBits];rfl
 ·exact d.elim
theorem Nd {s t:TypeId}{k k0:IntKind}{y:Operand}{d:X}(h:St F L w) (he:aC L ρ a) (hd:∀k,o.dst=some k->k<a.tmps.size)
  (j:o.op=.convert s t y) (h1:P.underlying s=some (.int k0)) (h2:P.underlying t=some (.int k)) (f:bM y=some d) (b:evalOp P (.conv k d) o.dst F L ρ K):o.wp P a w (bF F L w a K) Q:=by
 have e:=aH f he;simp only[evalOp,aK] at b;split at b
 ·rename_i k1 n c;obtain⟨b⟩:=b;refine bX h he hd (v:=.int k (k.wrap n)) (x:=.v (.int k (k.wrap n))) ?_ rfl cB eZ b;simp[execOp,j,e,cR c,convert,run_underlying h1,run_underlying h2,Conv.intToInt]
 ·exact b.elim
theorem Nf {f:FuncId}{e d:Array Operand}{c b:List X}(l:St F L w) (he:aC L ρ a) (hd:∀k,o.dst=some k->k<a.tmps.size)
  (n:o.op=.makeFunc (.func f) e d) (h1:gL e.toList=some c) (h2:gL d.toList=some b) (h:evalOp P (.mkfn f c b) o.dst F L ρ K):o.wp P a w (bF F L w a K) Q:=by
 have j:e.map a.eval=(bn L ρ c).toArray:=by apply Array.ext';simpa using gN h1 he
 have m:d.map a.eval=(bn L ρ b).toArray:=by apply Array.ext';simpa using gN h2 he
 refine bX l he hd ?_ rfl cB eZ h;simp[execOp,n,Instr.makeFunc,j,m];rfl
theorem Ng {i:Nat}{y:Operand}{d:X}(j:St F L w) (he:aC L ρ a) (hd:∀k,o.dst=some k->k<a.tmps.size)
  (l:o.op=.extract y i) (h:bM y=some d) (b:evalOp P (.extr d i) o.dst F L ρ K):o.wp P a w (bF F L w a K) Q:=by
 have f:=aH h he;simp only[evalOp,aK] at b;split at b
 case h_2=>exact b.elim
 rename_i e c;split at b
 case h_2=>exact b.elim
 rename_i v m;refine bX j he hd (v:=v) (x:=.v v) ?_ rfl cB eZ b;have:e[i]?=some v:=by simpa using m
 simp[execOp,l,f,cR c,Instr.extract,this]
theorem Ik {t f:Nat}{y:Operand}{q:X}{z:Array Field}{h:Field}{i:TypeInfo}(s:St F L w) (he:aC L ρ a) (hd:∀k,o.dst=some k->k<a.tmps.size)
  (ho:o.op=.fieldAddr t y f) (ht:P.underlying t=some (.struct z)) (hf:z[f]?=some h) (hi:P.info? h.type=some i) (l:i.size≠0) (n:bM y=some q)
  (m:evalOp P (.fieldA h.offset q) o.dst F L ρ K):o.wp P a w (bF F L w a K) Q:=by
 have ey:=aH n he;have run:∀d:Addr,val L ρ q=.pointer (some d)->(execOp a.eval o).run P w=.ok (.value (.pointer (some (d.add h.offset)))) w:=by
  intro d hv;simp[execOp,ho,ey,hv,Instr.fieldAt,run_underlying ht,hf,Instr.sureAddr,fieldPlace,sizeOf,typeInfo,hi,l]
 simp only[evalOp,aK] at m;split at m
 ·rename_i k off c;obtain⟨g,ty,cs,p⟩:=qk n he c;refine bX s he hd (v:=.pointer (some ⟨g,off+h.offset,none⟩)) (x:=.own k (off+h.offset)) ?_ (by simp only[conc,p]) (fun k' u e=>by injection e with e1 e2;subst e1;exact⟨g,ty,cs,p⟩) (fun _ _ e=>by cases e) m;rw[run ⟨g,off,none⟩ (by simp only[val,c,conc,p]),dw]
 ·rename_i d j c;have l:=qX n he c;cases d with
  | none=>exact vv rfl l
  | some d =>
   refine bX s he hd (v:=.pointer (some (d.add (j+h.offset)))) (x:=.el (some d) (j+h.offset)) ?_ rfl (fun _ _ e=>by cases e) (fun r j' e=>by injection e with e1 e2;subst e1;simp) m;rw[run (d.add j) (by simp only[val,c,conc])];congr 4;obtain⟨b,o',sp⟩:=d;unfold Addr.add
   by_cases h1:j=0<;>by_cases h2:h.offset=0<;>simp[h1,h2,Nat.add_assoc]
 ·rename_i d c;refine bX s he hd (v:=.pointer (some (d.add h.offset))) (x:=.el (some d) h.offset) ?_ rfl (fun _ _ e=>by cases e) (fun r j' e=>by injection e with e1 e2;subst e1;simp) m;rw[run d (cR c)]
 ·exact m.elim
theorem Nh {t e:TypeId}{y z:Operand}{m p:X}{i:TypeInfo}(hs:St F L w) (he:aC L ρ a) (hd:∀k,o.dst=some k->k<a.tmps.size)
  (ho:o.op=.indexAddr t y z) (r:P.underlying t=some (.slice e)) (hi:P.info? e=some i) (q:bM y=some m) (s:bM z=some p)
  (b:evalOp P (.idxA i.size m p) o.dst F L ρ K):o.wp P a w (bF F L w a K) Q:=by
 have ey:=aH q he;have u:=aH s he;simp only[evalOp,aK] at b;split at b
 case h_2=>exact b.elim
 rename_i d n c k j l h;obtain⟨f,h1,h2,b⟩:=b;cases d with
 | none=>exact vv rfl f
 | some d =>
  refine bX hs he hd (v:=.pointer (some (d.add (j.toNat*i.size)))) (x:=.el (some d) (j.toNat*i.size)) ?_ rfl (fun _ _ e=>by cases e) (fun ac j' e=>by injection e with e1 e2;subst e1;simp) b;simp[execOp,ho,ey,u,cR l,cR h,Instr.indexAt,asIntOf,run_underlying r,h1,h2,sizeOf,typeInfo,hi]
theorem Sc {t e:TypeId}{y:Operand}{h:X}{c:Call}(r:St F L w) (he:aC L ρ a) (hd:∀k,o.dst=some k->k<a.tmps.size)
  (s:o.op=.call c) (q:c.callee=.builtin .len) (p:c.args=#[y]) (f:c.argTypes=#[t]) (l:P.underlying t=some (.slice e)) (j:bM y=some h)
  (b:evalOp P (.len h) o.dst F L ρ K):o.wp P a w (bF F L w a K) Q:=by
 have m:=aH j he;simp only[evalOp,aK] at b;split at b
 ·rename_i u n z d;refine bX r he hd (v:=.int .i64 n) (x:=.v (.int .i64 n)) ?_ rfl cB eZ b;simp[execOp,s,resolve,q,p,f,invoke,builtin,Builtin.len_,m,cR d,run_underlying l,goInt]
 ·exact b.elim
theorem J1 {L:Loc}{ρ:Env}:∀{xs:List X},bn L ρ xs=(xs.map (ev ρ)).map (conc L)
 | []=>rfl
 | _::xs=>by simp[bn,val,J1 (xs:=xs)]
theorem Se (mx:Bool) (k:IntKind):∀(l:List SV) (a0 m:Int),QR mx a0 l=some m ->
  ((l.map (conc L)).foldlM (if mx then Builtin.max2 else Builtin.min2) (.int k a0)).run P w=.ok (.int k m) w:=by
 intro l
 induction l with
 | nil=>intro a0 m h;simp only[QR,aaO] at h;subst h;rfl
 | cons x l d =>
  intro a0 m h;unfold QR at h;split at h
  ·rename_i c;cases c
  ·rename_i f b e c;injection c with h1 h2
   subst h1 h2;have:=d _ _ h;cases mx
   ·simp only[aaZ,List.foldlM_cons,conc,Sem.run_bind];simp only[aa5,abS] at this ⊢;simp only[Builtin.min2,Sem.run_pure,Result.andThen_ok];exact this
   ·simp only[aaZ,List.foldlM_cons,conc,Sem.run_bind];simp only[abm] at this ⊢;simp only[Builtin.max2,Sem.run_pure,Result.andThen_ok];exact this
  ·cases h
theorem QT {mx:Bool}{c:Call}{xs:List X}(n:St F L w) (he:aC L ρ a) (hd:∀k,o.dst=some k->k<a.tmps.size)
  (h:o.op=.call c) (e:c.callee=.builtin (if mx then .max else .min)) (j:gL c.args.toList=some xs)
  (d:evalOp P (.mm mx xs) o.dst F L ρ K):o.wp P a w (bF F L w a K) Q:=by
 have b:=gN j he;rw[J1] at b;simp only[evalOp,aK] at d;split at d
 case h_2=>exact d.elim
 rename_i k a0 l q;split at d
 case h_2=>exact d.elim
 rename_i m p;rw[q] at b;have f:=Se (P:=P) (L:=L) (w:=w) mx k l a0 m p;refine bX n he hd (v:=.int k m) (x:=.v (.int k m)) ?_ rfl cB eZ d;cases mx
 ·simp only[aa5,abS] at e f;simp only[execOp,h,resolve,e,invoke,builtin,Builtin.min_,Sem.run_bind,Sem.run_pure,Result.andThen_ok,Array.toList_map,b,aaZ,conc,f]
 ·simp only[abm] at e f;simp only[execOp,h,resolve,e,invoke,builtin,Builtin.max_,Sem.run_bind,Sem.run_pure,Result.andThen_ok,Array.toList_map,b,aaZ,conc,f]
theorem Ni {t:TypeId}{d:TypeDesc}{y:Operand}{m:X}(n:St F L w) (he:aC L ρ a) (hd:∀k,o.dst=some k->k<a.tmps.size)
  (p:o.op=.makeInterface t y) (f:P.underlying t=some d) (e:∀r,d≠.interface r) (q:bM y=some m) (c:evalOp P (.mkif t m) o.dst F L ρ K):o.wp P a w (bF F L w a K) Q:=by
 have l:=aH q he;simp only[evalOp,aK] at c;split at c
 ·rename_i v b;refine bX n he hd (v:=.iface t v) (x:=.v (.iface t v)) ?_ rfl cB eZ c;simp only[execOp,p,l,cR b,Instr.makeInterface];simp only[Sem.run_bind,Sem.run_map,run_underlying f,Result.andThen_ok];cases d<;>first | exact vv rfl (e _) | simp
 ·rename_i h j b;refine bX n he hd (v:=.iface t (.pointer (some (h.add j)))) (x:=.v (.iface t (.pointer (some (h.add j))))) ?_ rfl cB eZ c;simp only[execOp,p,l,val,b,conc,Instr.makeInterface];simp only[Sem.run_bind,Sem.run_map,run_underlying f,Result.andThen_ok];cases d<;>first | exact vv rfl (e _) | simp
 ·exact c.elim
theorem Sf {t r:TypeId}{d:TypeDesc}{i:TypeInfo}{z:Value}{y:Operand}{p:X}(l:St F L w) (he:aC L ρ a) (hd:∀k,o.dst=some k->k<a.tmps.size)
  (m:o.op=.typeAssert y r t true) (h:P.underlying t=some d) (f:∀s,d≠.interface s) (hi:P.info? t=some i) (n:i.zero=some z) (q:bM y=some p) (c:evalOp P (.tas t z p) o.dst F L ρ K):o.wp P a w (bF F L w a K) Q:=by
 have j:=aH q he;simp only[evalOp,aK] at c;split at c
 ·rename_i b;refine bX l he hd (v:=.tuple #[z,.bool false]) (x:=.v (.tuple #[z,.bool false])) ?_ rfl cB eZ c;simp only[execOp,m,j,cR b,Instr.typeAssert];simp only[Sem.run_bind,Sem.run_map,run_underlying h,Result.andThen_ok];cases d<;>first | exact vv rfl (f _) | simp[zeroValue,typeInfo,hi,n]
 ·rename_i t' u b;split at c
  ·rename_i hb;have hb:=aaR hb;refine bX l he hd (v:=.tuple #[u,.bool true]) (x:=.v (.tuple #[u,.bool true])) ?_ rfl cB eZ c;simp only[execOp,m,j,cR b,Instr.typeAssert];simp only[Sem.run_bind,Sem.run_map,run_underlying h,Result.andThen_ok];cases d<;>first | exact vv rfl (f _) | simp[hb]
  ·rename_i hb;have hb:t'≠t:=fun e=>by rw[e,Nat.beq_refl] at hb;cases hb
   refine bX l he hd (v:=.tuple #[z,.bool false]) (x:=.v (.tuple #[z,.bool false])) ?_ rfl cB eZ c;simp only[execOp,m,j,cR b,Instr.typeAssert];simp only[Sem.run_bind,Sem.run_map,run_underlying h,Result.andThen_ok];cases d<;>first | exact vv rfl (f _) | simp[zeroValue,typeInfo,hi,n,hb]
 ·exact c.elim
theorem GA:∀{l:List (TypeId×String)}{t:TypeId}{b:String},Uj l t b=true->(t,b)∈l
 | [],_,_,h=>by cases h
 | (t,b)::l,d,c,h=>by
  simp only[Uj] at h;split at h
  ·rename_i h1 h2;rw[<-aaR h1,<-abu h2];exact List.mem_cons_self ..
  ·exact abk _ (GA h)
theorem AE {t:TypeId}{k:String}{f:FuncId}(h:tj P t k=some f):∃i m b d,P.info? t=some i/\i.methods.find? (·.name == k)=some m/\m.path.toList=[]/\m.func=some (f,b)/\P.underlying t=some d /\
  ((∃e,d=.pointer e/\b=true)\/((∀e,d≠.pointer e)/\b=false)):=by
 simp only[tj] at h;split at h
 case h_2=>cases h
 rename_i i hi;split at h
 case h_2=>cases h
 rename_i m l;split at h
 case h_2=>cases h
 rename_i p b n hf;split at h
 ·rename_i e c;injection h with h;subst h
  exact⟨i,m,_,_,hi,l,n,hf,c,.inl ⟨_,rfl,rfl⟩⟩
 ·cases h
 ·rename_i d j c;injection h with h;subst h
  exact⟨i,m,_,_,hi,l,n,hf,c,.inr ⟨fun e he=>j e he,rfl⟩⟩
 ·cases h
theorem AF (P:Program):∃n,P.types.size+Made.depth=n+1:=⟨P.types.size+99,by simp[Made.depth]⟩
theorem Il {t:TypeId}{b:String}{f:FuncId}(h:tj P t b=some f) (v:Value) (w:World):(method (P.types.size+Made.depth) t v b).run P w=.ok (f,v) w:=by
 obtain⟨i,m,j,d,h1,h2,h3,h4,h5,h6⟩:=AE h;obtain⟨n,c⟩:=AF P;rw[c];simp only[method,Sem.run_bind,typeInfo,run_program,Result.andThen_ok,h1,Sem.run_pure,h2,h3,follow,h4,receiverAt,run_underlying h5];rcases h6 with⟨e,rfl,rfl⟩ | ⟨h6,rfl⟩
 ·simp only[Place.get,Sem.run_pure,Result.andThen_ok]
 ·cases d<;>first | exact vv rfl (h6 _) | simp only[Place.get,Sem.run_pure,Result.andThen_ok]
theorem Im {t:TypeId}{b:String}{f:FuncId}(h:tj P t b=some f) (v:Value) (w:World):(nilAhead (P.types.size+Made.depth) t v b).run P w=.ok (some false) w:=by
 obtain⟨i,m,j,d,h1,h2,h3,h4,h5,h6⟩:=AE h;obtain⟨n,c⟩:=AF P;rw[c];simp only[nilAhead,Sem.run_bind,typeInfo,run_program,Result.andThen_ok,h1,Sem.run_pure,h2,h3,followBlind,h4];rcases h6 with⟨e,rfl,rfl⟩ | ⟨h6,rfl⟩
 ·rfl
 ·simp only[Sem.run_bind,run_underlying h5,Result.andThen_ok];cases d<;>first | exact vv rfl (h6 _) | rfl
theorem Nj {t:TypeId}{b:String}{e d:Array Operand}(j:St F L w) (he:aC L ρ a) (hd:∀k,o.dst=some k->k<a.tmps.size)
  (m:o.op=.makeFunc (.methodOf t b) e d) (h1:e.toList=[]) (h2:d.toList=[]) (f:evalOp P (.mov (.c (.func (.methodOf t b) #[] #[]))) o.dst F L ρ K):o.wp P a w (bF F L w a K) Q:=by
 have h:e=#[]:=by apply Array.ext';exact h1
 have l:d=#[]:=by apply Array.ext';exact h2
 refine bX j he hd (v:=.func (.methodOf t b) #[] #[]) (x:=.v (.func (.methodOf t b) #[] #[])) ?_ rfl cB eZ f;simp[execOp,m,Instr.makeFunc,h,l]
theorem Dh {t:TypeId}{g k:Nat}{d:TypeDesc}{i:TypeInfo}(l:St F L w) (he:aC L ρ a) (hd:∀k,o.dst=some k->k<a.tmps.size)
  (r:o.op=.load t (.global g)) (p:P.underlying t=some d) (hi:P.info? t=some i) (c:fj d=false) (y:wQ g=some k) (e:evalOp P (.gload g) o.dst F L ρ K):o.wp P a w (bF F L w a K) Q:=by
 simp only[evalOp,aK] at e;obtain⟨v,ty,fr,q,e⟩:=e;have s:=l.frz _ _ q;refine bX l he hd (v:=v) (x:=.v v) ?_ rfl cB eZ e;have m:a.eval (.global g)=.pointer (some ⟨g,0,none⟩):=rfl;have b:∀(j:Nat) (u:Value),[v][j]?=some u->w.cell? ((⟨g,0,none⟩:Addr).add j)=some u:=by
  intro j u f;cases j with
  | zero =>
   simp only[aa4,aaO] at f;subst f;rw[dw];simp[World.cell?,s]
  | succ j=>simp at f
 have h:=oW p hi b (n:=1) rfl (by rw[c]);rw[c] at h;simp only[execOp,r,m,Sem.run_bind,h,Result.andThen_ok,Sem.run_pure,iD]
theorem J2 {y:Operand}{y':X}(q:St F L w) (he:aC L ρ a) (hd:∀k,o.dst=some k->k<a.tmps.size)
  (r:o.op=.nilCheck y) (hy:bM y=some y') (n:QL P=true) (c:evalOp P (.nilck y') o.dst F L ρ K):o.wp P a w (bF F L w a K) Q:=by
 have m:=aH hy he;simp only[evalOp,aK] at c;split at c
 ·rename_i k off b;obtain⟨g,ty,cs,z⟩:=qk hy he b;refine bX q he hd (v:=.pointer (some ⟨g,off,none⟩)) (x:=.own k off) ?_ (by simp only[conc,z]) (fun k' ae e=>by injection e with e1 e2;subst e1;exact⟨g,ty,cs,z⟩) (fun _ _ e=>by cases e) c;simp[execOp,r,m,val,b,conc,z]
 ·rename_i d j b;obtain⟨s,c⟩:=c;cases d with
  | none=>exact vv rfl s
  | some d =>
   refine bX q he hd (v:=.pointer (some (d.add j))) (x:=.el (some d) j) ?_ rfl (fun _ _ e=>by cases e) (fun an j' e=>by injection e with e1 e2;subst e1;simp) c;simp[execOp,r,m,val,b,conc]
 ·rename_i d b;refine bX q he hd (v:=.pointer (some d)) (x:=.v (.pointer (some d))) ?_ rfl cB eZ c;simp[execOp,r,m,cR b]
 ·rename_i f h p b;refine bX q he hd (v:=.func (.func f) h p) (x:=.v (.func (.func f) h p)) ?_ rfl cB eZ c;simp[execOp,r,m,cR b]
 ·rename_i nm h p b;split at c
  case h_2=>exact c.elim
  rename_i t u aa;obtain⟨hm,c⟩:=c;have h1:=aa1.1 n _ (GA hm);obtain⟨f,hf⟩:=Option.isSome_iff_exists.1 h1;have l:h[0]?=some (.iface t u):=by rw[<-Array.getElem?_toList,aa];rfl
  refine bX q he hd (v:=.func (.method nm) h p) (x:=.v (.func (.method nm) h p)) ?_ rfl cB eZ c;have hn:=Im (P:=P) hf u w;simp only[execOp,r,m,cR b,l,Sem.run_bind,run_program,Result.andThen_ok,Sem.run_pure,hn];rfl
 ·exact c.elim
theorem Di:∀{l:List Value},kg l=true->∀u∈l,u.oneCell'=true
 | [],_,u,b=>by cases b
 | v::l,h,u,b=>by
  simp only[kg] at h;split at h
  ·rename_i h1;rcases aaX.1 b with rfl | b
   ·exact h1
   ·exact Di h u b
  ·cases h
theorem Dj {t:TypeId}{i:TypeInfo}(hi:P.info? t=some i) {g off:Nat}{v:Value}{b:Array Value}{ty:TypeId}(f:w.heap[g]?=some (.cells b ty (0,0)))
  (e:v.cells.size=i.size) (d:off+v.cells.size<=b.size) (h1:∀u∈v.cells.toList,u.oneCell'=true) :
  (Instr.storeAt t (.pointer (some ⟨g,off,none⟩)) v).run P w=.ok () (w.setRow g (bV b.toList off v.cells.toList).toArray):=by
 have c:=run_storeCells_at P g off ty v.cells.toList 0 b w f (by simpa using d) h1;simp only[Nat.add_zero] at c;simp only[Instr.storeAt,Instr.sureAddr,storeVar,Sem.run_bind,Sem.run_pure,Result.andThen_ok,sizeOf,typeInfo,run_program,hi];rw[o5 (by omega)];rw[c];rfl
theorem tF (w:World) (g:Nat) (cs:Array Value):w.grownBy (w.setRow g cs) (some g) :=
 ⟨rfl,rfl,rfl,by simp[World.setRow],fun k _ b=>setRow_other w g k cs (fun e=>b (by rw[e]))⟩
theorem J3 {t:TypeId}{y z:Operand}{y' z':X}{i:TypeInfo}(hs:St F L w) (he:aC L ρ a) (hd:∀k,o.dst=some k->k<a.tmps.size)
  (ho:o.op=.store t y z) (hi:P.info? t=some i) (cb:i.size≠0) (hy:bM y=some y') (hz:bM z=some z')
  (p:evalOp P (.store i.size y' z') o.dst F L ρ K):o.wp P a w (bF F L w a K) Q:=by
 have ey:=aH hy he;have ez:=aH hz he;have am:aM (val L ρ z')=(a.eval z).cells.toList:=by rw[ez,nU]
 have turn:∀(k:Nat) (g:Nat) (oo o':Own) (f:Array Value) (ty:TypeId) (off:Nat),L.get k=some oo->oo.blk=some g->o'.blk=some g->w.heap[g]?=some (.cells f ty (0,0)) ->
   (a.eval z).cells.size=i.size->off+(a.eval z).cells.size<=f.size->(∀u∈(a.eval z).cells.toList,u.oneCell'=true)->a.eval y=.pointer (some ⟨g,off,none⟩) ->
   o'.ok (w.setRow g (bV f.toList off (a.eval z).cells.toList).toArray)->(∀g' ty' cs',oo=.box g' ty' cs'->∃ab,o'=.box g' ty' ab) ->
   K F (L.set k o') (put o.dst (.v undef) ρ)->o.wp P a w (bF F L w a K) Q:=by
  intro k g oo o' f ty off hk hb bi hg bc d h1 an bu r p;have q:=tF w g (bV f.toList off (a.eval z).cells.toList).toArray;have bp:St F (L.set k o') (w.setRow g (bV f.toList off (a.eval z).cells.toList).toArray) :=
   hs.turn hk bu (fun b al bb=>q.block b al (fun e=>bb (by rw[hb,e]))) (fun g' be=>.inl (by rw[hb];rw[bi] at be;exact be))
  refine Db he hd (w':=w.setRow g (bV f.toList off (a.eval z).cells.toList).toArray) ?_ bp ?_ ?_ p
  ·simp[execOp,ho,an,Dj hi hg bc d h1]
  ·refine⟨aA.le_refl F,rfl,rfl,rfl,q.size,fun b al hn=>q.block b al (fun e=>hn ⟨k,oo,hk,by rw[hb,e]⟩),fun b h=>.inl h,fun b h=>?_⟩;rcases Loc.aan h with h | h
   ·rw[bi] at h;exact .inl ⟨k,oo,hk,by rw[hb];exact h⟩
   ·exact .inl h
  ·intro j g' ty' cs' e;rw[Loc.aac];split
   ·rename_i hj;subst hj;rw[hk] at e;injection e with e
    obtain⟨ab,h⟩:=r g' ty' cs' e;exact⟨ab,by rw[h]⟩
   ·exact⟨cs',e⟩
 have l:∀(ad:Option Addr) (j:Nat),ad≠none->a.eval y=conc L (.el ad j)->iz (aM (val L ρ z')) i.size=true->kg (aM (val L ρ z'))=true ->
   (qW L ad j (aM (val L ρ z')) fun L'=>K F L' (put o.dst (.v undef) ρ))->o.wp P a w (bF F L w a K) Q:=by
  rintro ad j bb an hl h1 ⟨k,v,ty,sz,m,xs,cf,c,hk,rfl,rfl,d,bj,p⟩;have hl:=jN hl;rw[am] at hl bj d p;have ao:(a.eval z).cells.size=i.size:=by simpa using hl
  have s:=hs.own k _ hk;simp only[Own.ok] at s;obtain⟨hx,s⟩:=s;rcases s with⟨e,_⟩ | ⟨g,cap,f,e,bo,hg,ba,bv,ag,ae⟩
  ·cases e
  ·injection e with e1 e2 e3
   injection e1 with e1
   subst e1 e3;have ce:m*sz<=f.size:=by rw[ag];exact Nat.mul_le_mul_right _ ba
   rw[<-ae] at d;have av:j+(a.eval z).cells.size<=m*sz:=by simp at d;omega
   refine turn k g _ (.row (.slice (some ⟨g,0,none⟩) m c) ty sz m (bV xs j (a.eval z).cells.toList)) f ty j hk rfl rfl hg ao (by omega) bj (by rw[an];simp only[conc];rw[dw];simp) ?_ (fun g' ty' cs' e=>by cases e) p;refine⟨?_,.inr ⟨g,c,_,rfl,bo,setRow_heap w g f _ ty _ hg,ba,bv,?_,?_⟩⟩
   ·rw[kP _ _ _ (by rw[hx];simpa using av)];exact hx
   ·have:(bV f.toList j (a.eval z).cells.toList).length=f.size:=by rw[kP _ _ _ (by simp;omega)];simp
    simp[this,ag]
   ·rw[List.toList_toArray,<-ae];apply abP;intro n;have bt:j+(a.eval z).cells.toList.length<=f.toList.length:=by simp;omega
    rw[oV (by simp;omega)]
    by_cases hn:n<m*sz
    ·rw[List.getElem?_take_of_lt hn,oV bt,List.getElem?_take_of_lt hn]
    ·rw[abj (by simp;omega)];have h1:¬n<j:=by omega
     have h2:¬n<j+(a.eval z).cells.toList.length:=by simp;omega
     rw[o5 h1,o5 h2,abj (by simp;omega)]
 simp only[evalOp,aK] at p;split at p
 ·rename_i hl h1 x;rename_i k off;have hl:=jN hl;have h1:=Di h1;rw[am] at hl h1;split at p
  case h_2=>exact p.elim
  rename_i g ty cs hk;split at p
  case h_2=>exact p.elim
  rename_i d;have bd:=wS d;have d:=jN (BV d);have r:w.heap[g]?=some (.cells cs.toArray ty (0,0)):=by rw[<-jy bd];exact hs.own k _ hk
  have bm:off+i.size<=cs.length:=by simp at d;omega
  rw[am] at p;have ao:(a.eval z).cells.size=i.size:=by simpa using hl
  refine turn k g _ (.box g ty (bV cs off (a.eval z).cells.toList)) cs.toArray ty off hk rfl rfl r ao (by simp;omega) h1 (by rw[ey];simp only[val,x,conc,hk]) ?_ (fun g' ty' cs' e=>by injection e with e1 e2 e3;subst e1 e2;exact⟨_,rfl⟩) p;show _=_;rw[jy bd];exact setRow_heap w g cs.toArray _ ty _ r
 ·rename_i hl h1 x;exact l _ _ (qX hy he x) (by rw[ey];simp only[val,x]) hl h1 p
 ·rename_i hl h1 x;rename_i ad;refine l (some ad) 0 (by simp) (by rw[ey];simp only[val,x,conc];simp[Addr.add]) hl h1 p
 ·exact p.elim
end
section
variable {P:Program}(w:World)
end
section
variable {P:Program}{F:aA}{L:Loc}{ρ:Env}{a:Act}{w:World}{K:dI}{o:Oper}{Q:Exit->Act->World->Prop}
theorem AG {b:Option Operand}{c:Option X}(h:tw b=some c) (he:aC L ρ a) {d i:Int}(hi:nR ρ d c=some i) :
  (b=none/\i=d)\/∃y k,b=some y/\a.eval y=.int k i:=by
 cases b with
 | none=>simp only[tw,aaO] at h;subst h;simp only[nR,aaO] at hi;exact .inl ⟨rfl,hi.symm⟩
 | some y =>
  simp only[tw] at h;split at h
  case h_2=>cases h
  rename_i x f;injection h with h
  subst h;simp only[nR] at hi;split at hi
  case h_2=>cases hi
  rename_i k j e;injection hi with hi
  subst hi;exact .inr ⟨y,k,rfl,by rw[aH f he,cR e]⟩
theorem jO {k:IntKind}{i:Int}{y:Nat}{code:BoundsCode}(h0:0<=i) (h1:i<=y):(Instr.sliceBound (.int k i) y code).run P w=.ok i.toNat w:=by
 simp[Instr.sliceBound,asIntOf,h0,h1]
theorem wG {b:Bool}{n c:Nat}{lo hi:Option Operand}{e d:Option X}{l h:Int}(m:tw lo=some e) (q:tw hi=some d) (he:aC L ρ a)
  (el:nR ρ 0 e=some l) (p:nR ρ n d=some h) (h1:0<=l) (h2:l<=h) (h3:h<=c) :
  (Instr.sliceBounds b n c (lo.map a.eval) (hi.map a.eval) none).run P w=.ok (l.toNat,h.toNat,c) w:=by
 unfold Instr.sliceBounds;rcases AG m he el with⟨rfl,rfl⟩ | ⟨y,k,rfl,j⟩<;>rcases AG q he p with⟨rfl,rfl⟩ | ⟨z,r,rfl,f⟩
 ·simp
 ·simp[f,jO (P:=P) (w:=w) (show 0<=h by omega) h3]
 ·simp[j,jO (P:=P) (w:=w) h1 h2]
 ·have h4:l<=(h.toNat:Nat):=by omega
  simp[j,f,jO (P:=P) (w:=w) (show 0<=h by omega) h3,jO (P:=P) (w:=w) h1 h4]
theorem Sg {t e:TypeId}{y:Operand}{lo up:Option Operand}{q:X}{j f:Option X}{i:TypeInfo}(hs:St F L w) (he:aC L ρ a) (hd:∀k,o.dst=some k->k<a.tmps.size)
  (ho:o.op=.slice t y lo up none) (s:P.underlying t=some (.slice e)) (hi:P.info? e=some i) (r:bM y=some q) (u:tw lo=some j) (hh:tw up=some f)
  (d:evalOp P (.slc i.size q j f) o.dst F L ρ K):o.wp P a w (bF F L w a K) Q:=by
 have z:=aH r he;simp only[evalOp,aK] at d;split at d
 case h_2=>exact d.elim
 rename_i p n c m;split at d
 case h_2=>exact d.elim
 rename_i l h el eh;obtain⟨h1,h2,h3,d⟩:=d;refine bX hs he hd (v:=su p c l.toNat h.toNat i.size) (x:=.v (su p c l.toNat h.toNat i.size)) ?_ rfl cB eZ d;have hb:=wG (P:=P) (w:=w) (b:=true) u hh he el eh h1 h2 h3;simp[execOp,ho,z,cR m,Instr.sliceAt,Instr.slice,run_underlying s,hb,sizeOf,typeInfo,hi,su]
theorem xQ (z:Array Value) (n:Nat) (h:0<z.size):(madeCells z (n*z.size)).toList=(List.replicate n z.toList).flatten:=by
 induction n with
 | zero=>simp[madeCells]
 | succ n c =>
  rw[List.replicate_succ',List.flatten_append,<-c];apply abP;intro j;have e:(madeCells z (n*z.size)).toList.length=n*z.size:=by simp[madeCells]
  have b:∀m j,j<m->(madeCells z m).toList[j]?=some (z[j % z.size]!):=by
   intro m j d;simp[madeCells,d]
  have f:(n+1)*z.size=n*z.size+z.size:=Nat.succ_mul _ _
  by_cases h1:j<n*z.size
  ·rw[abH (by omega),b _ _ (by omega),b _ _ h1]
  ·rw[abI (by omega),e]
   by_cases h2:j<(n+1)*z.size
   ·rw[b _ _ h2];have h3:j-n*z.size<z.size:=by omega
    have h4:j % z.size=j-n*z.size:=by
     have:j=(j-n*z.size)+z.size*n:=by rw[Nat.mul_comm z.size n];omega
     rw[this,Nat.add_mul_mod_self_left,Nat.mod_eq_of_lt h3,Nat.mul_comm z.size n];omega
    simp[h3,h4]
   ·rw[abj (by simp[madeCells];omega),abj (by simp;omega)]
theorem J4 {t e:TypeId}{y z:Operand}{y' z':X}{i:TypeInfo}{b:Value}(hs:St F L w) (he:aC L ρ a) (hd:∀k,o.dst=some k->k<a.tmps.size)
  (ho:o.op=.makeSlice t y z) (ht:P.underlying t=some (.slice e)) (hi:P.info? e=some i) (ae:i.zero=some b) (s:b.cells.size=i.size) (am:0<i.size) (hy:bM y=some y') (hz:bM z=some z')
  (f:evalOp P (.makeS e i.size i.bytes b.cells.toList y' z') o.dst F L ρ K):o.wp P a w (bF F L w a K) Q:=by
 have ey:=aH hy he;have ez:=aH hz he;simp only[evalOp,aK] at f;split at f
 case h_2=>exact f.elim
 rename_i k1 n k2 m k ac aa ar;split at f
 case h_2=>exact f.elim
 rename_i _ hk;obtain⟨h0,p,hb,l,f⟩:=f;have f:=f w.heap.size;obtain⟨r,rfl⟩:=Int.eq_ofNat_of_zero_le h0;obtain⟨q,rfl⟩:=Int.eq_ofNat_of_zero_le (Int.le_trans h0 p);simp only[Int.toNat_natCast] at hb l f;have ad:r<=q:=by omega
 have j:(i.bytes:Int)*(q:Int)<=281474976710656:=by
  have h:((i.bytes*q:Nat):Int)<=281474976710656:=by rw[Nat.mul_comm];omega
  rwa [Int.natCast_mul] at h
 have ag:(q:Int)<=9223372036854775807:=by
  have h:=l;simp[maxLen] at h;omega
 have hr:=run_make (P:=P) w t e i b ht hi ae k1 k2 r q (by omega) p j ag;simp only[Int.toNat_natCast] at hr;have d:=xQ b.cells q (by omega);rw[s] at d;have c:∀m:Nat,(List.replicate m b.cells.toList).flatten.length=m*i.size:=by
  intro m;simp[s]
 have ab:(List.replicate r b.cells.toList).flatten=(List.replicate q b.cells.toList).flatten.take (r*i.size):=by
  have e1:q=r+(q-r):=by omega
  conv=>rhs;rw[e1]
  rw[<-List.replicate_append_replicate,List.flatten_append,List.take_append_of_le_length (by rw[c];exact aa2 _),abz (by rw[c];exact aa2 _)]
 have u:(w.alloc (.cells (madeCells b.cells (q*i.size)) e)).ownsRow 0 e i.size (.slice (some ⟨w.heap.size,0,none⟩) r q) r (List.replicate r b.cells.toList).flatten:=by
  refine⟨c r,.inr ⟨w.heap.size,q,madeCells b.cells (q*i.size),rfl,abd _,iF w _,ad,l,size_madeCells _ _,?_⟩⟩;rw[ab,<-d]
 obtain⟨h1,h2,h3⟩:=kz hs hk (cs:=madeCells b.cells (q*i.size)) (t:=e) (e:=.row (.slice (some ⟨w.heap.size,0,none⟩) r q) e i.size r (List.replicate r b.cells.toList).flatten) rfl u;refine jM he hd (v:=.slice (some ⟨w.heap.size,0,none⟩) r q) (x:=.v (.slice (some ⟨w.heap.size,0,none⟩) r q)) ?_ h1 h2 rfl cB eZ h3 f;simp only[execOp,ho,ey,ez,cR ac,cR aa,Sem.run_bind,hr,Result.andThen_ok,Sem.run_pure]
theorem J5 (x:St F L w) {k:Nat}{e:TypeId}{sz n t:Nat}{s v:Value}{xs f:List Value}{w':World}
  (m:L.get k=some (.row s e sz n xs)\/(L.get k=none/\s=.slice none 0 0)) (p:w'.ownsRow 0 e sz v t f) (d:w.grownBy w' s.ownBlock)
  (q:v.ownBlock=s.ownBlock\/v.ownBlock=some w.heap.size) :
  St F (L.set k (.row v e sz t f)) w'/\Step F L w F (L.set k (.row v e sz t f)) w'/\(∀j g ty cs,L.get j=some (.box g ty cs)->∃cs',(L.set k (.row v e sz t f)).get j=some (.box g ty cs')):=by
 have l:∀j g ty cs,L.get j=some (.box g ty cs)->∃cs',(L.set k (.row v e sz t f)).get j=some (.box g ty cs'):=by
  intro j g ty cs ej;rw[Loc.aac];split
  ·rename_i hj;subst hj;rcases m with h | ⟨h,_⟩<;>rw[h] at ej<;>cases ej
  ·exact⟨cs,ej⟩
 rcases m with u | ⟨u,rfl⟩
 ·refine⟨x.turn u p (fun b hb y=>d.block b hb (fun e=>y (by simpa[Own.blk] using e.symm))) (fun g c=>?_),⟨aA.le_refl F,d.os,d.tape,d.output,d.size,fun b hb hn=>d.block b hb (fun e=>hn ⟨k,_,u,e.symm⟩),fun b h=>.inl h,fun b h=>?_⟩,l⟩
  ·rcases q with h | h
   ·exact .inl (by simp only[Own.blk] at c ⊢;rw[<-h];exact c)
   ·simp only[Own.blk] at c;rw[h] at c;injection c with c;exact .inr (by omega)
  ·rcases Loc.aan h with h | h
   ·simp only[Own.blk] at h;rcases q with r | r
    ·exact .inl ⟨k,_,u,by simp only[Own.blk];rw[<-r];exact h⟩
    ·rw[r] at h;injection h with h;exact .inr (by omega)
   ·exact .inl h
 ·have hv:∀g,v.ownBlock=some g->w.heap.size<=g:=by
   intro g h;rcases q with r | r
   ·rw[r] at h;cases h
   ·rw[r] at h;injection h with h;omega
  have z:St F L w':=x.keep fun b hb=>d.block b hb (by simp[Value.ownBlock]);refine⟨z.put u p fun g c=>⟨?_,fun ho=>?_⟩,⟨aA.le_refl F,d.os,d.tape,d.output,d.size,fun b hb hn=>d.block b hb (by simp[Value.ownBlock]),fun b h=>.inl h,fun b h=>?_⟩,l⟩
  ·cases hF:F g with
   | none=>rfl
   | some _=>have h1:=x.aay (b:=g) (by rw[hF];simp);have h2:=hv g c;omega
  ·have h1:=x.aaB ho;have h2:=hv g c;omega
  ·rcases Loc.aan h with h | h
   ·exact .inr (hv b h)
   ·exact .inl h
theorem Dk {e:TypeId}{sz n:Nat}{v:Value}{xs:List Value}(h:w.ownsRow 0 e sz v n xs):∃a c,v=.slice a n c/\(a=none->n=0):=by
 rcases h.2 with⟨rfl,rfl⟩ | ⟨g,cap,b,rfl,_⟩
 ·exact⟨none,0,rfl,fun _=>rfl⟩
 ·exact⟨_,cap,rfl,fun e=>(by cases e)⟩
theorem sA {t ty e:TypeId}{i:TypeInfo}(h:P.underlying t=some (.slice e)) (hi:P.info? e=some i) {s:Value}{n:Nat}{xs:List Value}(b:w.ownsRow 0 e i.size s n xs) (d:Option Addr) (c:Nat) :
  ∃w',(Builtin.append_ #[t,t] ty #[s,.slice d 0 c]).run P w=.ok s w'/\w'=w:=by
 refine⟨w,?_,rfl⟩;have hf:(Builtin.firstCells i.size 0 (.slice d 0 c)).run P w=.ok #[] w:=by
  cases d<;>simp[Builtin.firstCells,loadCells,loadCellsFrom]
 rcases b.2 with⟨rfl,rfl⟩ | ⟨g,cap,j,rfl,_,_,f,_⟩
 ·simp[Builtin.append_,run_underlying h,sizeOf,typeInfo,hi,Builtin.lenOf,hf]
 ·simp[Builtin.append_,run_underlying h,sizeOf,typeInfo,hi,Builtin.lenOf,hf,f,storeCells]
theorem Sh {t e:TypeId}{y z:Operand}{y' z':X}{i:TypeInfo}{zv:Value}{c:Call}(hs:St F L w) (he:aC L ρ a) (hd:∀k,o.dst=some k->k<a.tmps.size)
  (ho:o.op=.call c) (hc:c.callee=.builtin .append) (ha:c.args=#[y,z]) (cb:c.argTypes=#[t,t]) (ht:P.underlying t=some (.slice e)) (hi:P.info? e=some i) (bz:i.zero=some zv) (bv:zv.cells.size=i.size) (az:0<i.size)
  (hy:bM y=some y') (hz:bM z=some z') (hK:evalOp P (.app e i.size i.bytes zv.cells.toList y' z') o.dst F L ρ K):o.wp P a w (bF F L w a K) Q:=by
 have ey:=aH hy he;have ez:=aH hz he;simp only[evalOp,aK] at hK;split at hK
 case h_2=>exact hK.elim
 rename_i s x bu bm;obtain⟨kd,n,xs,m,f,bi,⟨ad,cx,rfl,ac,bb⟩,h1,cd,bo,hK⟩:=hK;have ar:m≠0->∃d,ad=some d/\∀j u,f[j]?=some u->w.cell? (d.add j)=some u:=by
  intro hm;rcases bb with q | ⟨ao,_⟩ | ⟨k,v,ty,da,m',ys,d,c',hk,rfl,rfl,q⟩
  ·obtain⟨d,r,cf,ae⟩:=q.cell hs;refine⟨d,r,fun j u hu=>?_⟩;have:=ae j u hu
   rwa [Nat.zero_add] at this
  ·exact vv ao hm
  ·refine⟨d,rfl,fun j u hu=>?_⟩;have hr:=hs.own k _ hk;simp only[Own.ok] at hr;have h0:=World.ownsRow.cells hr (g:=d.block) rfl j u (q j u hu);rcases hr.2 with⟨r,_⟩ | ⟨g,cap,aw,r,_⟩
   ·cases r
   ·injection r with e1 e2 e3
    injection e1 with e1
    subst e1;exact h0
 have bk:(L.get kd=some (.row s e i.size n xs)\/(L.get kd=none/\n=0/\xs=[]/\s=.slice none 0 0))\/(L.get kd=none/\∃ad,s=.slice (some ad) n n/\0<m/\xs.length=n*i.size/\(dO F (some ad) 0 xs\/(n=0/\xs=[]))):=by
  rcases bi with h | h | h
  ·exact .inl (.inl h)
  ·exact .inl (.inr h)
  ·exact .inr h
 rcases bk with aE | ⟨bp,ce,rfl,ao,cY,cp⟩
 case inr =>
  obtain⟨d,rfl,p⟩:=ar (by omega);have cM:∀j u,xs[j]?=some u->w.cell? (ce.add j)=some u:=by
   intro j u hu;rcases cp with q | ⟨_,rfl⟩
   ·obtain⟨dx,r,cf,ae⟩:=q.cell hs;injection r with r
    subst r;have:=ae j u hu
    rwa [Nat.zero_add] at this
   ·simp at hu
  obtain⟨v,w',hr,l,hg⟩:=run_append_arg_grows (P:=P) w t o.type e i zv i.size i.bytes ht hi bz rfl rfl bv az ce n n xs cY cM d m cx f ac p (by omega) cd bo;have ab:w'.ownsRow 0 e i.size v (n+m) (xs++f):=by
   refine⟨l.1,?_⟩;rcases l.2 with h | ⟨g,cap,aw,e1,e2,e3⟩
   ·exact .inl h
   ·exact .inr ⟨g,cap,aw,e1,abd _,e3⟩
  have bl:v.ownBlock=none\/(∃g,v.ownBlock=some g/\w.heap.size<=g):=by
   rcases l.2 with⟨h,_⟩ | ⟨g,cap,aw,e1,e2,e3⟩
   ·rw[h];exact .inl rfl
   ·rw[e1];exact .inr ⟨g,rfl,e2⟩
  have hv:∀g,v.ownBlock=some g->w.heap.size<=g:=by
   intro g h;rcases bl with h' | ⟨g',h',h2⟩
   ·rw[h'] at h;cases h
   ·rw[h'] at h;injection h with h;omega
  have cz:St F L w':=hs.keep fun b hb=>hg.block b hb (by simp);have cr:St F (L.set kd (.row v e i.size (n+m) (xs++f))) w':=cz.put bp ab fun g ca=>⟨by
   cases hF:F g with
   | none=>rfl
   | some _=>have h1:=hs.aay (b:=g) (by rw[hF];simp);have h2:=hv g ca;omega,fun ho=>by have h1:=hs.aaB ho;have h2:=hv g ca;omega⟩
  have bd:Step F L w F (L.set kd (.row v e i.size (n+m) (xs++f))) w':=⟨aA.le_refl F,hg.os,hg.tape,hg.output,hg.size,fun b hb hn=>hg.block b hb (by simp),fun b h=>.inl h,fun b h=>by
   rcases Loc.aan h with h | h
   ·exact .inr (hv b h)
   ·exact .inl h⟩
  have bt:∀j g ty cs,L.get j=some (.box g ty cs)->∃cs',(L.set kd (.row v e i.size (n+m) (xs++f))).get j=some (.box g ty cs'):=by
   intro j g ty cs ej;rw[Loc.aac,o5 (by rintro rfl;rw[bp] at ej;cases ej)];exact⟨cs,ej⟩
  refine jM he hd (v:=v) (x:=.v v) ?_ cr bd rfl cB eZ bt (hK v (Dk ab));simp[execOp,ho,resolve,hc,ha,cb,invoke,builtin,ey,ez,cR bu,cR bm,hr]
 have ag:w.ownsRow 0 e i.size s n xs:=by
  rcases aE with h | ⟨_,rfl,rfl,rfl⟩
  ·exact hs.own kd _ h
  ·exact World.ownsRow_nil w 0 e i.size
 have bc:L.get kd=some (.row s e i.size n xs)\/(L.get kd=none/\s=.slice none 0 0):=by
  rcases aE with h | ⟨h,_,_,h'⟩
  ·exact .inl h
  ·exact .inr ⟨h,h'⟩
 have fin:∀(v:Value) (w':World),(Builtin.append_ #[t,t] o.type #[s,.slice ad m cx]).run P w=.ok v w'->w'.ownsRow 0 e i.size v (n+m) (xs++f)->w.grownBy w' s.ownBlock->(v.ownBlock=s.ownBlock\/v.ownBlock=some w.heap.size)->o.wp P a w (bF F L w a K) Q:=by
  intro v w' hr l hg bl;obtain⟨g1,g2,g3⟩:=J5 hs bc l hg bl;refine jM he hd (v:=v) (x:=.v v) ?_ g1 g2 rfl cB eZ g3 (hK v (Dk l));simp[execOp,ho,resolve,hc,ha,cb,invoke,builtin,ey,ez,cR bu,cR bm,hr]
 by_cases hm:m=0
 ·subst hm;have hn:f=[]:=aby (by simpa using ac);subst hn;obtain⟨w',hr,rfl⟩:=sA (P:=P) (ty:=o.type) ht hi ag ad cx;exact fin s w' hr (by simpa using ag) (World.grownBy.refl _ _) (.inl rfl)
 ·have p:∃d,ad=some d/\∀j u,f[j]?=some u->w.cell? (d.add j)=some u:=by
   rcases bb with q | ⟨ao,_⟩ | ⟨k,v,ty,da,m',ys,d,c',hk,rfl,rfl,q⟩
   ·obtain⟨d,r,cf,ae⟩:=q.cell hs;refine⟨d,r,fun j u hu=>?_⟩;have:=ae j u hu
    rwa [Nat.zero_add] at this
   ·exact vv ao hm
   ·refine⟨d,rfl,fun j u hu=>?_⟩;have hr:=hs.own k _ hk;simp only[Own.ok] at hr;have h0:=World.ownsRow.cells hr (g:=d.block) rfl j u (q j u hu);rcases hr.2 with⟨r,_⟩ | ⟨g,cap,aw,r,_⟩
    ·cases r
    ·injection r with e1 e2 e3
     injection e1 with e1
     subst e1;exact h0
  obtain⟨d,rfl,p⟩:=p;obtain⟨v,w',hr,h2,h3,_,h5⟩:=run_append_own_at (P:=P) w 0 t o.type e i zv i.size i.bytes ht hi bz rfl rfl bv az s n xs ag d m cx f ac p h1 cd bo (abd _);exact fin v w' hr h2 h3 h5
end
section
variable {P:Program}{F:aA}{L:Loc}{ρ:Env}{a:Act}{w:World}{K:dI}{o:Oper}{Q:Exit->Act->World->Prop}
theorem vQ:∀(l:List Own) (k j:Nat),Loc.get (s9 k l) j=if k<=j then l[j-k]? else none
 | [],k,j=>by simp[s9,Loc.get]
 | o::l,k,j=>by
  simp only[s9,Loc.get];cases h:Nat.beq k j with
  | true=>have:=aaR h;subst this;simp
  | false =>
   have b:=gK h;simp only[vQ l (k+1) j]
   by_cases h1:k<=j
   ·rw[fo (by omega),fo h1,show j-k=(j-(k+1))+1 by omega,abe]
   ·rw[o5 (by omega),o5 h1]
theorem aI (l:List Own) (j:Nat):Loc.get (inp l) j=if 1000<=j then l[j-1000]? else none:=vQ l 1000 j
theorem cE:∀{L:Loc}{ks:List Nat}{l:List Own},L.sub ks=some l->l.length=ks.length/\∀(i:Nat) (k:Nat),ks[i]?=some k->L.get k=l[i]?
 | L,[],l,h=>by simp only[Loc.sub,aaO] at h;subst h;simp
 | L,k::ks,l,h=>by
  simp only[Loc.sub] at h;split at h
  case h_2=>cases h
  rename_i o e h1 h2;injection h with h
  subst h;obtain⟨b,c⟩:=cE h2;refine⟨by simp[b],fun i d hi=>?_⟩;cases i with
  | zero=>simp at hi;subst hi;simpa using h1
  | succ i=>simp at hi;simpa using c i d hi
theorem fk:∀(ks:List Nat) (L:Loc) (j:Nat),(L.aaf ks).get j=if j∈ks then none else L.get j
 | [],L,j=>by simp[Loc.aaf]
 | k::ks,L,j=>by
  simp only[Loc.aaf,fk ks,Loc.aah,aaX]
  by_cases h1:j=k<;>by_cases h2:j∈ks<;>simp[h1,h2]
theorem cZ:∀(ko:List Nat) (l:List Own) (L:Loc) (j:Nat),ko.Nodup->ko.length=l.length ->
  ((L.puts ko l).get j=L.get j/\j∉ko)\/∃i,ko[i]?=some j/\(L.puts ko l).get j=l[i]?/\i<l.length
 | [],l,L,j,_,h=>by
  refine .inl ⟨?_,by simp⟩;cases l<;>rfl
 | k::ko,[],L,j,_,h=>by simp at h
 | k::ko,o::l,L,j,c,h=>by
  simp only[aa8,Nat.add_right_cancel_iff] at h;rw[List.nodup_cons] at c;simp only[Loc.puts];rcases cZ ko l (L.set k o) j c.2 h with⟨h1,h2⟩ | ⟨i,h1,h2,h3⟩
  ·rw[Loc.aac] at h1
   by_cases b:j=k
   ·subst b;rw[fo rfl] at h1;exact .inr ⟨0,by simp,by simpa using h1,by simp⟩
   ·rw[o5 b] at h1;exact .inl ⟨h1,by simp[b,h2]⟩
  ·exact .inr ⟨i+1,by simpa using h1,by simpa using h2,by simp;omega⟩
theorem AH {l:List Nat}(h:l.Nodup) {i j:Nat}{k:Nat}(hi:l[i]?=some k) (b:l[j]?=some k):i=j:=by
 induction l generalizing i j with
 | nil=>simp at hi
 | cons x l c =>
  rw[List.nodup_cons] at h;cases i with
  | zero =>
   cases j with
   | zero=>rfl
   | succ j =>
    simp at hi b;subst hi;exact vv (aaU b) h.1
  | succ i =>
   cases j with
   | zero =>
    simp at hi b;subst b;exact vv (aaU hi) h.1
   | succ j =>
    simp at hi b;rw[c h.2 hi b]
theorem St.handed (c:St F L w) {ks:List Nat}{l:List Own}(b:L.sub ks=some l) (s:ks.Nodup):St F (inp l) w:=by
 obtain⟨y,u⟩:=cE b;have key:∀j p,Loc.get (inp l) j=some p->∃k,1000<=j/\ks[j-1000]?=some k/\L.get k=some p:=by
  intro j p e;rw[aI] at e;split at e
  case isFalse=>cases e
  rename_i h1;have v:j-1000<l.length:=(aaT.1 e).1;have n:ks[j-1000]?=some (ks[j-1000]'(by omega)):=aaQ (by omega);exact⟨_,h1,n,by rw[u _ _ n];exact e⟩
 refine⟨c.frz,fun j p e=>?_,fun j p g e hb=>?_,fun j x p m g e t hb f=>?_,c.glob⟩
 ·obtain⟨k,_,_,h⟩:=key j p e;exact c.own k p h
 ·obtain⟨k,_,_,h⟩:=key j p e;exact c.off k p g h hb
 ·obtain⟨k,h1,h2,h3⟩:=key j p e;obtain⟨q,r,h2',d⟩:=key x m t;have:=c.sep k q p m g h3 d hb f;subst this;have:=AH s h2 h2';omega
theorem gF (u:St F L w) {ks ko:List Nat}{l lo:List Own}(aa:L.sub ks=some l) (hn:ks.Nodup) (t:ko.Nodup) (ar:∀k,k∈ko->k∈ks\/L.get k=none)
  {F':aA}{w':World}(q:St F' (inp lo) w') (d:Step F (inp l) w F' (inp lo) w') (x:ko.length=lo.length) :
  St F' ((L.aaf ks).puts ko lo) w'/\Step F L w F' ((L.aaf ks).puts ko lo) w':=by
 obtain⟨hl,hg⟩:=cE aa;have m:∀b,(inp l).owns b->∃k o,k∈ks/\L.get k=some o/\o.blk=some b:=by
  rintro b ⟨j,p,e,hb⟩;rw[aI] at e;split at e
  case isFalse=>cases e
  have an:j-1000<l.length:=(aaT.1 e).1;have hk:ks[j-1000]?=some (ks[j-1000]'(by omega)):=aaQ (by omega);exact⟨_,p,aaU hk,by rw[hg _ _ hk];exact e,hb⟩
 have f:∀k p b,k∉ks->L.get k=some p->p.blk=some b->¬(inp l).owns b:=by
  intro k p b hk e hb ho;obtain⟨s,o,ad,z,c⟩:=m b ho;exact hk (by rw[u.sep k s p o b e z hb c];exact ad)
 have get:∀k p,((L.aaf ks).puts ko lo).get k=some p->(k∉ks/\k∉ko/\L.get k=some p)\/∃i,ko[i]?=some k/\Loc.get (inp lo) (1000+i)=some p:=by
  intro k p e;rcases cZ ko lo (L.aaf ks) k t x with⟨h1,h2⟩ | ⟨i,h1,h2,h3⟩
  ·rw[h1,fk] at e;split at e
   ·cases e
   ·rename_i h3;exact .inl ⟨h3,h2,e⟩
  ·rw[h2] at e;exact .inr ⟨i,h1,by rw[aI,fo (by omega),show 1000+i-1000=i by omega];exact e⟩
 refine⟨⟨q.frz,fun k p e=>?_,fun k p b e hb=>?_,fun k s p r b e z hb c=>?_,q.glob⟩,⟨d.le,d.os,d.tape,d.output,d.size,fun b hb t=>?_,fun b hb=>?_,fun b hb=>?_⟩⟩
 ·rcases get k p e with⟨h1,_,h2⟩ | ⟨i,_,h2⟩
  ·exact Own.aau (u.own k p h2) fun g y=>d.same g (Own.aar (u.own k p h2) y) (f k p g h1 h2 y)
  ·exact q.own _ p h2
 ·rcases get k p e with⟨h1,_,h2⟩ | ⟨i,_,h2⟩
  ·cases hF:F' b with
   | none=>rfl
   | some _ =>
    rcases d.frz b (by rw[hF];simp) with h3 | h3 | h3
    ·exact vv (u.off k p b h2 hb) h3
    ·exact vv h3 (f k p b h1 h2 hb)
    ·have:=Own.aar (u.own k p h2) hb;omega
  ·exact q.off _ p b h2 hb
 ·have n:∀k p i r,k∉ks->L.get k=some p->Loc.get (inp lo) (1000+i)=some r->p.blk=some b->r.blk=some b->False:=by
   intro k p i r h1 h2 h3 h4 h5;rcases d.own b ⟨_,r,h3,h5⟩ with h6 | h6
   ·exact f k p b h1 h2 h4 h6
   ·have:=Own.aar (u.own k p h2) h4;omega
  rcases get k p e with⟨h1,_,h2⟩ | ⟨i,hi,h2⟩<;>rcases get s r z with⟨ae,_,h2'⟩ | ⟨i',v,h2'⟩
  ·exact u.sep k s p r b h2 h2' hb c
  ·exact(n k p i' r h1 h2 h2' hb c).elim
  ·exact(n s r i p ae h2' h2 c hb).elim
  ·have:=q.sep _ _ p r b h2 h2' hb c;have:i=i':=by omega
   subst this;rw[hi] at v;injection v
 ·refine d.same b hb fun ho=>?_;obtain⟨k,o,_,e,c⟩:=m b ho;exact t ⟨k,o,e,c⟩
 ·rcases d.frz b hb with h | h | h
  ·exact .inl h
  ·obtain⟨k,o,_,e,c⟩:=m b h;exact .inr (.inl ⟨k,o,e,c⟩)
  ·exact .inr (.inr h)
 ·obtain⟨k,p,e,c⟩:=hb;rcases get k p e with⟨h1,_,h2⟩ | ⟨i,_,h2⟩
  ·exact .inl ⟨k,p,h2,c⟩
  ·rcases d.own b ⟨_,p,h2,c⟩ with h | h
   ·obtain⟨s,o,_,z,ab⟩:=m b h;exact .inl ⟨s,o,z,ab⟩
   ·exact .inr h
theorem wU {f:Nat}{args:List Value}(hs:St F L w) (he:aC L ρ a) (hd:∀k,o.dst=some k->k<a.tmps.size)
  (hrun:(∃fn,P.funcs[f]?=some fn/\fn.body.isSome=true/\(fn.name == "runtime.NumGoroutine")=false)->(execOp a.eval o).run P w=.ok (.enter f args.toArray) w)
  (hK:d9 P f args F L fun F' L' v=>K F' L' (put o.dst (.v v) ρ)):o.wp P a w (bF F L w a K) Q:=by
 obtain⟨ks,ko,l,R,hsub,hn,hno,hko,hc,hK⟩:=hK;unfold Oper.wp;rw[hrun hc.ent];rw[Oper.upon_enter];refine(hc.run w (hs.handed hsub hn)).mono ?_;rintro e w' ⟨v,F',lo,rfl,hs',hst,hR⟩;obtain⟨hlen,hbox,hK⟩:=hK v F' lo hst.le hR;obtain⟨h1,h2⟩:=gF hs hsub hn hno hko hs' hst hlen;refine⟨F',_,_,h1,he.put hd (x:=.v v) rfl cB eZ ?_,jK _ _ _,gO _ _ _,h2,hK⟩;intro k g ty cs e
 by_cases hk:k∈ks
 ·exact hbox k g ty cs hk e
 ·rcases cZ ko lo (L.aaf ks) k hno hlen with⟨h1,h2⟩ | ⟨i,h1,h2,h3⟩
  ·rw[h1,fk,o5 hk];exact⟨cs,e⟩
  ·rcases hko k (aaU h1) with h | h
   ·exact vv h hk
   ·rw[h] at e;cases e
theorem iQ {f:Nat}{args:Array Value}(h:∃fn,P.funcs[f]?=some fn/\fn.body.isSome=true/\(fn.name == "runtime.NumGoroutine")=false):(callFunc f args).run P w=.ok (.enter f args) w:=by
 obtain⟨fn,h1,h2,h3⟩:=h;have h4:fn.body≠none:=by intro hb;rw[hb] at h2;cases h2
 have h5:fn.name≠"runtime.NumGoroutine":=by simpa using h3
 simp[callFunc,h1,h4,h5]
theorem Nk {f:Nat}{args:List X}{c:Call}(m:St F L w) (he:aC L ρ a) (hd:∀k,o.dst=some k->k<a.tmps.size)
  (n:o.op=.call c) (j:c.callee=.value (.func f)) (h:gL c.args.toList=some args) (l:evalOp P (.call f args) o.dst F L ρ K):o.wp P a w (bF F L w a K) Q:=by
 refine wU m he hd (fun d=>?_) l;have e:=gN h he;have b:c.args.map a.eval=(bn L ρ args).toArray:=by apply Array.ext';simpa using e
 simp[execOp,n,resolve,j,Deferred.ofValue,Act.eval,invoke,b,iQ d]
theorem mA {t:TypeId}{nm:String}{u:Value}{f:Nat}{args:Array Value}(hf:tj P t nm=some f) (h:∃fn,P.funcs[f]?=some fn/\fn.body.isSome=true/\(fn.name == "runtime.NumGoroutine")=false) :
  (callMethod (.iface t u) nm args).run P w=.ok (.enter f (#[u]++args)) w:=by
 have:=Il (P:=P) hf u w;simp only[callMethod,Sem.run_bind,run_program,Result.andThen_ok,this];exact iQ h
theorem J6 {V:SV}{v:Value}{args:List Value}{f:Nat}{fi ca:List Value}(hf:sn P V=some (f,fi,ca)) (hv:∀x,V=.v x->v=x) (h:∃fn,P.funcs[f]?=some fn/\fn.body.isSome=true/\(fn.name == "runtime.NumGoroutine")=false) :
  (do let d <-Deferred.ofValue v args.toArray;invoke d.target d.args:Sem Next).run P w=.ok (.enter f (fi++args++ca).toArray) w:=by
 unfold sn at hf;split at hf
 ·rename_i f' fi' ca';injection hf with hf
  injection hf with e1 e2
  injection e2 with e2 e3
  subst e1 e2 e3;rw[hv _ rfl];have hall:fi'++(args.toArray++ca')=(fi'.toList++args++ca'.toList).toArray:=by apply Array.ext';simp
  simp[Deferred.ofValue,invoke];rw[iQ h];simp
 ·rename_i nm fi' ca';split at hf
  case h_2=>cases hf
  rename_i t u hfi;split at hf
  case h_2=>cases hf
  rename_i f' hm;injection hf with hf
  injection hf with e1 e2
  injection e2 with e2 e3
  subst e1 e2 e3;have hfi':fi'=#[.iface t u]:=by apply Array.ext';exact hfi
  rw[hv _ rfl,hfi'];have hx:(#[Value.iface t u]++args.toArray).extract 1 (#[Value.iface t u]++args.toArray).size=args.toArray:=by apply Array.ext';simp
  have h0:(#[Value.iface t u]++args.toArray)[0]?=some (.iface t u):=by simp
  have:=mA (w:=w) (u:=u) (args:=args.toArray) hm h;simp only[Deferred.ofValue,Sem.run_bind,Sem.run_pure,Result.andThen_ok,invoke,h0,hx,this];simp
 ·cases hf
theorem J7 {y:Operand}{s:X}{args:List X}{c:Call}(hs:St F L w) (he:aC L ρ a) (hd:∀k,o.dst=some k->k<a.tmps.size)
  (ho:o.op=.call c) (hc:c.callee=.value y) (hy:bM y=some s) (ha:gL c.args.toList=some args) (m:evalOp P (.callV s args) o.dst F L ρ K):o.wp P a w (bF F L w a K) Q:=by
 have ey:=aH hy he;have r:=gN ha he;have d:c.args.map a.eval=(bn L ρ args).toArray:=by apply Array.ext';simpa using r
 have l:∀x,ev ρ s=.v x->a.eval y=x:=fun x e=>by rw[ey,cR e]
 simp only[evalOp] at m;split at m
 ·rename_i f fi ca hf;refine wU hs he hd (fun j=>?_) m;have:=J6 (w:=w) (args:=bn L ρ args) hf l j;simp only[execOp,ho,resolve,hc,d];exact this
 ·split at m
  case h_2=>exact m.elim
  rename_i f z hf;unfold Av at hf;split at hf
  case h_2=>cases hf
  rename_i t nm ca t' u h p b;split at hf
  case h_2=>cases hf
  rename_i ms hu;split at hf
  case h_2=>cases hf
  rename_i f' hm;injection hf with hf
  injection hf with e1 e2
  subst e1 e2;refine wU hs he hd (fun j=>?_) m;have h0:(#[]++(bn L ρ args).toArray)[0]?=some (.iface t' u):=by rw[b];simp
  have hx:(#[]++(bn L ρ args).toArray).extract 1 (#[]++(bn L ρ args).toArray).size=h.toArray:=by rw[b];apply Array.ext';simp
  have:=mA (w:=w) (u:=u) (args:=h.toArray) hm j;simp only[execOp,ho,resolve,hc,d,l _ p,Deferred.ofValue,Sem.run_bind,Sem.run_pure,Result.andThen_ok,invoke];have q:((⟨[]⟩:Array Value)++(bn L ρ args).toArray)[0]?=some (.iface t' u):=h0;simp only[q,Sem.run_bind,run_underlying hu,Result.andThen_ok];have n:((⟨[]⟩:Array Value)++(bn L ρ args).toArray).extract 1 ((⟨[]⟩:Array Value)++(bn L ρ args).toArray).size=h.toArray:=hx;simp only[n,this];simp
theorem Si {n:Nat}{y:String}{args:List X}{c:Call}(hs:St F L w) (he:aC L ρ a) (hd:∀k,o.dst=some k->k<a.tmps.size)
  (ho:o.op=.call c) (hc:c.callee=.invoke (.tmp n) y) (ha:gL c.args.toList=some args) (e:evalOp P (.callV (.mt y n) args) o.dst F L ρ K):o.wp P a w (bF F L w a K) Q:=by
 have r:=gN ha he;have d:c.args.map a.eval=(bn L ρ args).toArray:=by apply Array.ext';simpa using r
 simp only[evalOp,ev] at e;split at e
 ·rename_i f fi ca hf;refine wU hs he hd (fun h=>?_) e;cases l:ρ n with
  | own k off=>rw[l] at hf;cases hf
  | el b j=>rw[l] at hf;cases hf
  | v x =>
   rw[l] at hf;have hx:a.eval (.tmp n)=x:=by
    have:=he.eq n;rw[l] at this;exact this
   simp only[Ui,sn] at hf;split at hf
   case h_2=>cases hf
   rename_i t u q;split at hf
   case h_2=>cases hf
   rename_i f' z;injection hf with hf
   injection hf with e1 e2
   injection e2 with e2 e3
   subst e1 e2 e3;have p:x=.iface t u:=by simpa using q
   subst p;have m:(#[Value.iface t u]++(bn L ρ args).toArray).extract 1 (#[Value.iface t u]++(bn L ρ args).toArray).size=(bn L ρ args).toArray:=by apply Array.ext';simp
   have h0:(#[Value.iface t u]++(bn L ρ args).toArray)[0]?=some (.iface t u):=by simp
   have:=mA (w:=w) (u:=u) (args:=(bn L ρ args).toArray) z h;simp only[execOp,ho,resolve,hc,d,hx,Sem.run_bind,Sem.run_pure,Result.andThen_ok,invoke,h0,m,this];simp
 ·split at e
  case h_2=>exact e.elim
  rename_i f s hf;exfalso
  revert hf
  cases ρ n<;>simp[Ui,Av,undef]
end
open Go.ChangeMaps (setBlock)
theorem AJ {cs:List Value}(h:lK cs=true):iC cs=.map (aZ cs 0).toArray cs.length:=by
 unfold iC;split
 ·simp[lK] at h
 ·rfl
theorem mB:∀(v:Value) (i:Nat),(gB v i).born=i:=by
 intro v i;unfold gB;split<;>rfl
theorem qp:∀{cs:List Value}{i j:Nat},(aZ cs i)[j]?=(cs[j]?).map fun v=>gB v (i+j)
 | [],_,_=>by simp[aZ]
 | c::cs,i,0=>by simp[aZ]
 | c::cs,i,j+1=>by
  simp only[aZ,abe,qp (cs:=cs)];rw[show i+1+j=i+(j+1) by omega]
def kindOf:Bool->TypeDesc
 | false=>.int .i64
 | true=>.string
theorem GD (s t:ByteArray):(s == t)=decide (s.data.toList=t.data.toList):=by
 have:(s == t)=(s.data == t.data):=rfl;rw[this,Bool.eq_iff_iff];simp[Array.toList_inj]
theorem xR {str:Bool}{a b:Value}{r:Bool}(h:fA str a b=some r):Instr.sameNow (kindOf str) a b=some r:=by
 unfold fA at h;split at h
 ·injection h with h;subst h;simp[kindOf,Instr.sameNow,beq_dec']
 ·injection h with h
  subst h;rename_i s t;simp only[kindOf,Instr.sameNow,GD]
 ·cases h
where beq_dec':∀{a b:Int},(a == b)=decide (a=b):=by intro a b;rw[Bool.eq_iff_iff];simp
theorem Nl {str:Bool}{a b:Value}(h:fA str a b=some true):a=b:=by
 unfold fA at h;split at h
 ·simp only[aaO,aa0] at h;rw[h]
 ·simp only[aaO,aa0] at h;rename_i s t;cases s;cases t;simp only[Value.string.injEq,ByteArray.mk.injEq];exact Array.ext' h
 ·cases h
theorem Nm {str:Bool}{a b:Value}{r:Bool}(h:fA str a b=some r):∀n,Instr.sameBits n a a=true:=by
 intro n;unfold fA at h;split at h
 ·cases n<;>simp[Instr.sameBits]
 ·cases n<;>simp[Instr.sameBits,GD]
 ·cases h
theorem nV {str:Bool}{key:Value}:∀{cs:List Value}{i:Nat}{o:Option (Nat×Value)},mo str key cs i=some o->Instr.findNow (kindOf str) key (aZ cs i) i=some o
 | [],i,o,h=>by simp only[mo] at h;simpa[aZ,Instr.findNow] using h
 | c::cs,i,o,h=>by
  unfold mo at h;split at h
  ·rename_i b;cases b
  ·rename_i k v l j b;injection b with e1 e2
   subst e1 e2;simp only[aZ,gB,Instr.findNow];split at h
   ·rename_i d;rw[xR d];exact h
   ·rename_i d;rw[xR d];exact nV h
   ·cases h
  ·cases h
theorem AK {str:Bool}{key val:Value}(f:fA str key key=some true):∀{cs cs':List Value}{i:Nat},xJ str key val cs=some cs' ->
  (∃j v,mo str key cs i=some (some (i+j,v))/\j<cs.length/\((aZ cs i)[j]?.map (·.key))=some key/\aZ cs' i=(aZ cs i).modify j (fun e=>{e with key:=key,val:=val})/\cs'.length=cs.length) \/
  (mo str key cs i=some none/\cs'=cs++[.agg #[key,val]])
 | [],cs',i,h=>by
  simp only[xJ,aaO] at h;subst h;exact .inr ⟨rfl,rfl⟩
 | c::cs,cs',i,h=>by
  unfold xJ at h;split at h
  ·rename_i b;cases b
  ·rename_i k v l b;injection b with e1 e2
   subst e1 e2;split at h
   ·rename_i d;injection h with h
    subst h;refine .inl ⟨0,v,by simp only[mo,d,Nat.add_zero],by simp,?_,?_,rfl⟩
    ·simp[aZ,gB,(Nl d).symm]
    ·simp[aZ,gB]
   ·rename_i d;split at h
    case h_2=>cases h
    rename_i n m;injection h with h
    subst h;rcases AK f (i:=i+1) m with⟨j,u,h1,h2,h3,h4,h5⟩ | ⟨h1,h2⟩
    ·refine .inl ⟨j+1,u,?_,by simp;omega,by simpa[aZ] using h3,by simp[aZ,h4],by simp[h5]⟩;simp only[mo,d];rw[h1,show i+1+j=i+(j+1) by omega]
    ·refine .inr ⟨?_,by rw[h2];rfl⟩;simp only[mo,d];exact h1
   ·cases h
  ·cases h
theorem Fm {str:Bool}{key val:Value}{cs cs':List Value}(h:xJ str key val cs=some cs'):lK cs'=true:=by
 unfold xJ at h;split at h
 ·injection h with h;subst h;rfl
 ·split at h
  ·injection h with h;subst h;rfl
  ·split at h
   ·injection h with h;subst h;rfl
   ·cases h
  ·cases h
 ·cases h
section
variable {P:Program}{F:aA}{L:Loc}{ρ:Env}{a:Act}{w:World}{K:dI}{o:Oper}{Q:Exit->Act->World->Prop}
theorem xS (b:St F L w) {k g:Nat}{cs:List Value}(d:L.get k=some (.box g 0 cs)) (c:lK cs=true):w.heap[g]?=some (.map (aZ cs 0).toArray cs.length):=by
 have h:=b.own k _ d;simp only[Own.ok,nG] at h;rw[AJ c] at h;exact h
theorem Nn {str:Bool}{key:TypeId}{kv:Value}(b:P.underlying key=some (kindOf str)) (c:fA str kv kv=some true) (e:Bool):(Instr.checkKey e 10000 key kv).run P w=.ok () w:=by
 rw[show(10000:Nat)=9999+1 from rfl,Instr.checkKey];simp only[Sem.run_bind,run_underlying b,Result.andThen_ok];cases str<;>simp[kindOf,Sem.run_pure]
theorem Fp {str:Bool}{key:TypeId}{kv:Value}(b:P.underlying key=some (kindOf str)) (e:Bool):(Instr.checkKey e 10000 key kv).run P w=.ok () w:=by
 rw[show(10000:Nat)=9999+1 from rfl,Instr.checkKey];simp only[Sem.run_bind,run_underlying b,Result.andThen_ok];cases str<;>simp[kindOf,Sem.run_pure]
theorem tG {str:Bool}{key:TypeId}{kv:Value}{es:List MapEntry}{o:Option (Nat×Value)}(b:P.underlying key=some (kindOf str)) (h:Instr.findNow (kindOf str) kv es 0=some o):(Instr.findKey key kv es).run P w=.ok o w:=by
 simp only[Instr.findKey,Sem.run_bind,run_underlying b,Result.andThen_ok,h,Sem.run_pure]
theorem J8 {t:TypeId}(d:St F L w) (he:aC L ρ a) (hd:∀k,o.dst=some k->k<a.tmps.size) (h:o.op=.makeMap t none)
  (b:evalOp P .mkmap o.dst F L ρ K):o.wp P a w (bF F L w a K) Q:=by
 simp only[evalOp] at b;split at b
 case h_2=>exact b.elim
 rename_i _ k c;split at b
 case h_2=>exact b.elim
 rename_i _ f;have b:=b w.heap.size;obtain⟨h1,h2,h3⟩:=mr d f (ob:=.map #[] 0) (e:=.box w.heap.size 0 []) rfl (by show _=_;rw[iF];rfl);refine jM he hd (v:=.map (some w.heap.size)) (x:=.v (.map (some w.heap.size))) ?_ h1 h2 rfl cB eZ h3 b;simp[execOp,h,run_makeMap]
theorem Dl {str ok:Bool}{t key e:TypeId}{y z:Operand}{x l:X}{j:TypeInfo}{p:Value}(n:St F L w) (he:aC L ρ a) (hd:∀k,o.dst=some k->k<a.tmps.size)
  (ho:o.op=.lookup t y z ok) (q:P.underlying t=some (.map key e)) (b:P.underlying key=some (kindOf str)) (hi:P.info? e=some j) (hz:j.zero=some p) (hy:bM y=some x) (h:bM z=some l)
  (c:evalOp P (.mlook str ok p x l) o.dst F L ρ K):o.wp P a w (bF F L w a K) Q:=by
 have s:=aH hy he;have r:=aH h he;simp only[evalOp,aK] at c;split at c
 case h_2=>exact c.elim
 rename_i g u;obtain⟨k,cs,hk,m,c⟩:=c;have hg:=xS n hk m;have f:(getObj g).run P w=.ok (.map (aZ cs 0).toArray cs.length) w:=by simp[getObj,Sem.run,hg]
 have d:=Fp (w:=w) (kv:=val L ρ l) b (aZ cs 0).toArray.isEmpty;rcases c.out with⟨i,v,h1,h2⟩ | ⟨h1,h2⟩
 ·have hf:=tG (P:=P) (w:=w) b (nV h1);refine bX n he hd ?_ rfl cB eZ h2;simp only[execOp,ho,s,r,cR u,Instr.lookup,Sem.run_bind,run_underlying q,Result.andThen_ok,f,Sem.run_pure,d,hf];cases ok<;>simp[Sem.run_pure,conc]
 ·have hf:=tG (P:=P) (w:=w) b (nV h1);refine bX n he hd ?_ rfl cB eZ h2;simp only[execOp,ho,s,r,cR u,Instr.lookup,Sem.run_bind,run_underlying q,Result.andThen_ok,f,Sem.run_pure,d,hf];cases ok<;>simp[Sem.run_pure,zeroValue,typeInfo,run_program,hi,hz,conc]
theorem GF (r:St F L w) {k g:Nat}{cs cs':List Value}(d:L.get k=some (.box g 0 cs)):St F (L.set k (.box g 0 cs')) (setBlock w g (iC cs'))/\Step F L w F (L.set k (.box g 0 cs')) (setBlock w g (iC cs')) /\
  (∀j f ty xs,L.get j=some (.box f ty xs)->∃p,(L.set k (.box g 0 cs')).get j=some (.box f ty p)):=by
 have n:g<w.heap.size:=Own.aar (r.own k _ d) rfl;have c:∀b,b≠g->(setBlock w g (iC cs')).heap[b]?=w.heap[b]?:=fun b hb=>by
  show(w.heap.setIfInBounds g (iC cs'))[b]?=_;rw[Array.getElem?_setIfInBounds,o5 (fun e=>hb e.symm)]
 have q:w.heap.size<=(setBlock w g (iC cs')).heap.size:=by show _<=(w.heap.setIfInBounds g (iC cs')).size;simp
 refine⟨r.turn d ?_ (fun b hb l=>c b fun e=>l (by rw[e];rfl)) (fun f m=>.inl m),⟨aA.le_refl F,rfl,rfl,rfl,q,fun b hb t=>c b fun e=>t ⟨k,_,d,by rw[e];rfl⟩,fun b h=>.inl h,fun b h=>?_⟩,fun j f ty xs e=>?_⟩
 ·show(w.heap.setIfInBounds g (iC cs'))[g]?=_;rw[Array.getElem?_setIfInBounds,fo rfl,fo n];rfl
 ·rcases Loc.aan h with h | h
  ·exact .inl ⟨k,_,d,h⟩
  ·exact .inl h
 ·rw[Loc.aac];split
  ·rename_i s;subst s;rw[d] at e;injection e with e
   injection e with e1 e2 e3
   subst e1 e2;exact⟨_,rfl⟩
  ·exact⟨xs,e⟩
theorem z6 {str:Bool}{t key e:TypeId}{g:Nat}{kv p:Value}{cs cs':List Value}(q:P.underlying t=some (.map key e)) (d:P.underlying key=some (kindOf str))
  (r:w.heap[g]?=some (.map (aZ cs 0).toArray cs.length)) (b:fA str kv kv=some true) (h:xJ str kv p cs=some cs') :
  (Instr.mapUpdate t (.map (some g)) kv p).run P w=.ok () (setBlock w g (iC cs')):=by
 have n:(getObj g).run P w=.ok (.map (aZ cs 0).toArray cs.length) w:=by simp[getObj,Sem.run,r]
 have k:∀o',(setObj g o').run P w=.ok () (setBlock w g o'):=fun o'=>by simp[setObj,Sem.run,r,setBlock]
 have m:=Nn (P:=P) (w:=w) (str:=str) (kv:=kv) d b false;rw[AJ (Fm h)];rcases AK b (i:=0) h with⟨j,v,h1,h2,h3,h4,h5⟩ | ⟨h1,h2⟩
 ·have hf:=tG (P:=P) (w:=w) d (nV h1);have f:(((aZ cs 0).toArray[0+j]?).map (·.key)).getD kv=kv:=by
   rw[Nat.zero_add];simp only[List.getElem?_toArray];rw[h3];rfl
  simp only[Instr.mapUpdate,Sem.run_bind,run_underlying q,Result.andThen_ok,n,m,hf,f,Instr.keyThatStays,Nm b,abm,Sem.run_pure,k];rw[h4,h5,Nat.zero_add];congr 3;apply Array.ext';simp
 ·have hf:=tG (P:=P) (w:=w) d (nV h1);simp only[Instr.mapUpdate,Sem.run_bind,run_underlying q,Result.andThen_ok,n,m,hf,k];subst h2;congr 3
  ·apply Array.ext';have:∀(l:List Value) (i:Nat),aZ (l++[.agg #[kv,p]]) i=aZ l i++[{key:=kv,val:=p,born:=i+l.length}]:=by
    intro l
    induction l with
    | nil=>intro i;simp[aZ,gB]
    | cons c l s=>intro i;simp only[aa3,aZ,s,aa8];rw[show i+1+l.length=i+(l.length+1) by omega]
   simp[this]
  ·simp
theorem wV {str:Bool}{t key e:TypeId}{y z u:Operand}{m n l:X}(p:St F L w) (he:aC L ρ a) (hd:∀k,o.dst=some k->k<a.tmps.size)
  (d:o.op=.mapUpdate t y z u\/o.op=.insert t y z u) (x:P.underlying t=some (.map key e)) (h:P.underlying key=some (kindOf str)) (r:bM y=some m) (hz:bM z=some n) (v:bM u=some l)
  (b:evalOp P (.mupd str m n l) o.dst F L ρ K):o.wp P a w (bF F L w a K) Q:=by
 have ey:=aH r he;have ez:=aH hz he;have eu:=aH v he;simp only[evalOp] at b;split at b
 case h_2=>exact b.elim
 rename_i g hm;obtain⟨k,cs,q,j,b⟩:=b;obtain⟨f,cs',c,b⟩:=b;have hg:=xS p q j;obtain⟨h1,h2,h3⟩:=GF p q (cs':=cs');refine Db he hd (w':=setBlock w g (iC cs')) ?_ h1 h2 h3 b;have s:=z6 (w:=w) x h hg f c;rcases d with d | d<;>simp[execOp,d,ey,ez,eu,cR hm,s]
theorem Io {t key e:TypeId}{y:Operand}{h:X}(l:St F L w) (he:aC L ρ a) (hd:∀k,o.dst=some k->k<a.tmps.size)
  (u:o.op=.range t y) (n:P.underlying t=some (.map key e)) (m:bM y=some h) (b:evalOp P (.mrange h) o.dst F L ρ K):o.wp P a w (bF F L w a K) Q:=by
 have p:=aH m he;simp only[evalOp] at b;split at b
 case h_2=>exact b.elim
 rename_i _ g k q j;split at b
 case h_2=>exact b.elim
 rename_i _ s;obtain⟨km,cs,c,d,b⟩:=b;have r:=xS l c d;have f:(getObj g).run P w=.ok (.map (aZ cs 0).toArray cs.length) w:=by simp[getObj,Sem.run,r]
 have b:=b w.heap.size;obtain⟨h1,h2,h3⟩:=mr l s (ob:=.mapIter (some g) cs.length #[] cs.length) (e:=.box w.heap.size 0 [.tuple #[.map (some g),.int .i64 cs.length]]) rfl (by show _=_;rw[iF];simp[nG,iC]);refine jM he hd (v:=.pointer (some ⟨w.heap.size,0,none⟩)) (x:=.own k 0) ?_ h1 h2 ?_ ?_ (fun _ _ e=>by cases e) h3 b
 ·simp[execOp,u,Instr.range,p,cR q,run_underlying n,f]
 ·simp only[conc,Loc.aac,abm]
 ·rintro z off e;injection e with e1 e2
  subst e1;exact⟨_,_,_,by rw[Loc.aac,fo rfl]⟩
theorem J9 {y:Operand}{y':X}(hs:St F L w) (he:aC L ρ a) (hd:∀k,o.dst=some k->k<a.tmps.size)
  (ho:o.op=.next y false) (hy:bM y=some y') (r:evalOp P (.mnext y') o.dst F L ρ K):o.wp P a w (bF F L w a K) Q:=by
 have ey:=aH hy he;simp only[evalOp] at r;split at r
 case h_2=>exact r.elim
 rename_i k hm;split at r
 case h_2=>exact r.elim
 rename_i gi g n b hk;obtain⟨km,cs,ag,am,s,p,z⟩:=r.out;have hg:=xS hs ag am;have ao:w.heap[gi]?=some (.mapIter (some g) n (b.map i9).toArray n):=by
  have h:=hs.own k _ hk;simp only[Own.ok,nG,iC] at h;exact h
 have u:a.eval y=.pointer (some ⟨gi,0,none⟩):=by rw[ey];simp only[val,hm,conc,hk]
 have aa:∀x∈(aZ cs 0).toArray.toList,x.born<n:=by
  intro x hx;simp only[List.toList_toArray] at hx;obtain⟨j,c⟩:=abh.1 hx;rw[qp] at c;cases m:cs[j]? with
  | none=>rw[m] at c;cases c
  | some v =>
   rw[m] at c;simp only[abt,aaO] at c;rw[<-c,mB];have:=(aaT.1 m).1;omega
 rcases run_next_at (P:=P) w o.type gi g n n (b.map i9).toArray (aZ cs 0).toArray cs.length ao hg aa (aa2 _) with⟨h0,f⟩ | ⟨e,l,w1,t,f⟩
 ·refine bX hs he hd (v:=.tuple #[.bool false]) (x:=.v (.tuple #[.bool false])) ?_ rfl cB eZ (z fun j c=>?_)
  ·simp only[execOp,ho,u,Sem.run_bind,f,Result.andThen_ok,Sem.run_pure]
  ·have m:∃v,cs[j]?=some v:=⟨cs[j]'(by omega),aaQ (by omega)⟩;obtain⟨v,m⟩:=m;have ad:(aZ cs 0)[j]?=some (gB v (0+j)):=by rw[qp,m];rfl
   have q:gB v (0+j)∈aZ cs 0:=aaU ad;apply Classical.byContradiction;intro d;have h1:gB v (0+j)∈(leftOf (aZ cs 0).toArray (b.map i9).toArray).toList:=by
    unfold leftOf;simp only[Array.toList_filter,List.mem_filter,q,true_and];rw[mB];simpa using d
   have h2:(leftOf (aZ cs 0).toArray (b.map i9).toArray)=#[]:=Array.eq_empty_of_size_eq_zero h0;rw[h2] at h1;cases h1
 ·unfold leftOf at l;simp only[Array.toList_filter,List.mem_filter] at l;obtain⟨q,d⟩:=l;obtain⟨j,c⟩:=abh.1 q;rw[qp] at c;cases m:cs[j]? with
  | none=>rw[m] at c;cases c
  | some v =>
   rw[m] at c;simp only[abt,aaO,Nat.zero_add] at c;subst c;rw[mB] at f d;have ae:j∉b.map i9:=by simpa using d
   have al:=p j v m ae;have ar:St F L w1:=by rcases t with rfl | rfl;exact hs;exact hs.drew
   obtain⟨h1,h2,h3⟩:=GF ar hk (cs':=.tuple #[.map (some g),.int .i64 n]::(b++[.int .i64 j]));have an:Step F L w F L w1:=by
    rcases t with rfl | rfl
    ·exact Step.refl _ _ _
    ·exact⟨aA.le_refl F,rfl,rfl,rfl,aa2 _,fun _ _ _=>rfl,fun _ h=>.inl h,fun _ h=>.inl h⟩
   have ab:iC (.tuple #[.map (some g),.int .i64 n]::(b++[.int .i64 j]))=.mapIter (some g) n ((b.map i9).toArray.push j) cs.length:=by
    simp[iC,i9,s]
   rw[ab] at h1 h2;refine jM he hd (v:=.tuple #[.bool true,(gB v j).key,(gB v j).val]) (x:=.v (.tuple #[.bool true,(gB v j).key,(gB v j).val])) ?_ h1 (an.trans h2) rfl cB eZ h3 al;simp only[execOp,ho,u,Sem.run_bind,f,Result.andThen_ok,Sem.run_pure]
theorem Ip {y:Operand}{y':X}(hs:St F L w) (he:aC L ρ a) (hd:∀k,o.dst=some k->k<a.tmps.size)
  (ho:o.op=.entry y) (hy:bM y=some y') (p:evalOp P (.mentry y') o.dst F L ρ K):o.wp P a w (bF F L w a K) Q:=by
 have ey:=aH hy he;simp only[evalOp] at p;split at p
 case h_2=>exact p.elim
 rename_i k hm;split at p
 case h_2=>exact p.elim
 rename_i gi g n d hk;obtain⟨km,cs,j,e,ab,ad,r,b,hj,al⟩:=p.out;have hg:=xS hs ab ad;have z:w.heap[gi]?=some (.mapIter (some g) n (d.map i9).toArray n):=by
  have h:=hs.own k _ hk;simp only[Own.ok,nG,iC] at h;exact h
 have aa:a.eval y=.pointer (some ⟨gi,0,none⟩):=by rw[ey];simp only[val,hm,conc,hk]
 have m:∃l,d=l++[.int .i64 (.ofNat j)]:=by
  have q:d≠[]:=by rintro rfl;simp at b
  refine⟨d.dropLast,?_⟩;rw[List.getLast?_eq_some_getLast q] at b;injection b with b
  rw[<-b];exact(List.dropLast_concat_getLast q).symm
 obtain⟨l,rfl⟩:=m;have u:(aZ cs 0)[j]?=some (gB e j):=by rw[qp,hj];simp
 have f:(gB e j).born=j:=mB e j;have ac:((aZ cs 0).toArray.toList.map (·.born)).Nodup:=by
  have:∀(cs:List Value) (i:Nat),(aZ cs i).map (·.born)=List.range' i cs.length:=by
   intro cs
   induction cs with
   | nil=>intro i;rfl
   | cons c cs ih=>intro i;simp[aZ,mB,ih,List.range'_succ]
  simp only[List.toList_toArray,this];exact List.nodup_range' ..
 have t:((l++[Value.int .i64 (.ofNat j)]).map i9).toArray=(l.map i9).toArray.push (gB e j).born:=by
  rw[f];simp[i9]
 rw[t,<-r] at z;have s:=run_entry_at (P:=P) w gi g cs.length (l.map i9).toArray (aZ cs 0).toArray cs.length (gB e j) z hg (by simpa using aaU u) ac;refine bX hs he hd (v:=.tuple #[(gB e j).key,(gB e j).val]) (x:=.v (.tuple #[(gB e j).key,(gB e j).val])) ?_ rfl cB eZ al;simp only[execOp,ho,aa,Sem.run_bind,s,Result.andThen_ok,Sem.run_pure]
end
section
variable {P:Program}{F:aA}{L:Loc}{ρ:Env}{a:Act}{w:World}{K:dI}{o:Oper}{Q:Exit->Act->World->Prop}
theorem Fq {zs:List Value}{l:List (Nat×Nat×X)}(h:(l.all fun p=>Nat.ble (p.1+p.2.1) zs.length)=true):∀off n x,(off,n,x)∈l->off+n<=zs.length:=by
 intro off n x b;have:=aa1.1 h _ b;exact abb this
set_option maxHeartbeats 1000000 in
theorem fN {own:Bool}{s:dZ}(p:St F L w) (he:aC L ρ a) (hd:∀k,o.dst=some k->k<a.tmps.size) (j:iE P own o.op=some s)
  (l:evalOp P s o.dst F L ρ K):o.wp P a w (bF F L w a K) Q:=by
 cases m:o.op<;>rw[m] at j<;>simp only[iE] at j<;>try (cases j;done)
 case move y =>
  split at j
  case h_2=>cases j
  rename_i x hx;injection j with j;subst j
  exact JS p he hd (.inl m) hx l
 case assign y =>
  split at j
  case h_2=>cases j
  rename_i x hx;injection j with j;subst j
  exact JS p he hd (.inr m) hx l
 case pick c y z =>
  split at j
  case h_2=>cases j
  rename_i h1 h2 h3;injection j with j;subst j
  exact MZ p he hd m h1 h2 h3 l
 case box t y =>
  split at j
  case h_2=>cases j
  rename_i h1 aa;have aa:=abR aa;injection j with j
  cases own
  ·subst j;exact R5 p he hd m h1 aa l
  ·subst j;exact Nb p he hd m h1 l
 case alloc t =>
  split at j
  case h_2=>cases j
  rename_i h1 aa;have aa:=abR aa;split at j
  case h_2=>cases j
  rename_i h2;injection j with j;subst j
  exact JT p he hd m h1 h2 aa l
 case buildSlice t n ps =>
  split at j
  case h_2=>cases j
  rename_i h1 h2;split at j
  case h_2=>cases j
  rename_i h3;split at j
  case h_2=>cases j
  rename_i h4 h5 h6;have h4:=abu h4;have h5:=abu h5;injection j with j
  cases own
  ·subst j;exact R6 p he hd m h1 h3 h6 h2 h4 h5.1 l
  ·subst j;exact R7 p he hd m h1 h3 h6 h2 h4 h5.1 h5.2 l
 case build t ps =>
  split at j
  case h_2=>cases j
  rename_i h1 h2;split at j
  case h_2=>cases j
  rename_i h3 h4;split at j
  case h_2=>cases j
  rename_i h5 h6;injection j with j;subst j
  exact JU p he hd m h1 h2 h3 h4 (fun f hf=>aa1.1 h5 f hf) (Fq h6) l
 case load t y =>
  split at j
  ·rename_i d i x h1 h2 h3;injection j with j
   refine Nc (d:=d) (i:=i) (n:=match fj d with | true=>i.size | false=>1) p he hd m h1 h2 h3 rfl ?_;cases av:fj d<;>simp only[av] at j ⊢<;>subst j<;>exact l
  ·rename_i h1 h2 h3;cases y with
   | global g =>
    simp only[Aw] at j;split at j
    ·rename_i h4;injection j with j;subst j
     exact Dh p he hd m h1 h2 rfl h4 l
    ·cases j
   | tmp n=>cases j
   | const v=>cases j
   | func f=>cases j
  ·rename_i h1 h2 h3;split at j
   case h_2=>injection j with j;subst j;exact False.elim l
   rename_i h4;injection j with j;subst j
   cases y with
   | global g =>
    simp only[Aw] at h4;split at h4
    ·rename_i h5;injection h4 with h4;subst h4
     exact Dh p he hd m h1 h2 rfl h5 l
    ·cases h4
   | tmp n=>cases h4
   | const v=>cases h4
   | func f=>cases h4
  ·injection j with j;subst j
   exact False.elim l
  ·cases j
 case lookup t y z ok =>
  split at j
  ·cases j
  ·split at j
   case h_2=>cases j
   rename_i h1 h2 h3;split at j
   case h_3=>cases j
   ·rename_i h4 h5;split at j
    case h_2=>cases j
    rename_i h6;injection j with j;subst j
    exact Dl (str:=false) p he hd m h1 h4 h5 h6 h2 h3 l
   ·rename_i h4 h5;split at j
    case h_2=>cases j
    rename_i h6;injection j with j;subst j
    exact Dl (str:=true) p he hd m h1 h4 h5 h6 h2 h3 l
 case makeMap t r =>
  cases r with
  | none =>
   simp only[iE,aaO] at j;subst j;exact J8 p he hd m l
  | some r=>simp only[iE] at j;cases j
 case mapUpdate t y z u =>
  split at j
  case h_2=>cases j
  rename_i h1 h2 h3 h4;split at j
  case h_3=>cases j
  ·rename_i h5;injection j with j;subst j
   exact wV (str:=false) p he hd (.inl m) h1 h5 h2 h3 h4 l
  ·rename_i h5;injection j with j;subst j
   exact wV (str:=true) p he hd (.inl m) h1 h5 h2 h3 h4 l
 case insert t y z u =>
  split at j
  case h_2=>cases j
  rename_i h1 h2 h3 h4;split at j
  case h_3=>cases j
  ·rename_i h5;injection j with j;subst j
   exact wV (str:=false) p he hd (.inr m) h1 h5 h2 h3 h4 l
  ·rename_i h5;injection j with j;subst j
   exact wV (str:=true) p he hd (.inr m) h1 h5 h2 h3 h4 l
 case range t y =>
  split at j
  case h_2=>cases j
  rename_i h1 h2;injection j with j;subst j
  exact Io p he hd m h1 h2 l
 case entry y =>
  split at j
  case h_2=>cases j
  rename_i h1;injection j with j;subst j
  exact Ip p he hd m h1 l
 case next y b =>
  cases b with
  | true=>simp only[iE] at j;cases j
  | false =>
   simp only[iE] at j;split at j
   case h_2=>cases j
   rename_i h1;injection j with j;subst j
   exact J9 p he hd m h1 l
 case store t y z =>
  split at j
  case h_2=>cases j
  rename_i h1 h2 h3;split at j
  case h_1=>cases j
  rename_i h4;have h4:=abR h4;injection j with j;subst j
  exact J3 p he hd m h1 h4 h2 h3 l
 case makeInterface t y =>
  split at j
  ·cases j
  ·rename_i d x h1 h2 h3;injection j with j;subst j
   exact Ni p he hd m h2 h1 h3 l
  ·cases j
 case typeAssert y xt t ok =>
  cases ok with
  | false=>cases j
  | true =>
   simp only[] at j;split at j
   ·cases j
   ·rename_i d i x h4 h1 h2 h3;split at j
    case h_2=>cases j
    rename_i h5;injection j with j;subst j
    exact Sf p he hd m h1 h4 h2 h5 h3 l
   ·cases j
 case panic y =>
  split at j
  case h_2=>cases j
  injection j with j;subst j
  exact l.elim
 case nilCheck y =>
  split at j
  case h_2=>cases j
  rename_i h1 h2;injection j with j;subst j
  exact J2 p he hd m h1 h2 l
 case binOp op t y z t' =>
  split at j
  case h_2=>cases j
  rename_i d x1 x2 h1 h2 h3;split at j<;>first
   | (cases j;done)
   | (injection j with j;subst j;first
     | exact JV (neg:=false) p he hd m h1 h2 h3 l
     | exact JV (neg:=true) p he hd m h1 h2 h3 l
     | exact JX (neg:=false) p he hd m h1 h2 h3 l
     | exact JX (neg:=true) p he hd m h1 h2 h3 l
     | exact R8 p he hd m h2 h3 l)
   | (split at j
      case h_2=>cases j
      rename_i k1 k2 k3;injection j with j;subst j
      first
       | exact J0 (neg:=false) p he hd m h1 k1 k2 k3 h2 h3 l
       | exact J0 (neg:=true) p he hd m h1 k1 k2 k3 h2 h3 l)
   | (split at j
      case h_2=>cases j
      rename_i k1;injection j with j;subst j
      first
       | exact JY (neg:=false) p he hd m h1 h2 h3 k1 l
       | exact JY (neg:=true) p he hd m h1 h2 h3 k1 l)
 case unOp op t y =>
  split at j
  case h_2=>cases j
  rename_i h1;injection j with j;subst j
  exact Ul p he hd m h1 l
 case convert s t y =>
  split at j
  case h_2=>cases j
  rename_i h1 h2 h3;injection j with j;subst j
  exact Nd p he hd m h1 h2 h3 l
 case makeFunc fn fi ca =>
  cases fn<;>simp only[] at j<;>try (cases j;done)
  ·split at j
   case h_2=>cases j
   rename_i h1 h2;injection j with j;subst j
   exact Nf p he hd m h1 h2 l
  ·split at j
   case h_2=>cases j
   rename_i h1 h2;injection j with j;subst j
   exact Nj p he hd m h1 h2 l
 case makeSlice t y z =>
  split at j
  case h_2=>cases j
  rename_i h1 h2 h3;split at j
  case h_2=>cases j
  rename_i h4;split at j
  case h_2=>cases j
  rename_i h5;split at j
  case h_2=>cases j
  rename_i h6 h7;injection j with j;subst j
  exact J4 p he hd m h1 h4 h5 (abu h6) (abu h7) h2 h3 l
 case slice t y lo up mx =>
  cases mx<;>simp only[] at j<;>try (cases j;done)
  split at j
  case h_2=>cases j
  ·rename_i h1 h2 h3 h4;split at j
   case h_2=>cases j
   rename_i h5;injection j with j;subst j
   exact Sg p he hd m h1 h5 h2 h3 h4 l
 case fieldAddr t y f =>
  split at j
  case h_2=>cases j
  rename_i h1 h2;split at j
  case h_2=>cases j
  rename_i h3;split at j
  case h_2=>cases j
  rename_i h4;split at j
  case h_1=>cases j
  rename_i h5;injection j with j;subst j
  exact Ik p he hd m h1 h3 h4 (abR h5) h2 l
 case indexAddr t y z =>
  split at j
  case h_2=>cases j
  rename_i h1 h2 h3;split at j
  case h_2=>cases j
  rename_i h4;injection j with j;subst j
  exact Nh p he hd m h1 h4 h2 h3 l
 case extract y i =>
  split at j
  case h_2=>cases j
  rename_i h1;injection j with j;subst j
  exact Ng p he hd m h1 l
 case call c =>
  split at j
  case h_1=>cases j
  rename_i args q;split at j
  ·rename_i f hc;split at j
   case h_2=>cases j
   split at j
   case h_2=>cases j
   injection j with j;subst j
   exact Nk p he hd m hc q l
  ·rename_i y hc;split at j
   case h_2=>cases j
   rename_i h1;injection j with j;subst j
   exact J7 p he hd m hc h1 q l
  ·rename_i n nm hc;injection j with j;subst j
   exact Si p he hd m hc q l
  ·cases j
  ·rename_i b hc;have one:∀{x:X},args=[x]->∃y,c.args=#[y]/\bM y=some x:=by
    intro x e;subst e
    match ac:c.args.toList,q with
    | [],h=>simp[gL] at h
    | [y],h =>
     refine⟨y,by apply Array.ext';simpa using ac,?_⟩;simp only[gL] at h;split at h
     case h_2=>cases h
     rename_i h1 h2;injection h with h
     injection h with h _
     rw[h1,h]
    | y::z::r,h =>
     simp only[gL] at h;split at h
     case h_2=>cases h
     rename_i h1 h2;injection h with h
     injection h with _ h
     subst h;split at h2
     ·injection h2 with h2;cases h2
     ·cases h2
   have two:∀{x x':X},args=[x,x']->∃y y',c.args=#[y,y']/\bM y=some x/\bM y'=some x':=by
    intro x x' e;subst e
    match ac:c.args.toList,q with
    | [],h=>simp[gL] at h
    | [y],h =>
     simp only[gL] at h;split at h
     case h_2=>cases h
     rename_i h1 h2;injection h2 with h2
     injection h with h
     injection h with _ h
     rw[h] at h2;cases h2
    | [y,y'],h =>
     refine⟨y,y',by apply Array.ext';simpa using ac,?_⟩;simp only[gL] at h;split at h
     case h_2=>cases h
     rename_i h1 h2;injection h with h
     injection h with h h'
     split at h2
     case h_2=>cases h2
     rename_i h3 h4;injection h2 with h2
     rw[<-h2] at h';injection h' with h' _
     exact⟨by rw[h1,h],by rw[h3,h']⟩
    | y::z::u::r,h =>
     simp only[gL] at h;split at h
     case h_2=>cases h
     rename_i h1 h2;injection h with h
     injection h with _ h
     subst h;split at h2
     case h_2=>cases h2
     rename_i h3 h4;injection h2 with h2
     injection h2 with _ h2
     subst h2;split at h4
     ·injection h4 with h4;cases h4
     ·cases h4
   have an:∀{t:TypeId},c.argTypes.toList=[t]->c.argTypes=#[t]:=fun e=>by apply Array.ext';simpa using e
   have ao:∀{t t':TypeId},c.argTypes.toList=[t,t']->c.argTypes=#[t,t']:=fun e=>by apply Array.ext';simpa using e
   split at j
   ·rename_i x t ad;obtain⟨y,ha,hy⟩:=one rfl;split at j
    ·rename_i h1;injection j with j;subst j
     exact Sc p he hd m hc ha (an ad) h1 hy l
    ·cases j
   ·injection j with j;subst j
    exact QT (mx:=true) p he hd m hc q l
   ·injection j with j;subst j
    exact QT (mx:=false) p he hd m hc q l
   ·rename_i x x' t t' ad;obtain⟨y,y',ha,hy,ar⟩:=two rfl;split at j
    ·rename_i h1 h2;split at j
     case h_2=>cases j
     rename_i h3;split at j
     case h_2=>cases j
     rename_i h4;split at j
     case h_2=>cases j
     rename_i h5 h6 h7;have h5:=abu h5;subst h5;injection j with j;subst j
     exact Sh p he hd m hc ha (ao ad) h1 h3 h4 (abu h6) (abu h7) hy ar l
    ·cases j
   ·cases j
end
structure cI where
 n:Nat
 own:List Nat:=[]
 frz:List (Nat×Nat×List Nat):=[]
 ord:List (Nat×List Nat×List (List Nat)):=[]
 co:List Nat:=[]
 pan:List (Nat×Nat):=[]
 bx:List Nat:=[]
 fl:List Nat:=[]
 px:List Nat:=[]
 bk:List (Nat×Nat):=[]
def vR:List (Nat×Nat)->Nat->Nat->Bool
 | [],_,_=>false
 | (r,i)::l,c,b=>match Nat.beq r c&&Nat.beq i b with | true=>true | false=>vR l c b
def nH (b:Bool) (d:Option Nat) (s:dZ) (g:Option (Nat×Bool)):ak:=match b with | true=>.pc d s g | false=>.op d s g
def cI.owned (A:cI):Option Nat->Bool
 | some d=>fM A.own d
 | none=>false
def cI.isO (A:cI):Option Nat->Bool
 | some d=>fM A.co d
 | none=>fM A.co 999999
def cI.isX (A:cI):Option Nat->Bool
 | some d=>fM A.px d
 | none=>fM A.px 999999
def Ka:List (Nat×Nat×List Nat)->Nat->Nat->List Nat
 | [],_,_=>[]
 | (r,i,ks)::l,c,b=>match Nat.beq r c&&Nat.beq i b with | true=>ks | false=>Ka l c b
def Kb:List (Nat×List Nat×List (List Nat))->Nat->Option (List Nat×List (List Nat))
 | [],_=>none
 | (r,is)::l,b=>match Nat.beq r b with | true=>some is | false=>Kb l b
def Dm (l:List (Nat×List Nat×List (List Nat))) (r:Nat):List Nat:=match Kb l r with | some (is,_)=>is | none=>[]
def iG (c:Array Oper):Option (Nat×Bool)->Option (Option (Nat×Bool))
 | none=>some none
 | some (j,b)=>match(c[j]?).bind (·.dst) with
  | some d=>some (some (d,b))
  | none=>none
def QU (n:Nat):Option Nat->Bool
 | none=>true
 | some d=>Nat.blt d n
def qq (P:Program) (A:cI) (r:Nat) (b:Array Oper):List Nat->Option (List ak)
 | []=>some []
 | i::is=>match b[i]? with
  | none=>none
  | some o=>match iG b o.guard,iE P (A.owned o.dst) o.op,QU A.n o.dst,qq P A r b is with
   | some g,some s,true,some c=>some ((Ka A.frz r i).map .frz++nH (vR A.pan r i) o.dst s g::c)
   | _,_,_,_=>none
section
variable {P:Program}{F:aA}{L:Loc}{ρ:Env}{a:Act}{w:World}{K:dI}{Q:Exit->Act->World->Prop}
def eJ (n:Nat) (F:aA) (L:Loc) (w:World) (a:Act) (asg:List Nat) (K:dI) (a':Act) (w':World):Prop :=
 ∃F' L' ρ',St F' L' w'/\aC L' ρ' a'/\a'.tmps.size=n/\a'.defers=a.defers/\Step F L w F' L' w'/\(∀j,j∉asg->a'.tmps.getD j undef=a.tmps.getD j undef)/\K F' L' ρ'
theorem qY {k:Nat}{KK:aA->Loc->Prop}(hs:St F L w) (he:aC L ρ a) (h:QS F L k KK):∃F' L',St F' L' w/\aC L' ρ a/\Step F L w F' L' w/\KK F' L':=by
 obtain⟨v,t,sz,n,xs,hk,hK⟩:=h;have d:=hs.own k _ hk;simp only[Own.ok] at d;have r:=hs.part (Loc.aaA L k);have m:aC (L.del k) ρ a:=by
  have hb:∀j g ty cs,L.get j=some (.box g ty cs)->(L.del k).get j=some (.box g ty cs):=by
   intro j g ty cs e;rw[Loc.aah];split
   ·rename_i hj;subst hj;rw[hk] at e;cases e
   ·exact e
  refine⟨fun j=>?_,fun j o off e=>?_,he.el⟩
  ·rw[he.eq j];cases e:ρ j with
   | v x=>rfl
   | el x y=>rfl
   | own o off =>
    obtain⟨g,ty,cs,c⟩:=he.own j o off e;simp only[conc,c,hb o g ty cs c]
  ·obtain⟨g,ty,cs,c⟩:=he.own j o off e;exact⟨g,ty,cs,hb o g ty cs c⟩
 have ad:∀g,v.ownBlock=some g->¬(L.del k).owns g:=by
  rintro g c ⟨j,p,e,hb⟩;rw[Loc.aah] at e;split at e
  ·cases e
  ·rename_i hj;exact hj (hs.sep j k p _ g e hk hb c)
 obtain⟨hx,l⟩:=d;rcases l with⟨rfl,rfl⟩ | ⟨g,cap,ae,rfl,am,c,ag,an,ar,f⟩
 ·refine⟨F,L.del k,r,m,⟨aA.le_refl F,rfl,rfl,rfl,aa2 _,fun _ _ _=>rfl,fun b h=>.inl h,fun b h=>.inl (Loc.aaw h)⟩,hK F (aA.le_refl F) (.inl ⟨rfl,rfl,aby (by simpa using hx)⟩)⟩
 ·have q:=aA.aav hs c;refine⟨_,L.del k,r.freeze c (ad g rfl),m,⟨q,rfl,rfl,rfl,aa2 _,fun _ _ _=>rfl,fun b h=>?_,fun b h=>.inl (Loc.aaw h)⟩,hK _ q (.inr ⟨⟨g,0,none⟩,cap,rfl,⟨_,ae,t,(0,0),rfl,fo rfl,rfl,fun i u z=>?_⟩,ag⟩)⟩
  ·by_cases s:b=g
   ·subst s;exact .inr (.inl ⟨k,_,hk,rfl⟩)
   ·simp only[o5 s] at h;exact .inl h
  ·rw[<-f,abL] at z;split at z
   ·simpa using z
   ·cases z
theorem sB {k g:Nat}{t:TypeId}{cs:List Value}(m:St F L w) (he:aC L ρ a) (n:L.get k=some (.box g t cs)) :
  ∃F',F.le F'/\F' g=some (nG t cs)/\St F' (L.del k) w/\aC (L.del k) (xK k g ρ) a/\Step F L w F' (L.del k) w:=by
 have s:=m.own k _ n;simp only[Own.ok] at s;have z:=m.part (Loc.aaA L k);have d:=aA.aav m s;have r:¬(L.del k).owns g:=by
  rintro⟨j,p,e,hb⟩;rw[Loc.aah] at e;split at e
  ·cases e
  ·rename_i hj;exact hj (m.sep j k p _ g e n hb rfl)
 refine⟨_,d,fo rfl,z.freeze s r,⟨fun j=>?_,fun j q off e=>?_,fun j ad i e=>?_⟩,⟨d,rfl,rfl,rfl,aa2 _,fun _ _ _=>rfl,fun b h=>?_,fun b h=>.inl (Loc.aaw h)⟩⟩
 ·rw[he.eq j];simp only[xK];cases e:ρ j with
  | v x=>rfl
  | el x y=>rfl
  | own q off =>
   simp only[];cases hb:Nat.beq q k with
   | true =>
    have:=aaR hb;subst this;simp only[conc,n]
   | false =>
    have c:q≠k:=fun e=>by rw[e] at hb;simp at hb
    simp only[conc];rw[Loc.aah,o5 c]
 ·simp only[xK] at e;split at e
  ·rename_i o f u;cases hb:Nat.beq o k with
   | true=>rw[hb] at e;cases e
   | false =>
    rw[hb] at e;injection e with e3 e4
    subst e3;have c:o≠k:=fun e=>by rw[e] at hb;simp at hb
    rw[Loc.aah,o5 c];exact he.own j o f u
  ·cases e
  ·cases e
 ·simp only[xK] at e;split at e
  ·split at e<;>cases e
  ·cases e
  ·rename_i a2 i2 u;injection e with h1 h2
   subst h1;exact he.el j _ _ u
 ·by_cases l:b=g
  ·subst l;exact .inr (.inl ⟨k,_,n,rfl⟩)
  ·simp only[o5 l] at h;exact .inl h
theorem qZ {s:Nat}{b:Bool}(h:a.tmps.getD s undef=.bool b):a.tmps[s]?=some (.bool b):=by
 rw[aa9] at h;cases e:a.tmps[s]? with
 | none=>rw[e] at h;simp[undef] at h
 | some v=>rw[e] at h;simp at h;rw[h]
theorem kV {ρ:Env}{s:Nat}{v:Value}(h:ρ s=.v v):put (some s) (.v v) ρ=ρ:=by
 funext t
 rw[put_eq];simp only[];split
 ·rename_i h1;subst h1;exact h.symm
 ·rfl
def dstsOf (b:Array Oper):List Nat->List Nat
 | []=>[]
 | i::is=>match(b[i]?).bind (·.dst) with | some d=>d::dstsOf b is | none=>dstsOf b is
theorem kC {d:Option Nat}{v:Value}{j:Nat}(h:d≠some j):(a.put d v).tmps.getD j undef=a.tmps.getD j undef:=by
 cases d with
 | none=>rfl
 | some k =>
  simp only[Act.put,aa9,Array.getElem?_setIfInBounds];rw[o5 (by intro e;exact h (by rw[e]))]
theorem qt {o:Oper}{asg:List Nat}{KK:Act->World->Prop}(b:o.wp P a w KK Q) :
  o.wp P a w (fun a' w'=>KK a' w'/\∀j,o.dst≠some j->a'.tmps.getD j undef=a.tmps.getD j undef) Q:=by
 unfold Oper.wp at b ⊢;generalize(execOp a.eval o).run P w=r at b ⊢;cases r with
 | ok d w' =>
  cases d<;>simp only[Oper.upon] at b ⊢<;>first
   | exact⟨b,fun j h=>kC h⟩
   | exact Calls.mono b (fun e c he=>by cases e<;>first | exact⟨he,fun j h=>kC h⟩ | exact he)
   | exact Rows.mono b (fun v c he=>⟨he,fun j h=>kC h⟩)
 | halt x w'=>cases x<;>simp only[Oper.upon] at b ⊢<;>exact b
theorem uU {c:Code}(I:Nat->Act->World->Prop) (t:∃n,I n a w)
  (q:∀n a w,I n a w->c.wp P (Exit.then (fun a' w'=>∃m,m<n/\I m a' w') Q) a w):(Code.loop c).wp P Q a w:=by
 intro b k cs;have key:∀n a w,I n a w->∃e a' w',Q e a' w'/\Arrives P (lone (b.at a (.code c::.inLoop c::k)) cs w) b k cs e a' w':=by
  intro n
  induction n using Nat.strongRecOn with
  | _ n ih =>
   intro a w z;obtain⟨e,f,h,o,d⟩:=q n a w z b (.inLoop c::k) cs;cases e with
   | normal =>
    obtain⟨m,y,p⟩:=o;obtain⟨s,v,u,r,j⟩:=ih m y f h p;exact⟨s,v,u,r,.of_steps (Steps.trans d (.one step_inLoop)) j⟩
   | exit id=>exact⟨_,f,h,o,.pass (x:=.inLoop c) rfl (fun _ _=>.inl (by simp)) d⟩
   | goto l=>exact⟨_,f,h,o,.pass (x:=.inLoop c) rfl (fun _ _=>.inl (by simp)) d⟩
   | ret=>exact⟨_,f,h,o,.pass (x:=.inLoop c) rfl (fun _ _=>.inl (by simp)) d⟩
   | panic ch=>exact⟨_,f,h,o,.pass (x:=.inLoop c) rfl (fun _ _=>.inl (by simp)) d⟩
   | outgrown=>exact⟨_,f,h,o,.pass (x:=.inLoop c) rfl (fun _ _=>.inl (by simp)) d⟩
 obtain⟨n,z⟩:=t;obtain⟨e,a',w',o,d⟩:=key n a w z;exact⟨e,a',w',o,.of_steps (.one step_loop) d⟩
theorem q9:∀{L L':Loc},L.keeps L'->∀{k g t cs},L.get k=some (.box g t cs)->∃cs',L'.get k=some (.box g t cs')
 | [],L',_,k,g,t,cs,e=>by cases e
 | (j,.box c d cs')::l,L',h,k,g,t,cs,e=>by
  simp only[Loc.keeps] at h;simp only[Loc.get] at e;split at e
  ·rename_i b;have:=aaR b;subst this;injection e with e
   injection e with e1 e2 e3
   subst e1 e2;exact h.1
  ·exact q9 h.2 e
 | (j,.row ..)::l,L',h,k,g,t,cs,e=>by
  simp only[Loc.keeps] at h;simp only[Loc.get] at e;split at e
  ·cases e
  ·exact q9 h e
theorem mh {L:Loc}:∀{L':Loc},L.gives L'->∀{k o},L'.get k=some o->L.get k=some o\/(L.get k=none/\∃t sz,o=.row (.slice none 0 0) t sz 0 [])
 | [],_,k,o,e=>by cases e
 | (j,p)::l,h,k,o,e=>by
  simp only[Loc.gives] at h;simp only[Loc.get] at e;split at e
  ·rename_i b;have:=aaR b;subst this;injection e with e
   subst e;exact h.1
  ·exact mh h.2 e
theorem St.gives {L':Loc}(b:St F L w) (h:L.gives L'):St F L' w:=by
 refine⟨b.frz,fun k o e=>?_,fun k o g e hb=>?_,fun k f o o' g e j hb c=>?_,b.glob⟩
 ·rcases mh h e with h1 | ⟨_,t,sz,rfl⟩
  ·exact b.own k o h1
  ·exact World.ownsRow_nil w 0 t sz
 ·rcases mh h e with h1 | ⟨_,t,sz,rfl⟩
  ·exact b.off k o g h1 hb
  ·cases hb
 ·rcases mh h e with h1 | ⟨_,t,sz,rfl⟩<;>rcases mh h j with d | ⟨_,m,l,rfl⟩
  ·exact b.sep k f o o' g h1 d hb c
  ·cases c
  ·cases hb
  ·cases hb
theorem sD {L':Loc}(h:L.gives L'):Step F L w F L' w :=
 ⟨aA.le_refl F,rfl,rfl,rfl,aa2 _,fun _ _ _=>rfl,fun b h=>.inl h,fun b ⟨k,o,e,hb⟩=>by
  rcases mh h e with h1 | ⟨_,t,sz,rfl⟩
  ·exact .inl ⟨k,o,h1,hb⟩
  ·cases hb⟩
theorem cS:∀{l:List Nat}{k:Nat},fM l k=true↔k∈l
 | [],k=>by simp[fM]
 | j::l,k=>by
  simp only[fM];split
  ·rename_i h;have:=aaR h;subst this;simp
  ·rename_i h;have:=gK h;rw[cS];simp only[aaX];constructor
   ·exact .inr
   ·rintro(h | h)
    ·exact vv h.symm this
    ·exact h
theorem oZ:∀(c:List Nat) (b:List Value) (ρ:Env) (j:Nat),(puts c (b.map .v) ρ j=ρ j)\/∃v,puts c (b.map .v) ρ j=.v v
 | [],b,ρ,j=>.inl rfl
 | k::c,[],ρ,j=>.inl rfl
 | k::c,v::b,ρ,j=>by
  simp only[aaZ,puts,put_eq];split
  ·exact .inr ⟨v,rfl⟩
  ·exact oZ c b ρ j
theorem xT {L:Loc}:∀(d:List Nat) (c:List Value) (ρ b:Env) {a:Act},(∀t,a.tmps.getD t undef=conc L (ρ t))->holds d (c.map .v) ρ->∀j,(∃v,puts d (c.map .v) b j=.v v/\a.tmps.getD j undef=v)\/puts d (c.map .v) b j=b j
 | [],c,ρ,b,a,he,h,j=>.inr rfl
 | k::d,[],ρ,b,a,he,h,j=>.inr rfl
 | k::d,v::c,ρ,b,a,he,h,j=>by
  simp only[aaZ,holds] at h;simp only[aaZ,puts,put_eq];split
  ·rename_i e;subst e;exact .inl ⟨v,rfl,by rw[he,h.1];rfl⟩
  ·exact xT d c ρ b he h.2 j
end
def bA:dZ->List X
 | .mov x | .nilck x | .conv _ x | .un _ x | .eqN _ x | .fieldA _ x | .extr x _ | .len x | .loadD _ _ x | .boxD _ x | .loadK _ _ _ x | .loadF _ _ x | .loadR _ _ x | .makeSV _ _ _ _ x=>[x]
 | .mlook _ _ _ x i=>[x,i]
 | .pick c a b=>[c,a,b]
 | .bin _ x y | .eqB _ x y | .eqS _ x y | .eqA _ _ x y | .idxA _ x y=>[x,y]
 | .build _ ps=>ps.map (·.2.2)
 | .mkfn _ a b=>a++b
 | .slc _ x lo hi=>x::(lo.toList++hi.toList)
 | .mm _ l | .mkFD _ _ _ l=>l
 | .callD _ l=>l
 | .callVD f l=>f::l
 | .allocD _ _=>[]
 | .appD _ _ _ _ s x=>[s,x]
 | .storeD _ a x=>[a,x]
 | .storeK _ _ a x=>[a,x]
 | _=>[]
def cT:dZ->Bool
 | .mov _ | .nilck _ | .conv _ _ | .un _ _ | .fieldA _ _ | .extr _ _ | .len _ | .loadD _ _ _ | .pick _ _ _
 | .bin _ _ _ | .eqB _ _ _ | .eqS _ _ _ | .eqN _ _ | .eqA _ _ _ _ | .idxA _ _ _ | .build _ _ | .mkfn _ _ _ | .slc _ _ _ _ | .mm _ _ | .loadK _ _ _ _ | .loadF _ _ _ | .gload _ | .loadR _ _ _ | .mlook _ _ _ _ _=>true
 | _=>false
def Kc:dZ->Bool
 | .loadR _ _ _ | .mlook _ _ _ _ _=>true
 | _=>false
def hU:dZ->Bool
 | .callD _ _ | .callVD _ _=>true
 | _=>false
def eF:dZ->Bool
 | .mkFD _ _ _ _ | .boxD _ _ | .allocD _ _ | .makeSD _ _ _ _ | .makeSV _ _ _ _ _=>true
 | _=>false
def pW:dZ->Bool
 | .appD _ _ _ _ _ _=>true
 | _=>false
def iR:dZ->Bool
 | .storeD _ _ _=>true
 | .storeK _ _ _ _=>true
 | _=>false
def Dn:dZ->Bool
 | .mov _ | .nilck _ | .conv _ _ | .un _ _ | .fieldA _ _ | .extr _ _ | .len _ | .pick _ _ _
 | .bin _ _ _ | .eqB _ _ _ | .eqS _ _ _ | .eqN _ _ | .eqA _ _ _ _ | .idxA _ _ _ | .slc _ _ _ _ | .mm _ _=>true
 | _=>false
theorem Dp {o:dZ}(h:Dn o=true):cT o=true:=by cases o<;>first | rfl | cases h
theorem AL {o:dZ}(h:Dn o=true) {F F':aA}{L L':Loc}{ρ:Env}{V:SV->Prop}(a:aK o F L ρ V):aK o F' L' ρ V:=by
 cases o<;>first | (cases h;done) | exact a
def drawn:dZ->Option dZ
 | .load a n x=>some (.loadD a n x)
 | .call f l=>some (.callD f l)
 | .callV f l=>some (.callVD f l)
 | .box t x=>some (.boxD t x)
 | .alloc t z=>some (.allocD t z)
 | .mkF e n sz l=>some (.mkFD e n sz l)
 | .app e sz b z s x=>some (.appD e sz b z s x)
 | .store n a x=>some (.storeD n a x)
 | .boxD _ _ | .allocD _ _ | .mkFD _ _ _ _ | .callD _ _ | .callVD _ _ | .loadD _ _ _ | .appD _ _ _ _ _ _ | .storeD _ _ _ | .boxF _ _ | .callO _ _ | .callVO _ _ | .appX _ _ _ _ _ _ | .makeSD _ _ _ _ | .makeSV _ _ _ _ _ | .loadK _ _ _ _ | .storeK _ _ _ _ | .storeX _ _ _ | .makeS _ _ _ _ _ _ | .loadF _ _ _ | .loadR _ _ _ | .mkmap | .mupd _ _ _ _ | .mrange _ | .mnext _ | .mentry _=>none
 | o=>some o
def BW:X->Option Int
 | .c (.int _ n)=>some n
 | _=>none
def Sj (b:Nat) (n m:Int):Bool:=Nat.ble (n.toNat*b) 140737488355328&&Nat.ble n.toNat 9223372036854775807&&(match n,m with | .ofNat a,.ofNat b=>Nat.beq a b | _,_=>false)
def o4 (bx:List Nat):dZ->Option dZ
 | .makeS e sz b zs l c=>match BW l,BW c with
  | some n,some m=>match Sj b n m with
   | true=>some (.makeSD e sz n.toNat zs)
   | false=>none
  | _,_=>match l,c with
   | .t i,.t j=>match Nat.beq i j with
    | true=>some (.makeSV e sz b zs (.t i))
    | false=>none
   | _,_=>none
 | .mkR e 0 sz []=>some (.makeSD e sz 0 (List.replicate sz undef))
 | .load a n (.t i)=>match fM bx i with | true=>some (.loadK i a n (.t i)) | false=>some (.loadD a n (.t i))
 | .store n (.t i) x=>match fM bx i with | true=>some (.storeK i n (.t i) x) | false=>some (.storeD n (.t i) x)
 | o=>drawn o
def QV:List (Nat×Nat)->Nat->Option Nat
 | [],_=>none
 | (i,k)::l,j=>match Nat.beq i j with | true=>some k | false=>QV l j
def uV (fl:List Nat) (bk:List (Nat×Nat)) (bx:List Nat):dZ->Option dZ
 | .load a n (.t i)=>match fM fl i with
  | true=>some (.loadF a n (.t i))
  | false=>match QV bk i with
   | some key=>match Nat.beq key 999999 with
    | true=>some (.loadR a n (.t i))
    | false=>some (.loadK key a n (.t i))
   | none=>o4 bx (.load a n (.t i))
 | o=>o4 bx o
def xU:dZ->Option dZ
 | .call f l=>some (.callO f l)
 | .callV f l=>some (.callVO f l)
 | .app e sz b z s x=>some (.appX e sz b z s x)
 | .store n a x=>some (.storeX n a x)
 | .mupd str x i v=>some (.mupd str x i v)
 | _=>none
section
variable {P:Program}{F:aA}{L:Loc}{ρ:Env}{K:dI}
theorem cn {o:dZ}(h:cT o=true) (d:Option Nat):evalOp P o d F L ρ K=aK o F L ρ fun v=>K F L (put d v ρ):=by
 cases o<;>first | rfl | cases h
structure One (T:(SV->Prop)->Prop):Prop where
 ex:∀V,T V->∃v,T (fun u=>u=v)/\V v
 mono:∀V V':SV->Prop,(∀v,V v->V' v)->T V->T V'
theorem One.ret (v:SV):One fun V=>V v:=⟨fun V h=>⟨v,rfl,h⟩,fun V V' h k=>h v k⟩
theorem One.no:One fun _=>False:=⟨fun V h=>h.elim,fun V V' h k=>k⟩
theorem One.and {p:Prop}{T:(SV->Prop)->Prop}(h:One T):One fun V=>p/\T V :=
 ⟨fun V ⟨b,a⟩=>let⟨v,h1,h2⟩:=h.ex V a;⟨v,⟨b,h1⟩,h2⟩,fun V V' c ⟨b,a⟩=>⟨b,h.mono V V' c a⟩⟩
theorem One.fit {k:IntKind}{n:Int}{T:Int->(SV->Prop)->Prop}(h:∀m,One (T m)):One fun V=>Fit k n fun m=>T m V :=
 ⟨fun V ⟨a⟩=>let⟨v,h1,h2⟩:=(h _).ex V a;⟨v,⟨h1⟩,h2⟩,fun V V' b ⟨a⟩=>⟨(h _).mono V V' b a⟩⟩
theorem One.nz {n:Int}{T:(SV->Prop)->Prop}(h:One T):One fun V=>R2 n (T V) :=
 ⟨fun V ⟨b,a⟩=>let⟨v,h1,h2⟩:=h.ex V a;⟨v,⟨b,h1⟩,h2⟩,fun V V' c ⟨b,a⟩=>⟨b,h.mono V V' c a⟩⟩
theorem One.idx {a:Option Addr}{i n:Int}{T:(SV->Prop)->Prop}(h:One T):One fun V=>JM a i n (T V) :=
 ⟨fun V ⟨e,b,c,d⟩=>let⟨v,h1,h2⟩:=h.ex V d;⟨v,⟨e,b,c,h1⟩,h2⟩,fun V V' f ⟨e,b,c,d⟩=>⟨e,b,c,h.mono V V' f d⟩⟩
theorem One.slc {l h:Int}{c:Nat}{T:Nat->Nat->(SV->Prop)->Prop}(f:∀l h,One (T l h)):One fun V=>QM l h c fun l h=>T l h V :=
 ⟨fun V ⟨e,a,b,d⟩=>let⟨v,h1,h2⟩:=(f _ _).ex V d;⟨v,⟨e,a,b,h1⟩,h2⟩,fun V V' j ⟨e,a,b,d⟩=>⟨e,a,b,(f _ _).mono V V' j d⟩⟩
theorem One.loadD {a:Option Addr}{j n:Nat}{T:List Value->(SV->Prop)->Prop}(h:∀cs,One (T cs)):One fun V=>jo F a j n fun cs=>T cs V :=
 ⟨fun V ⟨cs,d,b,c⟩=>let⟨v,h1,h2⟩:=(h _).ex V c;⟨v,⟨cs,d,b,h1⟩,h2⟩,fun V V' e ⟨cs,d,b,c⟩=>⟨cs,d,b,(h _).mono V V' e c⟩⟩
theorem One.aaG {a:Option Addr}{j n:Nat}{T:List Value->(SV->Prop)->Prop}(h:∀cs,One (T cs)):One fun V=>kx F L a j n fun cs=>T cs V :=
 ⟨fun V ⟨cs,d,b,c⟩=>let⟨v,h1,h2⟩:=(h _).ex V c;⟨v,⟨cs,d,b,h1⟩,h2⟩,fun V V' e ⟨cs,d,b,c⟩=>⟨cs,d,b,(h _).mono V V' e c⟩⟩
theorem One.aaJ {g:Nat}{T:Nat->List Value->(SV->Prop)->Prop}(h:∀k cs,One (T k cs)):One fun V=>C8 L g fun k cs=>T k cs V :=
 ⟨fun V ⟨k,cs,c,a,b⟩=>let⟨v,h1,h2⟩:=(h _ _).ex V b;⟨v,⟨k,cs,c,a,h1⟩,h2⟩,fun V V' d ⟨k,cs,c,a,b⟩=>⟨k,cs,c,a,(h _ _).mono V V' d b⟩⟩
theorem One.mlk {str:Bool}{cs:List Value}{key:Value}{ok:Bool}{z:Value}:One fun V=>Gy str cs key ok z fun v=>V (.v v) :=
 ⟨fun V h=>by
  rcases h.out with⟨i,v,h1,h2⟩ | ⟨h1,h2⟩
  ·exact⟨_,⟨.inl ⟨i,v,h1,rfl⟩⟩,h2⟩
  ·exact⟨_,⟨.inr ⟨h1,rfl⟩⟩,h2⟩,fun V V' a h=>⟨h.out.imp (fun⟨i,v,h1,h2⟩=>⟨i,v,h1,a _ h2⟩) fun⟨h1,h2⟩=>⟨h1,a _ h2⟩⟩⟩
theorem One.gl {g:Nat}{T:Value->(SV->Prop)->Prop}(h:∀v,One (T v)):One fun V=>Uk F g fun v=>T v V :=
 ⟨fun V ⟨u,t,fr,b,a⟩=>let⟨v,h1,h2⟩:=(h _).ex V a;⟨v,⟨u,t,fr,b,h1⟩,h2⟩,fun V V' c ⟨u,t,fr,b,a⟩=>⟨u,t,fr,b,(h _).mono V V' c a⟩⟩
theorem One.bytes {cs:List Value}{T:List UInt8->(SV->Prop)->Prop}(h:∀a,One (T a)):One fun V=>MY cs fun a=>T a V :=
 ⟨fun V ⟨a,c,b⟩=>let⟨v,h1,h2⟩:=(h _).ex V b;⟨v,⟨a,c,h1⟩,h2⟩,fun V V' d ⟨a,c,b⟩=>⟨a,c,(h _).mono V V' d b⟩⟩
theorem One.binI {op:BinOp}{k:IntKind}{a b:Int}:One fun V=>binI op k a b fun v=>V (.v v):=by
 cases op<;>simp only[Fr.binI]<;>first
  | exact One.no
  | exact One.ret _
  | exact One.fit fun _=>One.ret _
  | exact One.nz (One.fit fun _=>One.ret _)
  | exact One.nz (One.ret _)
theorem One.shI {op:BinOp}{k:IntKind}{a b:Int}:One fun V=>shI op k a b fun v=>V (.v v):=by
 cases op<;>simp only[Fr.shI]<;>first
  | exact One.no
  | exact One.and (One.fit fun _=>One.ret _)
  | exact One.and (One.ret _)
theorem One.binS {op:BinOp}{a b:ByteArray}:One fun V=>binS op a b fun v=>V (.v v):=by
 cases op<;>simp only[Fr.binS]<;>first
  | exact One.no
  | exact One.ret _
  | exact One.and (One.ret _)
theorem fp {o:dZ}(h:cT o=true):One (aK o F L ρ):=by
 cases o<;>first | (cases h;done) | skip
 case mov x=>exact One.ret _
 case pick c a b =>
  show One fun V=>aK _ F L ρ V;simp only[aK];cases e:ev ρ c with
  | v x =>
    cases x<;>try exact One.no
    rename_i b;cases b<;>exact One.ret _
  | own k off=>exact One.no
  | el a j=>exact One.no
 case build zs ps =>
  show One fun V=>aK _ F L ρ V;simp only[aK];cases e:built L ρ zs ps with
  | none=>exact One.no
  | some cs=>exact One.ret _
 case loadD ag n x =>
  show One fun V=>aK _ F L ρ V;simp only[aK];cases e:ev ρ x with
  | own k off =>
   simp only[];cases m:L.get k with
   | none=>exact One.no
   | some p =>
    cases p with
    | row=>exact One.no
    | box g t cs =>
     simp only[];cases q:jt t ((cs.drop off).take n) n
     ·exact One.no
     ·exact One.ret _
  | el a j=>exact One.loadD fun _=>One.ret _
  | v x =>
   cases x<;>try exact One.no
   rename_i a;cases a
   ·exact One.no
   ·exact One.loadD fun _=>One.ret _
 case gload g =>
  show One fun V=>aK _ F L ρ V;simp only[aK];exact One.gl fun _=>One.ret _
 case loadR ag n x =>
  show One fun V=>aK _ F L ρ V;simp only[aK];cases e:ev ρ x with
  | own k off =>
   simp only[];cases m:L.get k with
   | none=>exact One.no
   | some p =>
    cases p with
    | row=>exact One.no
    | box g t cs =>
     simp only[];cases q:jt t ((cs.drop off).take n) n
     ·exact One.no
     ·exact One.ret _
  | el a j=>exact One.aaG fun _=>One.ret _
  | v x =>
   cases x<;>try exact One.no
   rename_i a;cases a
   ·exact One.no
   ·exact One.aaG fun _=>One.ret _
 case mlook str ok z0 x i =>
  show One fun V=>aK _ F L ρ V;simp only[aK];cases e:ev ρ x with
  | own k off=>exact One.no
  | el a j=>exact One.no
  | v x =>
   cases x<;>try exact One.no
   rename_i a;cases a
   ·exact One.no
   ·exact One.aaJ fun k cs=>One.mlk
 case loadF ag n x =>
  show One fun V=>aK _ F L ρ V;simp only[aK];cases e:ev ρ x with
  | own k off=>exact One.no
  | el a j=>exact One.loadD fun _=>One.ret _
  | v x =>
   cases x<;>try exact One.no
   rename_i a;cases a
   ·exact One.no
   ·exact One.loadD fun _=>One.ret _
 case loadK key ag n x =>
  show One fun V=>aK _ F L ρ V;simp only[aK];cases e:ev ρ x with
  | own k off =>
   simp only[];cases e1:Nat.beq k key with
   | false=>exact One.no
   | true =>
    simp only[];cases m:L.get k with
    | none=>exact One.no
    | some p =>
     cases p with
     | row=>exact One.no
     | box g t cs =>
      simp only[];cases q:jt t ((cs.drop off).take n) n
      ·exact One.no
      ·exact One.ret _
  | el a j=>exact One.no
  | v x=>exact One.no
 case nilck x =>
  show One fun V=>aK _ F L ρ V;simp only[aK];cases e:ev ρ x with
  | own k off=>exact One.ret _
  | el a j=>exact One.and (One.ret _)
  | v x =>
   cases x<;>try exact One.no
   ·rename_i a;cases a
    ·exact One.no
    ·exact One.ret _
   ·rename_i f a b;cases f<;>first
     | exact One.no
     | exact One.ret _
     | (simp only[]
        split
        ·exact One.and (One.ret _)
        ·exact One.no)
 case bin op x y =>
  show One fun V=>aK _ F L ρ V;simp only[aK];cases e:ev ρ x with
  | own k off=>exact One.no
  | el a j=>exact One.no
  | v u =>
   cases m:ev ρ y with
   | own k off=>cases u<;>exact One.no
   | el a j=>cases u<;>exact One.no
   | v d =>
    cases u<;>cases d<;>try exact One.no
    ·simp only[];cases JO op
     ·simp only[];rename_i k n w n';cases qi k w
      ·exact One.no
      ·exact One.binI
     ·exact One.shI
    ·exact One.binS
 case eqB ng x y =>
  show One fun V=>aK _ F L ρ V;simp only[aK];cases e:ev ρ x with
  | own k off=>exact One.no
  | el a j=>exact One.no
  | v u =>
   cases m:ev ρ y with
   | own k off=>cases u<;>exact One.no
   | el a j=>cases u<;>exact One.no
   | v d=>cases u<;>cases d<;>first | exact One.no | exact One.ret _
 case eqS ng x y =>
  show One fun V=>aK _ F L ρ V;simp only[aK];cases e:ev ρ x with
  | own k off=>exact One.no
  | el a j=>exact One.no
  | v u =>
   cases m:ev ρ y with
   | own k off=>cases u<;>exact One.no
   | el a j=>cases u<;>exact One.no
   | v d =>
    cases u<;>cases d<;>try exact One.no
    rename_i a1 l1 c1 z l2 c2;cases z<;>first | exact One.no | exact One.ret _
 case eqN ng x =>
  show One fun V=>aK _ F L ρ V;simp only[aK];cases e:ev ρ x with
  | own k off=>exact One.no
  | el a j=>exact One.no
  | v u=>cases u<;>first | exact One.no | exact One.ret _
 case eqA ng ks x y =>
  show One fun V=>aK _ F L ρ V;simp only[aK];cases e:ev ρ x with
  | own k off=>exact One.no
  | el a j=>exact One.no
  | v u =>
   cases m:ev ρ y with
   | own k off=>cases u<;>exact One.no
   | el a j=>cases u<;>exact One.no
   | v d =>
    cases u<;>cases d<;>try exact One.no
    rename_i cs ds;simp only[];cases ji ks cs.toList ds.toList true<;>first | exact One.no | exact One.ret _
 case un op x =>
  show One fun V=>aK _ F L ρ V;simp only[aK];cases op<;>cases e:ev ρ x<;>first
   | exact One.no
   | (rename_i u;cases u<;>first | exact One.no | exact One.ret _ | exact One.fit fun _=>One.ret _)
 case conv k x =>
  show One fun V=>aK _ F L ρ V;simp only[aK];cases e:ev ρ x<;>first
   | exact One.no
   | (rename_i u;cases u<;>first | exact One.no | exact One.fit fun _=>One.ret _)
 case mkfn f a b=>exact One.ret _
 case slc sz x lo hi =>
  show One fun V=>aK _ F L ρ V;simp only[aK];cases e:ev ρ x<;>try exact One.no
  rename_i u;cases u<;>try exact One.no
  rename_i a n c;simp only[];cases nR ρ 0 lo<;>cases nR ρ n hi<;>first | exact One.no | exact One.slc fun _ _=>One.ret _
 case fieldA off x =>
  show One fun V=>aK _ F L ρ V;simp only[aK];cases e:ev ρ x with
  | own k off=>exact One.ret _
  | el a j=>exact One.ret _
  | v u =>
   cases u<;>try exact One.no
   rename_i p;cases p<;>first | exact One.no | exact One.ret _
 case idxA sz x i =>
  show One fun V=>aK _ F L ρ V;simp only[aK];cases e:ev ρ x with
  | own k off=>exact One.no
  | el a j=>exact One.no
  | v u =>
   cases m:ev ρ i with
   | own k off=>cases u<;>exact One.no
   | el a j=>cases u<;>exact One.no
   | v d=>cases u<;>cases d<;>first | exact One.no | exact One.idx (One.ret _)
 case extr x i =>
  show One fun V=>aK _ F L ρ V;simp only[aK];cases e:ev ρ x<;>try exact One.no
  rename_i u;cases u<;>try exact One.no
  rename_i s;simp only[];cases s.toList[i]?<;>first | exact One.no | exact One.ret _
 case len x =>
  show One fun V=>aK _ F L ρ V;simp only[aK];cases e:ev ρ x<;>try exact One.no
  rename_i u;cases u<;>first | exact One.no | exact One.ret _
 case mm mx l =>
  show One fun V=>aK _ F L ρ V;simp only[aK];cases e:l.map (ev ρ) with
  | nil=>exact One.no
  | cons u r =>
   cases u<;>try exact One.no
   rename_i u;cases u<;>try exact One.no
   rename_i k a0;simp only[];cases QR mx a0 r<;>first | exact One.no | exact One.ret _
end
theorem sF {P:Program}{s s':dZ}{d:Option Nat}{F:aA}{L:Loc}{ρ:Env}{K:dI}(h:drawn s=some s') (y:(cT s'||hU s'||eF s'||pW s'||iR s')=true) (aa:hU s'=false) (f:evalOp P s' d F L ρ K):evalOp P s d F L ρ (fun F' L' ρ'=>Real F' L'->K F' L' ρ'):=by
 have load:∀{a:Option Addr}{j n:Nat}{KK KK':List Value->Prop},jo F a j n KK->(∀cs,KK cs->KK' cs)->kx F L a j n KK':=by
  rintro a j n KK KK' ⟨cs,h1,h2,h3⟩ h4;exact⟨cs,h1,by rcases h2 with h2 | h2;exact .inl h2;exact .inr (.inr (.inl h2)),h4 _ h3⟩
 have app:∀{e sz b:Nat}{sv xv:Value}{KK KK':Loc->Value->Prop},qh F L d e sz b sv xv KK->(∀L' v,(Real F L'->KK L' v)->KK' L' v)->Gx F L e sz b sv xv KK':=by
  rintro e sz b sv xv KK KK' ⟨kd,n,xs,m,q,h1,⟨ad,c,h2,h3,h4⟩,h5,h6,h7,h8⟩ hk;refine⟨kd,n,xs,m,q,?_,⟨ad,c,h2,h3,?_⟩,h5,h6,h7,fun v z=>hk _ _ (h8 v z)⟩
  ·rcases h1 with h1 | ⟨_,h1⟩ | ⟨_,h1⟩
   ·exact .inl h1
   ·exact .inr (.inl h1)
   ·exact .inr (.inr h1)
  ·rcases h4 with h4 | h4
   ·exact .inl h4
   ·exact .inr (.inl h4)
 by_cases u:cT s'=true
 ·have p:=u;have h1:∀V V':SV->Prop,(∀v,V v->V' v)->aK s' F L ρ V->aK s F L ρ V':=by
   intro V V' hV o;have o:=(fp p).mono V V' hV o;cases s<;>simp only[drawn,aaO,reduceCtorEq] at h<;>subst h<;>first
    | exact o
    | (simp only[aK] at o ⊢
       split at o
       ·exact o
       ·exact load o fun _ h=>h
       ·exact load o fun _ h=>h
       ·exact o)
    | (simp only[aK] at o ⊢
       split at o
       ·exact load o fun _ h=>h
       ·exact o)
    | (exfalso;revert u;simp[cT];done)
  rw[cn p] at f;have h2:=h1 _ (fun v=>Real F L->K F L (put d v ρ)) (fun v z _=>z) f;cases s<;>simp only[drawn,aaO,reduceCtorEq] at h<;>subst h<;>first
   | exact h2
   | (exfalso;revert u;simp[cT];done)
 ·by_cases r:iR s'=true
  ·cases s<;>simp only[drawn,aaO,reduceCtorEq] at h<;>subst h<;>first | (cases r;done) | skip
   rename_i n a x;have l:(match iz (aM (val L ρ x)) n,kg (aM (val L ρ x)),ev ρ a with
    | true,true,.own k off=>match L.get k with
     | some (.box g t cs)=>match jt t ((cs.drop off).take n) n with
      | true=>K F (L.set k (.box g t (bV cs off (aM (val L ρ x))))) (put d (.v undef) ρ)
      | false=>False
     | _=>False
    | _,_,_=>False):=f
   clear f
   split at l
   case h_2=>exact l.elim
   rename_i e1 e2 e3;split at l
   case h_2=>exact l.elim
   rename_i e4;split at l
   case h_2=>exact l.elim
   rename_i e5;simp only[evalOp,e1,e2,e3,e4,e5];exact fun _=>l
  cases s<;>simp only[drawn,aaO,reduceCtorEq] at h<;>subst h<;>first
   | (exfalso;revert u y r;simp[cT,hU,eF,pW,iR];done)
   | (cases aa;done)
   | (simp only[evalOp] at f ⊢
      split at f
      ·exact app f fun _ _ h=>h
      ·exact f)
   | (simp only[evalOp] at f ⊢
      split at f
      ·split at f
       ·exact f
       ·exact f
      ·exact f)
   | (simp only[evalOp] at f ⊢
      split at f
      ·exact fun g F' w hg hr=>f g F' w hg hr
      ·exact f)
section
variable {P:Program}{F:aA}{L:Loc}{ρ:Env}{K:dI}
def Alike (o:dZ) (L L':Loc) (ρ ρ':Env):Prop:=∀x∈bA o,ev ρ' x=ev ρ x/\∀k off,ev ρ x=.own k off->L'.get k=L.get k
theorem Alike.val {o:dZ}{L L':Loc}{ρ ρ':Env}(h:Alike o L L' ρ ρ') {x:X}(b:x∈bA o):Fr.val L' ρ' x=Fr.val L ρ x:=by
 obtain⟨h1,h2⟩:=h x b;simp only[Fr.val,h1];cases e:ev ρ x with
 | v u=>rfl
 | el a j=>rfl
 | own k off=>simp only[conc,h2 k off e]
theorem dA {L L':Loc}{ρ ρ':Env}:∀{xs:List X},(∀x∈xs,Fr.val L' ρ' x=Fr.val L ρ x)->bn L' ρ' xs=bn L ρ xs
 | [],_=>rfl
 | x::xs,h=>by simp only[bn,h x (by simp),dA (xs:=xs) (fun y a=>h y (abk _ a))]
theorem cq {L L':Loc}{ρ ρ':Env}:∀{xs:List X},(∀x∈xs,Fr.val L' ρ' x=Fr.val L ρ x)->cellsOf L' ρ' xs=cellsOf L ρ xs
 | [],_=>rfl
 | x::xs,h=>by simp only[cellsOf,h x (by simp),cq (xs:=xs) (fun y a=>h y (abk _ a))]
theorem ny {L L':Loc}{ρ ρ':Env}{sz:Nat}:∀{xs:List X},(∀x∈xs,Fr.val L' ρ' x=Fr.val L ρ x)->gC L' ρ' sz xs=gC L ρ sz xs
 | [],_=>rfl
 | x::xs,h=>by simp only[gC,h x (by simp),ny (xs:=xs) (fun y a=>h y (abk _ a))]
theorem qu {L L':Loc}{ρ ρ':Env}:∀{ps:List (Nat×Nat×X)}{zs:List Value},(∀p∈ps,Fr.val L' ρ' p.2.2=Fr.val L ρ p.2.2)->built L' ρ' zs ps=built L ρ zs ps
 | [],zs,_=>rfl
 | (off,n,x)::ps,zs,h=>by
  have h1:=h (off,n,x) (by simp);simp only at h1;simp only[built,h1];split
  ·exact qu (fun p a=>h p (by simp[a]))
  ·rfl
theorem jo.up {F F':aA}(b:F.le F') {a:Option Addr}{j n:Nat}{K:List Value->Prop}(h:jo F a j n K):jo F' a j n K:=by
 obtain⟨cs,h1,h2,h3⟩:=h;exact⟨cs,h1,by rcases h2 with h2 | h2;exact .inl (h2.mono b);exact .inr h2,h3⟩
theorem kx.upF {F F':aA}(b:F.le F') {L:Loc}{a:Option Addr}{j n:Nat}{K:List Value->Prop}(h:kx F L a j n K):kx F' L a j n K:=by
 obtain⟨cs,h1,h2,h3⟩:=h;exact⟨cs,h1,by rcases h2 with h2 | h2;exact .inl (h2.mono b);exact .inr h2,h3⟩
theorem xV {ρ ρ':Env}{d:Int}{x:Option X}(h:∀y∈x.toList,ev ρ' y=ev ρ y):nR ρ' d x=nR ρ d x:=by
 cases x with
 | none=>rfl
 | some y=>simp only[nR,h y (by simp)]
theorem rf {o:dZ}(v:cT o=true) {F F':aA}{L L':Loc}{ρ ρ':Env}(r:F.le F') (H:Alike o L L' ρ ρ') {V:SV->Prop}(h:aK o F L ρ V) (s:Kc o=false\/L'=L:=by exact .inr rfl):aK o F' L' ρ' V:=by
 cases o<;>first | (cases v;done) | skip
 case build zs ps =>
  have e:=qu (ps:=ps) (zs:=zs) (L:=L) (L':=L') (ρ:=ρ) (ρ':=ρ') (fun p z=>H.val (abq.2 ⟨p,z,rfl⟩));simp only[aK,e] at h ⊢;exact h
 case mkfn f a b =>
  have j:=dA (xs:=a) (L:=L) (L':=L') (ρ:=ρ) (ρ':=ρ') (fun x m=>H.val (aaV.2 (.inl m)));have q:=dA (xs:=b) (L:=L) (L':=L') (ρ:=ρ) (ρ':=ρ') (fun x m=>H.val (aaV.2 (.inr m)));simp only[aK,j,q] at h ⊢;exact h
 case mm mx l =>
  have e:l.map (ev ρ')=l.map (ev ρ):=abX fun x m=>(H x m).1;simp only[aK,e] at h ⊢;exact h
 case slc sz x lo hi =>
  have e:=(H x (by simp[bA])).1;have j:∀d,nR ρ' d lo=nR ρ d lo:=fun d=>xV fun y w=>(H y (by simp only[bA];exact abk _ (aaV.2 (.inl w)))).1;have q:∀d,nR ρ' d hi=nR ρ d hi:=fun d=>xV fun y w=>(H y (by simp only[bA];exact abk _ (aaV.2 (.inr w)))).1;simp only[aK,e,j,q] at h ⊢;exact h
 case loadD ag n x =>
  obtain⟨e,j⟩:=H x (by simp[bA]);simp only[aK,e] at h ⊢;split at h
  ·rename_i k off m;simp only[j k off m];exact h
  ·exact h.up r
  ·exact h.up r
  ·exact h
 case gload g =>
  simp only[aK] at h ⊢;obtain⟨u,t,fr,h1,h2⟩:=h;exact⟨u,t,fr,r _ _ h1,h2⟩
 case loadR ag n x =>
  obtain⟨e,j⟩:=H x (by simp[bA]);rcases s with s | rfl
  ·cases s
  ·simp only[aK,e] at h ⊢;split at h
   ·exact h
   ·exact h.upF r
   ·exact h.upF r
   ·exact h
 case mlook str ok z0 x i =>
  obtain⟨e,j⟩:=H x (by simp[bA]);have q:val L' ρ' i=val L ρ i:=H.val (by simp[bA]);rcases s with s | rfl
  ·cases s
  ·simp only[aK,e,q] at h ⊢;exact h
 case loadF ag n x =>
  obtain⟨e,j⟩:=H x (by simp[bA]);simp only[aK,e] at h ⊢;split at h
  ·exact h.up r
  ·exact h.up r
  ·exact h
 case loadK key ag n x =>
  obtain⟨e,j⟩:=H x (by simp[bA]);simp only[aK,e] at h ⊢;split at h
  ·rename_i k off m;simp only[j k off m];exact h
  ·exact h
 case pick c a b =>
  have j:=(H c (by simp[bA])).1;have q:=(H a (by simp[bA])).1;have e3:=(H b (by simp[bA])).1;simp only[aK,j,q,e3] at h ⊢;exact h
 all_goals first
  | (have j:=(H _ (List.mem_cons_self ..)).1
     simp only[aK,j] at h ⊢;exact h)
  | (have j:=(H _ (List.mem_cons_self ..)).1
     have q:=(H _ (abk _ (List.mem_cons_self ..))).1;simp only[aK,j,q] at h ⊢;exact h)
theorem Ke {o:dZ}(h:cT o=true) {k off:Nat}(d:aK o F L ρ (fun u=>u=.own k off)):∃x∈bA o,∃f,ev ρ x=.own k f:=by
 cases o<;>first | (cases h;done) | skip
 case mov x=>exact⟨x,by simp[bA],off,d⟩
 case pick c a b =>
  simp only[aK] at d;split at d
  ·exact⟨a,by simp[bA],off,d⟩
  ·exact⟨b,by simp[bA],off,d⟩
  ·exact d.elim
 case nilck x =>
  simp only[aK] at d;split at d
  ·rename_i j f e;injection d with h1 h2
   subst h1;exact⟨x,by simp[bA],f,e⟩
  ·cases d.2
  ·cases d
  ·cases d
  ·split at d
   ·cases d.2
   ·exact d.elim
  ·exact d.elim
 case fieldA o' x =>
  simp only[aK] at d;split at d
  ·rename_i j f e;injection d with h1 h2
   subst h1;exact⟨x,by simp[bA],f,e⟩
  ·cases d
  ·cases d
  ·exact d.elim
 case bin op x y =>
  simp only[aK] at d;split at d
  ·split at d
   ·cases op<;>simp only[shI] at d<;>first | exact d.elim | (obtain⟨_,⟨d⟩⟩:=d;cases d;done) | (obtain⟨_,d⟩:=d;cases d;done)
   ·split at d
    ·cases op<;>simp only[binI] at d<;>first | exact d.elim | (cases d;done) | (obtain⟨d⟩:=d;cases d;done) | (obtain⟨_,⟨d⟩⟩:=d;cases d;done) | (obtain⟨_,d⟩:=d;cases d;done)
    ·exact d.elim
  ·cases op<;>simp only[binS] at d<;>first | exact d.elim | (cases d;done) | (obtain⟨_,d⟩:=d;cases d;done)
  ·exact d.elim
 case loadD ag n x =>
  simp only[aK] at d;split at d
  ·split at d
   ·split at d
    ·cases d
    ·exact d.elim
   ·exact d.elim
  ·obtain⟨cs,_,_,d⟩:=d;cases d
  ·obtain⟨cs,_,_,d⟩:=d;cases d
  ·exact d.elim
 case gload g =>
  simp only[aK] at d;obtain⟨u,t,fr,_,d⟩:=d;cases d
 case loadR ag n x =>
  simp only[aK] at d;split at d
  ·split at d
   ·split at d
    ·cases d
    ·exact d.elim
   ·exact d.elim
  ·obtain⟨cs,_,_,d⟩:=d;cases d
  ·obtain⟨cs,_,_,d⟩:=d;cases d
  ·exact d.elim
 case mlook str ok z0 x i =>
  simp only[aK] at d;split at d
  ·obtain⟨k,cs,_,_,⟨⟨i,v,_,d⟩ | ⟨_,d⟩⟩⟩:=d<;>cases d
  ·exact d.elim
 case loadF ag n x =>
  simp only[aK] at d;split at d
  ·obtain⟨cs,_,_,d⟩:=d;cases d
  ·obtain⟨cs,_,_,d⟩:=d;cases d
  ·exact d.elim
 case loadK key ag n x =>
  simp only[aK] at d;split at d
  ·split at d
   ·split at d
    ·split at d
     ·cases d
     ·exact d.elim
    ·exact d.elim
   ·exact d.elim
  ·exact d.elim
 all_goals
  simp only[aK] at d
  repeat' split at d
 all_goals first
  | exact d.elim
  | (cases d;done)
  | (obtain⟨d⟩:=d;cases d;done)
  | (obtain⟨_,_,d⟩:=d;cases d;done)
  | (obtain⟨_,_,_,d⟩:=d;cases d;done)
end
theorem Np {P:Program}{s s':dZ}{d:Option Nat}{F:aA}{L:Loc}{ρ:Env}{K:dI}(h:xU s=some s') (a:evalOp P s' d F L ρ K):evalOp P s d F L ρ (fun F' L' ρ'=>Real F' L'->K F' L' ρ'):=by
 cases s<;>simp only[xU,aaO,reduceCtorEq] at h<;>subst h
 case store=>exact a
 case mupd =>
  simp only[evalOp] at a ⊢;split at a
  ·obtain⟨k,cs,h1,h2,h3,cs',h4,h5⟩:=a;exact⟨k,cs,h1,h2,h3,cs',h4,fun _=>h5⟩
  ·exact a.elim
 ·simp only[evalOp] at a ⊢;exact a
 ·simp only[evalOp] at a ⊢;split at a
  ·exact a
  ·exact a.elim
 ·simp only[evalOp] at a ⊢;split at a
  ·exact a
  ·exact a.elim
theorem rR {P:Program}{F:aA}{L:Loc}{ρ:Env}{K:dI}{n:Nat}{a x:X}{d:Option Nat}:evalOp P (.storeD n a x) d F L ρ K=(match iz (aM (val L ρ x)) n,kg (aM (val L ρ x)),ev ρ a with
  | true,true,.own k off=>match L.get k with
   | Option.some (.box g t cs)=>match jt t ((cs.drop off).take n) n with
    | true=>K F (L.set k (.box g t (bV cs off (aM (val L ρ x))))) (put d (.v undef) ρ)
    | false=>False
   | _=>False
  | _,_,_=>False):=rfl
theorem rS {P:Program}{F:aA}{L:Loc}{ρ:Env}{K:dI}{key n:Nat}{a x:X}{d:Option Nat}:evalOp P (.storeK key n a x) d F L ρ K=(match iz (aM (val L ρ x)) n,kg (aM (val L ρ x)),ev ρ a with
  | true,true,.own k off=>match Nat.beq k key with
   | true=>match L.get k with
    | Option.some (.box g t cs)=>match jt t ((cs.drop off).take n) n with
     | true=>K F (L.set k (.box g t (bV cs off (aM (val L ρ x))))) (put d (.v undef) ρ)
     | false=>False
    | _=>False
   | false=>False
  | _,_,_=>False):=rfl
theorem iS {P:Program}{F:aA}{L:Loc}{ρ:Env}{K:dI}{o:dZ}{d:Option Nat}(m:iR o=true) (b:evalOp P o d F L ρ K) :
  ∃n a x k off g t cs,(o=.storeD n a x\/o=.storeK k n a x)/\iz (aM (val L ρ x)) n=true/\kg (aM (val L ρ x))=true/\ev ρ a=.own k off/\L.get k=some (.box g t cs)/\jt t ((cs.drop off).take n) n=true /\
   K F (L.set k (.box g t (bV cs off (aM (val L ρ x))))) (put d (.v undef) ρ):=by
 cases o<;>first | (cases m;done) | skip
 case storeD n a x =>
  rw[rR] at b;split at b
  case h_2=>exact b.elim
  rename_i k off f j e;split at b
  case h_2=>exact b.elim
  rename_i g t cs c;split at b
  case h_2=>exact b.elim
  rename_i h;exact⟨n,a,x,k,off,g,t,cs,.inl rfl,f,j,e,c,h,b⟩
 case storeK key n a x =>
  rw[rS] at b;split at b
  case h_2=>exact b.elim
  rename_i k off f j e;split at b
  case h_2=>exact b.elim
  rename_i l;have l:=aaR l;subst l;split at b
  case h_2=>exact b.elim
  rename_i g t cs c;split at b
  case h_2=>exact b.elim
  rename_i h;exact⟨n,a,x,k,off,g,t,cs,.inr rfl,f,j,e,c,h,b⟩
theorem iH {P:Program}{F:aA}{L:Loc}{ρ:Env}{K:dI}{o:dZ}{d:Option Nat}{n:Nat}{a x:X}{k off g:Nat}{t:TypeId}{cs:List Value}(l:o=.storeD n a x\/o=.storeK k n a x) (e:iz (aM (val L ρ x)) n=true) (j:kg (aM (val L ρ x))=true) (c:ev ρ a=.own k off) (b:L.get k=some (.box g t cs)) (f:jt t ((cs.drop off).take n) n=true)
  (h:K F (L.set k (.box g t (bV cs off (aM (val L ρ x))))) (put d (.v undef) ρ)):evalOp P o d F L ρ K:=by
 rcases l with rfl | rfl
 ·rw[rR];simp only[e,j,c,b,f];exact h
 ·rw[rS];have m:Nat.beq k k=true:=by simp
  simp only[e,j,c,m,b,f];exact h
theorem AO {x:X}{n:Int}{ρ:Env}(h:BW x=some n):∃k,ev ρ x=.v (.int k n):=by
 unfold BW at h;split at h
 ·injection h with h;subst h;exact⟨_,rfl⟩
 ·cases h
theorem Nq {L:Loc}{ρ:Env}{x:X}{k:IntKind}{m:Int}(h:val L ρ x=.int k m):ev ρ x=.v (.int k m):=by
 unfold val at h;cases e:ev ρ x with
 | v u=>rw[e] at h;exact vz SV.v h
 | own j off =>
  rw[e] at h;simp only[conc] at h;split at h<;>cases h
 | el a j =>
  rw[e] at h;cases a<;>cases h
theorem Nr {b:Nat}{n m:Int}(h:Sj b n m=true):0<=n/\n=m/\n.toNat*b<=140737488355328/\n.toNat<=maxLen:=by
 simp only[Sj,aaN] at h;obtain⟨⟨h1,h2⟩,h3⟩:=h;split at h3
 ·have h3:=aaR h3;subst h3;exact⟨by simp,rfl,abb h1,abb h2⟩
 ·cases h3
theorem Ns {P:Program}{bx:List Nat}{s s':dZ}{d:Option Nat}{F:aA}{L:Loc}{ρ:Env}{K:dI}(h:o4 bx s=some s') (f:(cT s'||hU s'||eF s'||pW s'||iR s')=true) (p:hU s'=false) (b:evalOp P s' d F L ρ K):evalOp P s d F L ρ (fun F' L' ρ'=>Real F' L'->K F' L' ρ'):=by
 unfold o4 at h;split at h
 ·split at h
  ·rename_i n m c o;split at h
   ·rename_i u;injection h with h
    subst h;obtain⟨k1,c⟩:=AO (ρ:=ρ) c;obtain⟨z,o⟩:=AO (ρ:=ρ) o;obtain⟨m1,m2,m3,m4⟩:=Nr u;subst m2;simp only[evalOp,c,o] at b ⊢;split at b
    ·rename_i k;split at b
     ·rename_i q _ _;simp only[q];exact⟨m1,aa7 _,m3,m4,b⟩
     ·exact b.elim
    ·exact b.elim
   ·cases h
  ·split at h
   ·rename_i i j _ _;split at h
    ·rename_i l;have l:=aaR l;subst l;injection h with h
     subst h;simp only[evalOp] at b ⊢;split at b
     ·rename_i k;split at b
      ·rename_i q _ u;obtain⟨ki,m,c,m1,m2,m3,m4⟩:=C9 u;have o:=Nq c;simp only[o,q];rw[m2] at b;exact⟨m1,aa7 _,m3,m4,b⟩
      ·exact b.elim
     ·exact b.elim
    ·cases h
   ·cases h
 ·rename_i e sz;injection h with h
  subst h;simp only[evalOp] at b ⊢;split at b
  ·rename_i k;split at b
   ·rename_i q _ _;simp only[gC,q];exact b
   ·exact b.elim
  ·exact b.elim
 ·rename_i a n i;split at h
  ·injection h with h
   subst h;refine sF (s:=.load a n (.t i)) (s':=.loadD a n (.t i)) rfl rfl rfl ?_;simp only[evalOp,aK] at b ⊢;split at b
   ·rename_i k off e;simp only[e];split at b
    ·exact b
    ·exact b.elim
   ·exact b.elim
  ·injection h with h
   subst h;exact sF (s:=.load a n (.t i)) rfl f p b
 ·rename_i n i x;split at h
  ·injection h with h
   subst h;obtain⟨n',a',x',k,off,g,t,cs,r,c,o,w,v,y,b⟩:=iS rfl b;rcases r with r | r
   ·cases r
   ·injection r with h1 h2 h3 h4
    subst h1 h2 h3 h4;exact sF (s:=.store n (.t i) x) (s':=.storeD n (.t i) x) rfl rfl rfl (iH (.inl rfl) c o w v y b)
  ·injection h with h
   subst h;exact sF (s:=.store n (.t i) x) rfl f p b
 ·exact sF h f p b
def Loc.sameAs (L L':Loc):Prop:=∀j,L'.get j=L.get j
theorem xW {P:Program}{f:Nat}{args:List Value}{F:aA}{L:Loc}{d:Option Nat}{KK:aA->Loc->Value->Prop}(h:dQ P f args F L d KK):d9 P f args F L (fun F' L' v=>∃L2,L'.sameAs L2/\(Real F' L2->KK F' L2 v)):=by
 cases h with
 | frz R h1 h2 =>
  refine⟨[],[],[],R,rfl,List.nodup_nil,List.nodup_nil,fun _ h=>(by cases h),h1,fun v F' Lo a m=>?_⟩;obtain⟨rfl,h4⟩:=h2 v F' Lo a m;exact⟨rfl,fun _ _ _ _ h=>(by cases h),_,fun _=>rfl,h4⟩
 | own R k h1 hd q h2 =>
  refine⟨[],[k],[],R,rfl,List.nodup_nil,by simp,fun j p=>.inr (by simp at p;rw[p];exact q),h1,fun v F' Lo a m=>?_⟩;obtain⟨o,rfl,h4⟩:=h2 v F' Lo a m;exact⟨rfl,fun _ _ _ _ h=>(by cases h),_,fun _=>rfl,h4⟩
 | row R s z t sz n xs h1 q h2 =>
  refine⟨[s],[s],[.row z t sz n xs],fun F Lo v=>Lo=[.row (.slice none 0 0) t sz 0 []]/\R F [] v,?_,by simp,by simp,fun j p=>.inl p,⟨h1.ent,fun F G L v a hr=>⟨hr.1,h1.mono _ _ _ _ a hr.2⟩,fun w hs=>(h1.run w hs).mono ?_⟩,fun v F' Lo a m=>?_⟩
  ·simp only[Loc.sub,q]
  ·rintro e w' ⟨v,F',Lo,rfl,u,l,m⟩;obtain⟨rfl,_⟩:=h2 v F' Lo l.le m;have hb:(Own.row (.slice none 0 0) t sz 0 []).blk=none:=rfl;have x:∀j o,Loc.get (inp [.row (.slice none 0 0) t sz 0 []]) j=some o->o=.row (.slice none 0 0) t sz 0 []:=by
    intro j o e;rw[aI] at e;split at e
    ·cases p:j-1000 with
     | zero=>rw[p] at e;simpa using e.symm
     | succ i=>rw[p] at e;simp at e
    ·cases e
   have y:∀b,¬(inp [.row (.slice none 0 0) t sz 0 []]).owns b:=by
    rintro b ⟨j,o,e,c⟩;rw[x j o e,hb] at c;cases c
   refine⟨v,F',_,rfl,⟨u.frz,fun j o e=>?_,fun j o g e c=>?_,fun j j' o o' g e e' c=>?_,u.glob⟩,⟨l.le,l.os,l.tape,l.output,l.size,l.same,l.frz,fun b hb=>vv hb (y b)⟩,rfl,m⟩
   ·rw[x j o e];exact World.ownsRow_nil w' 0 t sz
   ·rw[x j o e,hb] at c;cases c
   ·rw[x j o e,hb] at c;cases c
  ·obtain⟨rfl,m⟩:=m;obtain⟨_,h4⟩:=h2 v F' [] a m;refine⟨rfl,fun k g t' cs r e=>?_,L.set s (.row (.slice none 0 0) t sz 0 []),fun j=>?_,h4⟩
   ·rw[abK.1 r,q] at e;cases e
   ·simp only[Loc.aaf,Loc.puts,Loc.aac,Loc.aah];split<;>rfl
 | lent R s z t sz n xs h1 q h2 =>
  refine⟨[s],[s],[.row z t sz n xs],_,by simp only[Loc.sub,q],by simp,by simp,fun j p=>.inl p,h1,fun v F' Lo a m=>?_⟩;obtain⟨rfl,m⟩:=m;refine⟨rfl,fun k g t' cs r e=>?_,L,fun j=>?_,h2 v F' a m⟩
  ·rw[abK.1 r,q] at e;cases e
  ·simp only[Loc.aaf,Loc.puts,Loc.aac,Loc.aah];split
   ·rename_i p;rw[p,q]
   ·rfl
theorem Nt {P:Program}{bx:List Nat}{s s':dZ}{d:Option Nat}{F:aA}{L:Loc}{ρ:Env}{K:dI}(h:o4 bx s=some s') (a:hU s'=true) (b:evalOp P s' d F L ρ K):evalOp P s d F L ρ (fun F' L' ρ'=>∃L2,L'.sameAs L2/\(Real F' L2->K F' L2 ρ')):=by
 unfold o4 at h;split at h
 ·split at h
  ·split at h
   ·injection h with h;subst h;cases a
   ·cases h
  ·split at h
   ·split at h
    ·injection h with h;subst h;cases a
    ·cases h
   ·cases h
 ·injection h with h;subst h;cases a
 ·split at h
  ·injection h with h;subst h;cases a
  ·injection h with h;subst h;cases a
 ·split at h
  ·injection h with h;subst h;cases a
  ·injection h with h;subst h;cases a
 ·cases s<;>simp only[drawn,aaO,reduceCtorEq] at h<;>subst h<;>first | (cases a;done) | skip
  ·simp only[evalOp] at b ⊢;exact xW b
  ·simp only[evalOp] at b ⊢;split at b
   ·exact xW b
   ·exact b.elim
theorem xX {fl bx:List Nat}{bk:List (Nat×Nat)}{s s':dZ}(h:uV fl bk bx s=some s'):o4 bx s=some s'\/(∃a n i,s=.load a n (.t i)/\s'=.loadF a n (.t i))\/(∃a n i key,s=.load a n (.t i)/\s'=.loadK key a n (.t i))\/(∃a n i,s=.load a n (.t i)/\s'=.loadR a n (.t i)):=by
 unfold uV at h;split at h
 ·rename_i a n i;split at h
  ·injection h with h
   exact .inr (.inl ⟨a,n,i,rfl,h.symm⟩)
  ·split at h
   ·rename_i key _;split at h
    ·injection h with h
     exact .inr (.inr (.inr ⟨a,n,i,rfl,h.symm⟩))
    ·injection h with h
     exact .inr (.inr (.inl ⟨a,n,i,key,rfl,h.symm⟩))
   ·exact .inl h
 ·exact .inl h
theorem Iq {o:Bool}{n:Nat}{x:X}{F:aA}{L:Loc}{ρ:Env}{V V':SV->Prop}(h:aK (.load o n x) F L ρ V) (a:∀v,V v->V' v):aK (.load o n x) F L ρ V':=by
 have:=One.mono (T:=fun V=>aK (.loadR o n x) F L ρ V) (fp rfl) V V' a h;exact this
theorem Nu {P:Program}{fl bx:List Nat}{bk:List (Nat×Nat)}{s s':dZ}{d:Option Nat}{F:aA}{L:Loc}{ρ:Env}{K:dI}(h:uV fl bk bx s=some s') (c:(cT s'||hU s'||eF s'||pW s'||iR s')=true) (f:hU s'=false) (b:evalOp P s' d F L ρ K):evalOp P s d F L ρ (fun F' L' ρ'=>Real F' L'->K F' L' ρ'):=by
 rcases xX h with h | ⟨a,n,i,rfl,rfl⟩ | ⟨a,n,i,key,rfl,rfl⟩ | ⟨a,n,i,rfl,rfl⟩
 rotate_left 3
 ·have b:aK (.load a n (.t i)) F L ρ (fun v=>K F L (put d v ρ)):=b;exact Iq b fun v h _=>h
 ·exact Ns h c f b
 ·refine sF (s:=.load a n (.t i)) (s':=.loadD a n (.t i)) rfl rfl rfl ?_;simp only[evalOp,aK] at b ⊢;split at b
  ·rename_i e;simp only[e];exact b
  ·rename_i e;simp only[e];exact b
  ·exact b.elim
 ·refine sF (s:=.load a n (.t i)) (s':=.loadD a n (.t i)) rfl rfl rfl ?_;simp only[evalOp,aK] at b ⊢;split at b
  ·rename_i k off e;simp only[e];split at b
   ·exact b
   ·exact b.elim
  ·exact b.elim
theorem Kf {P:Program}{fl bx:List Nat}{bk:List (Nat×Nat)}{s s':dZ}{d:Option Nat}{F:aA}{L:Loc}{ρ:Env}{K:dI}(h:uV fl bk bx s=some s') (b:hU s'=true) (c:evalOp P s' d F L ρ K):evalOp P s d F L ρ (fun F' L' ρ'=>∃L2,L'.sameAs L2/\(Real F' L2->K F' L2 ρ')):=by
 rcases xX h with h | ⟨a,n,i,rfl,rfl⟩ | ⟨a,n,i,key,rfl,rfl⟩ | ⟨a,n,i,rfl,rfl⟩
 ·exact Nt h b c
 ·cases b
 ·cases b
 ·cases b
end Go.Fr
